/- A sink, walked: New, Deliver, Given, Room; and a buffer with a text. -/
import Derived.Test.YtcakeolnokninaaDoorEdit
import Derived.Test.YtcakeolnokninaaDoorStr
import Derived.Deep.QuietTactic
import Derived.BigQuiet
set_option linter.unusedVariables false
namespace Go.Proofs.YtcakeolnokninaaDoor.Snk
open Go.RowKit Go.Lib Go.Shelf ChangeShapes Mem Utf Edit

theorem Buf.drewN {w : World} {b a c N : Nat} {t : List UInt8} {p : Nat} (h : Buf w b a c N t p) (n : Nat) : Buf (w.drewN n) b a c N t p := ⟨h.head, ⟨h.ar.head, h.ar.body, h.ar.ne, h.ar.fit, h.ar.pos, h.ar.max⟩, h.ba, h.bc, h.le⟩
theorem But.drewN {S : List Nat} (w : World) (n : Nat) : But S w (w.drewN n) := ⟨rfl, rfl, rfl, Nat.le_refl _, fun _ _ _ => rfl⟩

/-- A sink's block. -/
def sinkC (A : Option Addr) (m : Nat) (n : Int) (g : Bool) : Array Value := #[.slice A m m, .int .i64 n, .bool g]

theorem newS (A : Option Addr) (m cap : Nat) (hcap : m ≤ cap) (h0 : A = none → cap = 0) (w : World) :
    Calls Tryd.prog 14 #[.slice A m cap] w fun e w' => e = .returned (.pointer (some ⟨w.heap.size, 0, none⟩)) ∧ Blk w' w.heap.size (sinkC A m 0 false) 73 ∧ Below w.heap.size w w' := by
  have hm : (m : Int) ≤ (cap : Int) := by omega
  cases A with
  | none =>
    obtain rfl := h0 rfl
    obtain rfl : m = 0 := by omega
    go_enter Tryd.func14, Tryd.ntmps14
    go_wp2
    go_ret
    exact ⟨rfl, Blk.new _ _ _, (Below.refl _ _).alloc (Nat.le_refl _) _⟩
  | some a =>
    clear h0
    go_enter Tryd.func14, Tryd.ntmps14
    go_wp2
    go_ret
    exact ⟨rfl, Blk.new _ _ _, (Below.refl _ _).alloc (Nat.le_refl _) _⟩

theorem deliver_none (v : Value) (w : World) : Calls Tryd.prog 15 #[.pointer none, v] w fun e w' => e = .returned (.tuple #[.int .i64 0, .int .i64 1]) ∧ w' = w := by
  go_enter Tryd.func15, Tryd.ntmps15
  go_wp2
  go_ret2
  exact ⟨rfl, rfl⟩
theorem deliver_nil (s : Nat) (w : World) : Calls Tryd.prog 15 #[.pointer (some ⟨s, 0, none⟩), .pointer none] w fun e w' => e = .returned (.tuple #[.int .i64 0, .int .i64 1]) ∧ w' = w := by
  go_enter Tryd.func15, Tryd.ntmps15
  go_wp2
  go_ret2
  exact ⟨rfl, rfl⟩
theorem given_none (w : World) : Calls Tryd.prog 17 #[.pointer none] w fun e w' => e = .returned (.tuple #[.int .i64 0, .bool false]) ∧ w' = w := by
  go_enter Tryd.func17, Tryd.ntmps17
  go_wp2
  go_ret2
  exact ⟨rfl, rfl⟩
theorem room_none (w : World) : Calls Tryd.prog 18 #[.pointer none] w fun e w' => e = .returned (.int .i64 0) ∧ w' = w := by
  go_enter Tryd.func18, Tryd.ntmps18
  go_wp2
  go_ret
  exact ⟨rfl, rfl⟩

theorem given (s : Nat) (A : Option Addr) (m : Nat) (n : Int) (g : Bool) (w : World) (h : Blk w s (sinkC A m n g) 73) :
    Calls Tryd.prog 17 #[.pointer (some ⟨s, 0, none⟩)] w fun e w' => e = .returned (.tuple #[.int .i64 n, .bool g]) ∧ But [] w w' := by
  have c1 := h.cell (j := 1) (v := .int .i64 n) rfl
  have c2 := h.cell (j := 2) (v := .bool g) rfl
  clear h
  go_enter Tryd.func17, Tryd.ntmps17
  go_wp2
  go_region
  go_wp2
  go_ret2
  exact ⟨rfl, (But.refl _ _).drew⟩

set_option maxRecDepth 100000 in
set_option maxHeartbeats 1000000 in
theorem deliver_small {b a c N p : Nat} {t : List UInt8} (s : Nat) (A : Option Addr) (m : Nat) (w : World) (h : Blk w s (sinkC A m 0 false) 73) (hb : Buf w b a c N t p) (hl : m < t.length) :
    Calls Tryd.prog 15 #[.pointer (some ⟨s, 0, none⟩), .pointer (some ⟨b, 0, none⟩)] w fun e w' => e = .returned (.tuple #[.int .i64 0, .int .i64 12]) ∧ But [] w w' := by
  have c0 := h.cell (j := 0) (v := .slice A m m) rfl
  have c2 := h.cell (j := 2) (v := .bool false) rfl
  have H1 : Hid (∀ n, Calls Tryd.prog 41 #[.pointer (some ⟨b, 0, none⟩)] (w.drewN n) fun e w' => e = .returned (.int .i64 (t.length : Int)) ∧ w' = w.drewN n) := fun n => lenB (w.drewN n) (Buf.drewN hb n)
  have hlt : (m : Int) < (t.length : Int) := by omega
  clear h hb
  go_enter Tryd.func15, Tryd.ntmps15
  go_wp2
  go_quiet ((go_at_call 41; exact Calls.quiet_of_same (H1.out _)))
  go_wp2
  go_ret2
  exact ⟨rfl, But.drewN _ _⟩

set_option maxRecDepth 100000 in
set_option maxHeartbeats 1000000 in
theorem deliver_ok {b a c N p : Nat} {t : List UInt8} (s : Nat) (A : Option Addr) (m : Nat) (g off : Nat) (cur : List Value) (w : World) (h : Blk w s (sinkC A m 0 false) 73) (hb : Buf w b a c N t p) (hl : t.length ≤ m) (hg : Win w g off cur) (hA : 0 < m → A = some ⟨g, off, none⟩) (hfit : m ≤ cur.length) (hsg : s ≠ g) :
    Calls Tryd.prog 15 #[.pointer (some ⟨s, 0, none⟩), .pointer (some ⟨b, 0, none⟩)] w fun e w' => e = .returned (.tuple #[.int .i64 (t.length : Int), .int .i64 0]) ∧ Blk w' s (sinkC A m (t.length : Int) true) 73 ∧ Win w' g off (splice cur 0 (cellsB t)) ∧ But [s, g] w w' := by
  have c0 := h.cell (j := 0) (v := .slice A m m) rfl
  have c2 := h.cell (j := 2) (v := .bool false) rfl
  have H1 : Hid (∀ n, Calls Tryd.prog 41 #[.pointer (some ⟨b, 0, none⟩)] (w.drewN n) fun e w' => e = .returned (.int .i64 (t.length : Int)) ∧ w' = w.drewN n) := fun n => lenB (w.drewN n) (Buf.drewN hb n)
  have H2 : Hid (∀ n, Calls Tryd.prog 42 #[.pointer (some ⟨b, 0, none⟩), .slice A m m] (w.drewN n) fun e w' => e = .returned (.int .i64 (t.length : Int)) ∧ Win w' g off (splice cur 0 (cellsB t)) ∧ But [g] w w') := fun n => (copyB A m m g off cur (w.drewN n) (Buf.drewN hb n) ⟨hg.cell, hg.free⟩ hA hfit).mono fun e w' ⟨he, hk, hbt⟩ => by
    rw [Nat.min_eq_right hl] at he
    rw [List.take_of_length_le hl] at hk
    exact ⟨he, hk, (But.drewN _ _).trans hbt⟩
  have hlt : ¬ (m : Int) < (t.length : Int) := by omega
  have HS := Lib.hid h
  have HSG := Lib.hid hsg
  clear h hb hg hA hsg
  go_enter Tryd.func15, Tryd.ntmps15
  go_wp2
  go_quiet ((go_at_call 41; exact Calls.quiet_of_same (H1.out _)))
  go_wp2_with (go_at_call 42; refine (H2.out _).mono ?_; rintro e w3 ⟨rfl, hk3, hb3⟩; have hs3 := HS.out.but hb3 (by simp; exact HSG.out); have g1 := hs3.cell (j := 1) (v := .int .i64 0) rfl; have g2 := hs3.cell (j := 2) (v := .bool false) rfl; have gf1 := hs3.free 1; have gf2 := hs3.free 2; have HS3 := Lib.hid hs3; have HK3 := Lib.hid hk3; have HB3 := Lib.hid hb3; clear hs3 hk3 hb3)
  go_ret2
  exact ⟨rfl, Blk.set (Blk.set HS3.out 1 _) 2 _, Win.set (Win.set HK3.out _ HSG.out _) _ HSG.out _, ((HB3.out.mono (by simp)).set (Or.inl (by simp)) _).set (Or.inl (by simp)) _⟩

/-- What a buffer made of a text has. -/
def rightT (l : List UInt8) : List UInt8 := if fineT l && decide (l.length ≤ 1024) then l else []

set_option maxHeartbeats 1000000 in
theorem right (l : List UInt8) (A : Option Addr) (cap : Nat) (w : World) (hA : BytesAt w A l) (hcap : l.length ≤ cap) (hm : l.length ≤ 140737488355328) :
    Calls Tryd.prog 12 #[.slice A l.length cap] w fun e w' => e = .returned (if fineT l && decide (l.length ≤ 1024) then .slice A l.length cap else .slice none 0 0) ∧ Below w.heap.size w w' := by
  have H1 := Lib.hid (refFineT l A cap w hA hcap hm)
  clear hA
  generalize fineT l = q at *
  cases q
  · go_enter Tryd.func12, Tryd.ntmps12
    go_wp2_with (go_at_call 40; refine (H1.out).mono ?_; rintro e w1 ⟨rfl, hb1⟩)
    go_ret
    exact ⟨rfl, hb1⟩
  · by_cases h : l.length ≤ 1024
    · rw [decide_eq_true h]
      have h' : (l.length : Int) ≤ 1024 := by omega
      clear h
      go_enter Tryd.func12, Tryd.ntmps12
      go_wp2_with (go_at_call 40; refine (H1.out).mono ?_; rintro e w1 ⟨rfl, hb1⟩)
      go_ret
      exact ⟨rfl, hb1⟩
    · rw [decide_eq_false h]
      have h' : decide ((l.length : Int) ≤ 1024) = false := by simp; omega
      clear h
      go_enter Tryd.func12, Tryd.ntmps12
      go_wp2_with (go_at_call 40; refine (H1.out).mono ?_; rintro e w1 ⟨rfl, hb1⟩)
      go_ret
      exact ⟨rfl, hb1⟩

set_option maxHeartbeats 1000000 in
theorem buffer (l : List UInt8) (A : Option Addr) (cap : Nat) (w : World) (hT : Tabs w) (hA : BytesAt w A l) (hcap : l.length ≤ cap) (hm : l.length ≤ 140737488355328) :
    Calls Tryd.prog 16 #[.slice A l.length cap] w fun e w' => ∃ b a c p, e = .returned (.pointer (some ⟨b, 0, none⟩)) ∧ w.heap.size ≤ b ∧ w.heap.size ≤ a ∧ w.heap.size ≤ c ∧ Buf w' b a c 1024 (rightT l) p ∧ Below w.heap.size w w' := by
  obtain ⟨R, hR⟩ : ∃ R, rightT l = R := ⟨_, rfl⟩
  rw [hR]
  have HR := Lib.hid hR
  clear hR
  have H1 := Lib.hid (new 1024 (by decide) (by decide) w)
  have HT := Lib.hid hT
  have HA := Lib.hid hA
  clear hT hA
  go_enter Tryd.func16, Tryd.ntmps16
  go_wp2_with fail
  refine (H1.out).mono ?_
  rintro e w1 ⟨rfl, har, hb1⟩
  have H2 := Lib.hid (newB w1 har)
  have HB1 := Lib.hid hb1
  have HAR := Lib.hid har
  clear har hb1
  go_wp2_with fail
  refine (H2.out).mono ?_
  rintro e w2 ⟨b, rfl, hbs, hbuf, hb2⟩
  have hbe2 : Below w.heap.size w w2 := HB1.out.trans (hb2.below HB1.out.size (by simp))
  have hbs' : w.heap.size ≤ b := Nat.le_trans HB1.out.size hbs
  have H3 := Lib.hid (refFineT l A cap w2 (HA.out.below hbe2) hcap hm)
  have HB2 := Lib.hid hbe2
  have HBUF := Lib.hid hbuf
  clear hb2 hbe2 hbuf
  go_wp2_with fail
  refine (H3.out).mono ?_
  rintro e w3 ⟨rfl, hb3⟩
  have HB3 : Hid (Below w.heap.size w w3) := HB2.out.trans (hb3.mono HB2.out.size)
  have HBUF3 : Hid (Buf w3 b (w.heap.size + 1) w.heap.size 1024 [] 0) := HBUF.out.but (But.of_below (S := []) hb3) (by simp) (by simp) (by simp)
  clear hb3
  cases hq : fineT l
  · have hRv : R = [] := by rw [← HR.out]; unfold rightT; simp [hq]
    subst hRv
    go_wp2
    go_ret
    exact ⟨b, _, _, 0, rfl, hbs', by omega, Nat.le_refl _, HBUF3.out, HB3.out⟩
  · by_cases h : l.length ≤ 1024
    · have h' : (l.length : Int) ≤ 1024 := by omega
      have hcn : ∀ ad, A = some ad → l ≠ [] → ad.block ≠ w.heap.size := fun ad h1 h2 => by
        obtain ⟨g, o, h3, h4, _⟩ := HA.out h2
        rw [h1] at h3
        obtain rfl := Option.some.inj h3
        show g ≠ _
        omega
      have H4 := Lib.hid (insB_ok A l cap w3 (HT.out.below HB3.out) HBUF3.out (HA.out.below HB3.out) hcap hm hq (by simpa using h) hcn)
      have hRv : R = l := by rw [← HR.out]; unfold rightT; simp [hq, h]
      subst hRv
      clear h hcn
      go_wp2_with (go_at_call 44; refine (H4.out).mono ?_; rintro e w4 ⟨rfl, hbuf4, hb4⟩)
      go_ret
      refine ⟨b, w.heap.size + 1, w.heap.size, R.length, rfl, hbs', by omega, Nat.le_refl _, by simpa using hbuf4, HB3.out.trans (hb4.below HB3.out.size ?_)⟩
      intro k hk
      simp at hk
      omega
    · have h' : decide ((l.length : Int) ≤ 1024) = false := by simp; omega
      have hRv : R = [] := by rw [← HR.out]; unfold rightT; simp [h]
      subst hRv
      clear h
      go_wp2
      go_ret
      exact ⟨b, _, _, 0, rfl, hbs', by omega, Nat.le_refl _, HBUF3.out, HB3.out⟩

end Go.Proofs.YtcakeolnokninaaDoor.Snk

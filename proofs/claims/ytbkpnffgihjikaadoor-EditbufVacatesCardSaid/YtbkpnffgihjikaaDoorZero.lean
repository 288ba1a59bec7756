/- An arena's cells asked: zero, Zero, Clean. -/
import Derived.Test.YtbkpnffgihjikaaDoorKeys1
import Derived.Test.YtbkpnffgihjikaaDoorEdL
set_option linter.unusedVariables false
namespace Go.Proofs.YtbkpnffgihjikaaDoor.Edit
open Go.RowKit Go.Lib Go.Shelf ChangeShapes Mem Utf UtfP

def allZ (l : List UInt8) : Bool := decide (∀ j, j < l.length → bt l j = 0)

theorem allZ_replicate (n : Nat) : allZ (List.replicate n 0) = true := by
  unfold allZ
  rw [decide_eq_true_iff]
  intro j hj
  unfold bt
  rw [List.length_replicate] at hj
  simp [List.getD_eq_getElem?_getD, hj]
theorem allZ_pad (t : List UInt8) (n : Nat) : allZ (t ++ List.replicate n 0) = allZ t := by
  have h0 := allZ_replicate n
  unfold allZ at h0 ⊢
  rw [decide_eq_true_iff] at h0
  rw [decide_eq_decide]
  constructor
  · intro h j hj
    rw [← bt_append_left hj (m := List.replicate n 0)]
    exact h j (by rw [List.length_append]; omega)
  · intro h j hj
    by_cases hjl : j < t.length
    · rw [bt_append_left hjl]; exact h j hjl
    · rw [bt_append_right (by omega)]
      exact h0 _ (by rw [List.length_append] at hj; omega)

set_option maxHeartbeats 1000000 in
theorem zero_c (l : List UInt8) (A : Option Addr) (cap : Nat) (w : World) (hA : BytesAt w A l) (hm : l.length ≤ 140737488355328) :
    Calls Tryd.prog 63 #[.slice A l.length cap] w fun e w' => e = .returned (.bool (allZ l)) ∧ w' = w := by
  have HA := Lib.hid hA
  clear hA
  obtain ⟨R, hR⟩ : ∃ R, allZ l = R := ⟨_, rfl⟩
  rw [hR]
  have HR := Lib.hid hR
  clear hR
  go_enter Tryd.func63, Tryd.ntmps63
  go_wp2
  go_loop [7] (fun i => ∃ j : Nat, i = .int .i64 (j : Int) ∧ j ≤ l.length ∧ Hid (∀ i, i < j → bt l i = 0)) (fun i => l.length - (RowKit.intOf i).toNat)
  case atStart => exact ⟨0, rfl, by omega, fun i h => absurd h (Nat.not_lt_zero _)⟩
  case round =>
    obtain ⟨j, rfl, hj, HJ⟩ := hrel
    by_cases hlt : j < l.length
    · have k0 : (j : Int) < (l.length : Int) := by omega
      obtain ⟨g, off, rfl, hg, hc⟩ := HA.out (List.length_pos_iff.1 (by omega : 0 < l.length))
      have q0 := hc j hlt
      clear hc hg
      obtain ⟨x, hx⟩ : ∃ x, bt l j = x := ⟨_, rfl⟩
      rw [hx] at q0
      have HX := Lib.hid hx
      clear hx
      by_cases hz : x = 0
      · subst hz
        go_wp2
        go_round
        case rel =>
          refine ⟨j + 1, by go_num, by omega, fun i hi => ?_⟩
          by_cases e : i = j
          · subst e; exact HX.out
          · exact HJ.out i (by omega)
        case measure => simp [RowKit.intOf]; omega
      · have k2 : ((x : Int) != 0) = true := by rw [bne_iff_ne]; omega
        go_wp2
        go_ret
        refine ⟨?_, rfl⟩
        have : allZ l = false := by
          unfold allZ
          rw [decide_eq_false_iff_not]
          intro h
          exact hz (by rw [← HX.out]; exact h j hlt)
        rw [← HR.out, this]; rfl
    · have hge : decide ((j : Int) < (l.length : Int)) = false := by simp; omega
      have hge' : decide (j < l.length) = false := by simp; omega
      have hjl : j = l.length := by omega
      have Hj := Lib.hid hjl
      clear hlt hjl
      go_wp2
      go_ret
      refine ⟨?_, rfl⟩
      have : allZ l = true := by
        unfold allZ
        rw [decide_eq_true_iff, ← Hj.out]
        exact HJ.out
      rw [← HR.out, this]; rfl

theorem cells_bytes {w : World} {c : Nat} {l : List UInt8} (h : Blk w c (cellsB l).toArray 5) (k : Nat) : BytesAt w (some ⟨c, k, none⟩) (l.drop k) := by
  intro hne
  refine ⟨c, k, rfl, h.lt, fun j hj => ?_⟩
  rw [List.length_drop] at hj
  have := cellsB_get l (k + j) (by omega)
  rw [h.cell (j := k + j) (v := .int .u8 ((l.getD (k + j) 0).toNat : Int)) (by simpa using this)]
  unfold bt
  rw [List.getD_eq_getElem?_getD, List.getD_eq_getElem?_getD, List.getElem?_drop]

theorem zeroA {a c N : Nat} {t : List UInt8} (w : World) (h : Ar w a c N t) :
    Calls Tryd.prog 25 #[.pointer (some ⟨a, 0, none⟩)] w fun e w' => e = .returned (.bool (allZ t)) ∧ w' = w := by
  have c0 := h.head.cell (j := 0) (v := .slice (some ⟨c, 0, none⟩) N N) rfl
  have hl : (t ++ List.replicate (N - t.length) (0 : UInt8)).length = N := by have := h.fit; simp; omega
  have hb := cells_bytes h.body 0
  rw [List.drop_zero] at hb
  have H1 := zero_c _ _ N w hb (by rw [hl]; have := h.max; omega)
  rw [hl, allZ_pad] at H1
  have H1 := Lib.hid H1
  clear hl hb h
  go_enter Tryd.func25, Tryd.ntmps25
  go_wp2_with (go_at_call 63; refine (H1.out).mono ?_; rintro e w1 ⟨rfl, hq⟩; obtain rfl := hq.symm)
  go_ret
  exact ⟨rfl, rfl⟩

set_option maxHeartbeats 1000000 in
theorem cleanA {a c N : Nat} {t : List UInt8} (w : World) (h : Ar w a c N t) :
    Calls Tryd.prog 46 #[.pointer (some ⟨a, 0, none⟩)] w fun e w' => e = .returned (.bool true) ∧ ∃ n, w' = w.drewN n := by
  have c0 := h.head.cell (j := 0) (v := .slice (some ⟨c, 0, none⟩) N N) rfl
  have c1 := h.head.cell (j := 1) (v := .int .i64 (t.length : Int)) rfl
  have htN : (t.length : Int) ≤ (N : Int) := by have := h.fit; omega
  have htn := h.fit
  have hb := cells_bytes h.body t.length
  have hmx := h.max
  rw [List.drop_left] at hb
  have HZ : Hid (∀ n A' m cap, A' = (if N = t.length then (some ⟨c, 0, none⟩ : Option Addr) else some ⟨c, t.length, none⟩) → m = N - t.length → Calls Tryd.prog 63 #[.slice A' m cap] (w.drewN n) fun e w' => e = .returned (.bool true) ∧ w' = w.drewN n) := by
    intro n A' m cap hA' hm
    have hb' : BytesAt (w.drewN n) A' (List.replicate m 0) := by
      intro hne
      rw [hA', if_neg (by intro e; rw [hm, e, Nat.sub_self] at hne; exact hne rfl)]
      rw [hm] at hne ⊢
      exact hb hne
    have := zero_c (List.replicate m 0) A' cap (w.drewN n) hb' (by rw [List.length_replicate]; omega)
    rw [List.length_replicate, allZ_replicate] at this
    exact this
  clear hb h hmx
  go_enter Tryd.func46, Tryd.ntmps46
  go_wp2
  go_quiet ((go_at_call 63; exact Calls.quiet_of_same (HZ.out _ _ _ _ rfl rfl)))
  go_wp2
  all_goals
    go_ret
    exact ⟨rfl, _, rfl⟩

theorem new_ex (n : Nat) (h1 : 1 ≤ n) (h2 : n ≤ 4096) (w : World) : Calls Tryd.prog 22 #[.int .i64 (n : Int)] w fun e w' => ∃ a c, e = .returned (.tuple #[.pointer (some ⟨a, 0, none⟩), .int .i64 0]) ∧ w.heap.size ≤ a ∧ w.heap.size ≤ c ∧ Ar w' a c n [] ∧ Below w.heap.size w w' :=
  (new n h1 h2 w).mono fun e w' ⟨he, h, hb⟩ => ⟨_, _, he, by omega, Nat.le_refl _, h, hb⟩

theorem cell_pad {a c N : Nat} {t : List UInt8} (i : Nat) (w : World) (h : Ar w a c N t) (hi : t.length ≤ i) (hN : i < N) :
    Calls Tryd.prog 51 #[.pointer (some ⟨a, 0, none⟩), .int .i64 (i : Int)] w fun e w' => e = .returned (.tuple #[.int .u8 0, .int .i64 0]) ∧ w' = w := by
  have c0 := h.head.cell (j := 0) (v := .slice (some ⟨c, 0, none⟩) N N) rfl
  have hl : i < (t ++ List.replicate (N - t.length) (0 : UInt8)).length := by rw [List.length_append, List.length_replicate]; omega
  have cv : w.cell? ⟨c, i, none⟩ = some (.int .u8 0) := by
    have := h.body.cell (j := i) (v := .int .u8 (((t ++ List.replicate (N - t.length) (0 : UInt8)).getD i 0).toNat : Int)) (by simpa using cellsB_get _ i hl)
    rw [this]
    rw [List.getD_eq_getElem?_getD, List.getElem?_append_right hi, List.getElem?_replicate_of_lt (by omega)]
    rfl
  have k0 : (i : Int) < (N : Int) := by omega
  have k1 : decide ((N : Int) ≤ (i : Int)) = false := by simp; omega
  clear h hi hl hN
  go_enter Tryd.func51, Tryd.ntmps51
  go_wp2
  go_ret2
  exact ⟨rfl, rfl⟩

theorem clear_nil (w : World) : Calls Tryd.prog 43 #[.pointer none] w fun e w' => e = .returned (.tuple #[]) ∧ w' = w := by
  go_enter Tryd.func43, Tryd.ntmps43
  go_wp2
  go_end0
  exact ⟨rfl, rfl⟩

theorem clearB {b a c N p : Nat} {t : List UInt8} (w : World) (h : Buf w b a c N t p) :
    Calls Tryd.prog 43 #[.pointer (some ⟨b, 0, none⟩)] w fun e w' => e = .returned (.tuple #[]) ∧ Buf w' b a c N [] 0 ∧ But [b, a, c] w w' := by
  have H := Lib.hid h
  have c0 := h.head.cell (j := 0) (v := .pointer (some ⟨a, 0, none⟩)) rfl
  have H1 := Lib.hid (wipe w h.ar)
  clear h
  go_enter Tryd.func43, Tryd.ntmps43
  go_wp2_with (go_at_call 60; refine (H1.out).mono ?_; rintro e w1 ⟨rfl, har, hb1⟩; have hh1 := H.out.head.but hb1 (by simp; exact ⟨H.out.ba, H.out.bc⟩); have g1 := hh1.cell (j := 1) (v := .int .i64 (p : Int)) rfl; have gf := hh1.free 1; have HH1 := Lib.hid hh1; have HAR := Lib.hid har; have HB1 := Lib.hid hb1; clear hh1 har hb1)
  go_end0
  exact ⟨rfl, ⟨Blk.set HH1.out 1 _, Ar.but HAR.out (But.set (S := [b]) (But.refl _ _) (Or.inl (by simp)) _) (by simp; exact fun e => H.out.ba e.symm) (by simp; exact fun e => H.out.bc e.symm), H.out.ba, H.out.bc, by simp⟩, (HB1.out.mono (by simp)).set (Or.inl (by simp)) _⟩

end Go.Proofs.YtbkpnffgihjikaaDoor.Edit

/- A buffer that is edited, walked: New, lay, Insert, Len, Copy. -/
import Derived.Test.YtbkpnffgihjikaaDoorFine
import Derived.Test.YtbkpnffgihjikaaDoorArena2
set_option linter.unusedVariables false
namespace Go.Proofs.YtbkpnffgihjikaaDoor.Edit
open Go.RowKit Go.Lib Go.Shelf ChangeShapes Mem Utf

/-- A buffer at block b over the arena (a, c, N): its bytes, its place. -/
structure Buf (w : World) (b a c N : Nat) (t : List UInt8) (p : Nat) : Prop where
  head : Blk w b #[.pointer (some ⟨a, 0, none⟩), .int .i64 (p : Int)] 97
  ar : Ar w a c N t
  ba : b ≠ a
  bc : b ≠ c
  le : p ≤ t.length

theorem Ar.but {S : List Nat} {w w' : World} {a c N : Nat} {t : List UInt8} (h : Ar w a c N t) (hb : But S w w') (ha : a ∉ S) (hc : c ∉ S) : Ar w' a c N t :=
  ⟨h.head.but hb ha, h.body.but hb hc, h.ne, h.fit, h.pos, h.max⟩
theorem Buf.but {S : List Nat} {w w' : World} {b a c N : Nat} {t : List UInt8} {p : Nat} (h : Buf w b a c N t p) (hb : But S w w') (h1 : b ∉ S) (h2 : a ∉ S) (h3 : c ∉ S) : Buf w' b a c N t p :=
  ⟨h.head.but hb h1, Ar.but h.ar hb h2 h3, h.ba, h.bc, h.le⟩

theorem BytesAt.src {w : World} {A : Option Addr} {l : List UInt8} (h : BytesAt w A l) : Src w A l := by
  intro h0
  obtain ⟨b, off, rfl, hlt, hc⟩ := h (by intro e; rw [e] at h0; simp at h0)
  refine ⟨_, rfl, fun j v hj => ?_⟩
  have hjl : j < l.length := by rw [← cellsB_length]; exact (List.getElem?_eq_some_iff.1 hj).1
  rw [WideShapes.add_plain, hc j hjl]
  rw [cellsB_get l j hjl] at hj
  exact hj

theorem newB_nil (w : World) : Calls Tryd.prog 48 #[.pointer none] w fun e w' => e = .returned (.tuple #[.pointer none, .int .i64 1]) ∧ w' = w := by
  go_enter Tryd.func48, Tryd.ntmps48
  go_wp2
  go_ret2
  exact ⟨rfl, rfl⟩

theorem newB {a c N : Nat} {t : List UInt8} (w : World) (h : Ar w a c N t) :
    Calls Tryd.prog 48 #[.pointer (some ⟨a, 0, none⟩)] w fun e w' => ∃ b, e = .returned (.tuple #[.pointer (some ⟨b, 0, none⟩), .int .i64 0]) ∧ w.heap.size ≤ b ∧ Buf w' b a c N [] 0 ∧ But [a, c] w w' := by
  have H := Lib.hid h
  have H1 := Lib.hid (wipe w h)
  clear h
  go_enter Tryd.func48, Tryd.ntmps48
  go_wp2_with (go_at_call 60; refine (H1.out).mono ?_; rintro e w1 ⟨rfl, har, hb1⟩)
  go_ret2
  have hs := hb1.size
  have h1 := H.out.head.lt
  have h2 := H.out.body.lt
  refine ⟨_, rfl, hs, ⟨Blk.new _ _ _, Ar.but har (But.of_below (S := []) ((Below.refl _ _).alloc (Nat.le_refl _) _)) (by simp) (by simp), by omega, by omega, by simp⟩, hb1.alloc _⟩

set_option maxRecDepth 100000 in
set_option maxHeartbeats 1000000 in
theorem insert_nop {a c N : Nat} {t : List UInt8} (A : Option Addr) (cap : Nat) (w : World) (h : Ar w a c N t) (ha : N = t.length) :
    Calls Tryd.prog 24 #[.pointer (some ⟨a, 0, none⟩), .int .i64 (N : Int), .slice A 0 cap] w fun e w' => e = .returned (.int .i64 0) ∧ Ar w' a c N t ∧ But [a, c] w w' := by
  have H := Lib.hid h
  have HA := Lib.hid ha
  have c0 := h.head.cell (j := 0) (v := .slice (some ⟨c, 0, none⟩) N N) rfl
  have c1 := h.head.cell (j := 1) (v := .int .i64 (N : Int)) (by rw [ha]; rfl)
  have f1 := h.head.free 1
  have hmax := h.max
  have hs0 : IntKind.i64.wrap (N : Int) = (N : Int) := IntWalk.i64_in _ (by omega)
  clear h ha
  go_enter Tryd.func24, Tryd.ntmps24
  go_wp2
  go_region
  go_wp2
  obtain ⟨w2, hw2⟩ : ∃ w2, w.drew.drew = w2 := ⟨_, rfl⟩
  have d0 : w2.cell? ⟨a, 0, none⟩ = some (.slice (some ⟨c, 0, none⟩) N N) := by rw [← hw2]; exact c0
  have d1 : w2.cell? ⟨a, 1, none⟩ = some (.int .i64 (N : Int)) := by rw [← hw2]; exact c1
  have df : w2.frozen? ⟨a, 1, none⟩ = false := by rw [← hw2]; exact f1
  refine still_tail 19 (by kernel_rfl) (by kernel_rfl) ?_
  rw [hw2]
  simp only [List.take_succ_cons, List.take_zero, List.drop_succ_cons, List.drop_zero]
  repeat still_step
  refine wpStill_nil ?_
  clear c0 c1 f1
  refine wpList_copy_nothing rfl (.tmp 43) (.tmp 53) 22 22 rfl 5 Tryd.underlying22 (by kernel_rfl) _ _ _ _ _ _ rfl rfl (by simp) ?_
  go_wp2_with (with_reducible refine wpList_copy_nothing rfl (.tmp 60) (.tmp 61) 22 22 rfl 5 Tryd.underlying22 (by kernel_rfl) _ _ _ _ _ _ rfl rfl (by simp) ?_)
  go_ret
  subst hw2
  have hx := HA.out
  refine ⟨rfl, ⟨?_, ?_, H.out.ne, H.out.fit, H.out.pos, H.out.max⟩, (But.refl _ _).drew.drew.set (Or.inl (by simp)) _⟩
  · have := Blk.set (w := w.drew.drew) H.out.head 1 (.int .i64 (N : Int))
    rw [hx] at this ⊢
    exact this
  · exact Blk.other (w := w.drew.drew) H.out.body (fun e => H.out.ne e.symm) _

theorem insert_ok {a c N : Nat} {t : List UInt8} (at' : Nat) (A : Option Addr) (l : List UInt8) (cap : Nat) (w : World) (h : Ar w a c N t) (ha : at' ≤ t.length) (hl : t.length + l.length ≤ N) (hA : Src w A l) (hc : ∀ ad, A = some ad → l ≠ [] → ad.block ≠ c) :
    Calls Tryd.prog 24 #[.pointer (some ⟨a, 0, none⟩), .int .i64 (at' : Int), .slice A l.length cap] w fun e w' => e = .returned (.int .i64 0) ∧ Ar w' a c N (t.take at' ++ (l ++ t.drop at')) ∧ But [a, c] w w' := by
  by_cases hN : N = at'
  · obtain rfl : l = [] := List.eq_nil_of_length_eq_zero (by omega)
    subst hN
    have hx : N = t.length := by have := h.fit; omega
    have := insert_nop A cap w h hx
    rw [List.nil_append, List.take_append_drop]
    exact this
  · exact insert_in at' A l cap w h hN ha hl hA hc

theorem insert_full {a c N : Nat} {t : List UInt8} (at' : Nat) (A : Option Addr) (m : Nat) (cap : Nat) (w : World) (h : Ar w a c N t) (ha : at' ≤ t.length) (hl : N < t.length + m) :
    Calls Tryd.prog 24 #[.pointer (some ⟨a, 0, none⟩), .int .i64 (at' : Int), .slice A m cap] w fun e w' => e = .returned (.int .i64 4) ∧ But [] w w' := by
  have c0 := h.head.cell (j := 0) (v := .slice (some ⟨c, 0, none⟩) N N) rfl
  have c1 := h.head.cell (j := 1) (v := .int .i64 (t.length : Int)) rfl
  have hmax := h.max
  have hfit := h.fit
  clear h
  go_enter Tryd.func24, Tryd.ntmps24
  go_wp2
  go_region
  go_wp2
  go_ret
  exact ⟨rfl, (But.refl _ _).drew⟩

theorem Ar.drew {w : World} {a c N : Nat} {t : List UInt8} (h : Ar w a c N t) : Ar w.drew a c N t := ⟨h.head, h.body, h.ne, h.fit, h.pos, h.max⟩
theorem Src.drew {w : World} {A : Option Addr} {l : List UInt8} (h : Src w A l) : Src w.drew A l := h

set_option maxRecDepth 100000 in
set_option maxHeartbeats 1000000 in
theorem lay_ok {b a c N p : Nat} {t : List UInt8} (A : Option Addr) (l : List UInt8) (cap : Nat) (w : World) (h : Buf w b a c N t p) (hl : t.length + l.length ≤ N) (hA : Src w A l) (hc : ∀ ad, A = some ad → l ≠ [] → ad.block ≠ c) :
    Calls Tryd.prog 65 #[.pointer (some ⟨b, 0, none⟩), .slice A l.length cap] w fun e w' => e = .returned (.int .i64 0) ∧ Buf w' b a c N (t.take p ++ (l ++ t.drop p)) (p + l.length) ∧ But [b, a, c] w w' := by
  have H := Lib.hid h
  have hp := h.le
  have hmax := h.ar.max
  obtain ⟨w2, hw2⟩ : ∃ w2, w.drew = w2 := ⟨_, rfl⟩
  have d0 : w2.cell? ⟨b, 0, none⟩ = some (.pointer (some ⟨a, 0, none⟩)) := by rw [← hw2]; exact h.head.cell (j := 0) rfl
  have d1 : w2.cell? ⟨b, 1, none⟩ = some (.int .i64 (p : Int)) := by rw [← hw2]; exact h.head.cell (j := 1) rfl
  have H1 := Lib.hid (insert_ok p A l cap w2 (by rw [← hw2]; exact Ar.drew h.ar) h.le hl (by rw [← hw2]; exact Src.drew hA) hc)
  clear h hA hc
  go_enter Tryd.func65, Tryd.ntmps65
  go_wp2
  refine still_tail 9 (by kernel_rfl) (by kernel_rfl) ?_
  rw [hw2]
  simp only [List.take_succ_cons, List.take_zero, List.drop_succ_cons, List.drop_zero]
  repeat still_step
  refine wpStill_nil ?_
  clear d0 d1
  go_wp2_with (go_at_call 24; refine (H1.out).mono ?_; rintro e w3 ⟨rfl, har, hb3⟩; have hh3 : Blk w3 b #[.pointer (some ⟨a, 0, none⟩), .int .i64 (p : Int)] 97 := Blk.but (by rw [← hw2]; exact H.out.head) hb3 (by simp; exact ⟨H.out.ba, H.out.bc⟩); have g1 := hh3.cell (j := 1) (v := .int .i64 (p : Int)) rfl; have gf := hh3.free 1; have HH3 := Lib.hid hh3; have HAR := Lib.hid har; have HB3 := Lib.hid hb3; clear hh3 har hb3)
  go_ret
  have hb3 := HB3.out
  rw [← hw2] at hb3
  refine ⟨rfl, ⟨?_, Ar.but HAR.out (But.set (S := [b]) (But.refl _ _) (Or.inl (by simp)) _) (by simp; exact fun e => H.out.ba e.symm) (by simp; exact fun e => H.out.bc e.symm), H.out.ba, H.out.bc, ?_⟩, ?_⟩
  · exact Blk.set HH3.out 1 _
  · rw [List.length_append, List.length_append, List.length_take, List.length_drop]; omega
  · exact (((But.refl _ _).drew.trans hb3).mono (by simp)).set (Or.inl (by simp)) _

set_option maxRecDepth 100000 in
set_option maxHeartbeats 1000000 in
theorem lay_full {b a c N p : Nat} {t : List UInt8} (A : Option Addr) (m : Nat) (cap : Nat) (w : World) (h : Buf w b a c N t p) (hl : N < t.length + m) :
    Calls Tryd.prog 65 #[.pointer (some ⟨b, 0, none⟩), .slice A m cap] w fun e w' => e = .returned (.int .i64 4) ∧ But [] w w' := by
  obtain ⟨w2, hw2⟩ : ∃ w2, w.drew = w2 := ⟨_, rfl⟩
  have d0 : w2.cell? ⟨b, 0, none⟩ = some (.pointer (some ⟨a, 0, none⟩)) := by rw [← hw2]; exact h.head.cell (j := 0) rfl
  have d1 : w2.cell? ⟨b, 1, none⟩ = some (.int .i64 (p : Int)) := by rw [← hw2]; exact h.head.cell (j := 1) rfl
  have H1 := Lib.hid (insert_full p A m cap w2 (by rw [← hw2]; exact Ar.drew h.ar) h.le hl)
  clear h
  go_enter Tryd.func65, Tryd.ntmps65
  go_wp2
  refine still_tail 9 (by kernel_rfl) (by kernel_rfl) ?_
  rw [hw2]
  simp only [List.take_succ_cons, List.take_zero, List.drop_succ_cons, List.drop_zero]
  repeat still_step
  refine wpStill_nil ?_
  clear d0 d1
  go_wp2_with (go_at_call 24; refine (H1.out).mono ?_; rintro e w3 ⟨rfl, hb3⟩)
  go_ret
  rw [← hw2] at hb3
  exact ⟨rfl, (But.refl _ _).drew.trans hb3⟩

theorem insB_nil (v : Value) (w : World) : Calls Tryd.prog 32 #[.pointer none, v] w fun e w' => e = .returned (.int .i64 1) ∧ w' = w := by
  go_enter Tryd.func32, Tryd.ntmps32
  go_wp2
  go_ret
  exact ⟨rfl, rfl⟩

theorem But.of_below' {S : List Nat} {w w' : World} (h : Below w.heap.size w w') : But S w w' := But.of_below h

/-- Insert of a text: what it tells, and what there is behind it. -/
theorem insB_bad {b : Nat} (A : Option Addr) (l : List UInt8) (cap : Nat) (w : World) (hT : Tabs w) (hA : BytesAt w A l) (hcap : l.length ≤ cap) (hm : l.length ≤ 140737488355328) (hf : fineT l = false) :
    Calls Tryd.prog 32 #[.pointer (some ⟨b, 0, none⟩), .slice A l.length cap] w fun e w' => e = .returned (.int .i64 8) ∧ Below w.heap.size w w' := by
  have H1 := Lib.hid (fineGo l A cap w hT hA hcap hm)
  rw [hf] at H1
  clear hT hA hf
  go_enter Tryd.func32, Tryd.ntmps32
  go_wp2_with (go_at_call 64; refine (H1.out).mono ?_; rintro e w1 ⟨rfl, hb1⟩)
  go_ret
  exact ⟨rfl, hb1⟩

theorem Src.below {w w' : World} {A : Option Addr} {l : List UInt8} (h : Src w A l) (hb : Below w.heap.size w w') : Src w' A l := by
  intro h0
  obtain ⟨ad, rfl, h1⟩ := h h0
  refine ⟨ad, rfl, fun j v hj => ?_⟩
  have hx := h1 j v hj
  rw [hb.cell (World.block_lt_of_cell? _ _ hx)]
  exact hx

theorem insB_ok {b a c N p : Nat} {t : List UInt8} (A : Option Addr) (l : List UInt8) (cap : Nat) (w : World) (hT : Tabs w) (h : Buf w b a c N t p) (hA : BytesAt w A l) (hcap : l.length ≤ cap) (hm : l.length ≤ 140737488355328) (hf : fineT l = true)
    (hl : t.length + l.length ≤ N) (hc : ∀ ad, A = some ad → l ≠ [] → ad.block ≠ c) :
    Calls Tryd.prog 32 #[.pointer (some ⟨b, 0, none⟩), .slice A l.length cap] w fun e w' => e = .returned (.int .i64 0) ∧ Buf w' b a c N (t.take p ++ (l ++ t.drop p)) (p + l.length) ∧ But [b, a, c] w w' := by
  have H1 := Lib.hid (fineGo l A cap w hT hA hcap hm)
  rw [hf] at H1
  have H2 : Hid (∀ W, Below w.heap.size w W → Calls Tryd.prog 65 #[.pointer (some ⟨b, 0, none⟩), .slice A l.length cap] W fun e w' => e = .returned (.int .i64 0) ∧ Buf w' b a c N (t.take p ++ (l ++ t.drop p)) (p + l.length) ∧ But [b, a, c] w w') := fun W hW =>
    (lay_ok A l cap W (h.but (But.of_below (S := []) hW) (by simp) (by simp) (by simp)) hl (Src.below (BytesAt.src hA) hW) hc).mono fun e w' ⟨he, hb, hbt⟩ => ⟨he, hb, (But.of_below hW).trans hbt⟩
  clear hT hA hf h hc
  go_enter Tryd.func32, Tryd.ntmps32
  go_wp2_with (first | (go_at_call 64; refine (H1.out).mono ?_; rintro e w1 ⟨rfl, hb1⟩) | (go_at_call 65; refine (H2.out _ hb1).mono ?_; rintro e w2 ⟨rfl, hbuf, hbt⟩))
  go_ret
  exact ⟨rfl, hbuf, hbt⟩

theorem insB_full {b a c N p : Nat} {t : List UInt8} (A : Option Addr) (l : List UInt8) (cap : Nat) (w : World) (hT : Tabs w) (h : Buf w b a c N t p) (hA : BytesAt w A l) (hcap : l.length ≤ cap) (hm : l.length ≤ 140737488355328) (hf : fineT l = true)
    (hl : N < t.length + l.length) :
    Calls Tryd.prog 32 #[.pointer (some ⟨b, 0, none⟩), .slice A l.length cap] w fun e w' => e = .returned (.int .i64 4) ∧ Below w.heap.size w w' := by
  have H1 := Lib.hid (fineGo l A cap w hT hA hcap hm)
  rw [hf] at H1
  have H2 : Hid (∀ W, Below w.heap.size w W → Calls Tryd.prog 65 #[.pointer (some ⟨b, 0, none⟩), .slice A l.length cap] W fun e w' => e = .returned (.int .i64 4) ∧ Below w.heap.size w w') := fun W hW =>
    (lay_full A l.length cap W (h.but (But.of_below (S := []) hW) (by simp) (by simp) (by simp)) hl).mono fun e w' ⟨he, hbt⟩ => ⟨he, hW.trans ((hbt.below (Nat.le_refl _) (by simp)).mono hW.size)⟩
  clear hT hA hf h
  go_enter Tryd.func32, Tryd.ntmps32
  go_wp2_with (first | (go_at_call 64; refine (H1.out).mono ?_; rintro e w1 ⟨rfl, hb1⟩) | (go_at_call 65; refine (H2.out _ hb1).mono ?_; rintro e w2 ⟨rfl, hbt⟩))
  go_ret
  exact ⟨rfl, hbt⟩

theorem lenB_nil (w : World) : Calls Tryd.prog 27 #[.pointer none] w fun e w' => e = .returned (.int .i64 0) ∧ w' = w := by
  go_enter Tryd.func27, Tryd.ntmps27
  go_wp2
  go_ret
  exact ⟨rfl, rfl⟩
theorem lenB {b a c N p : Nat} {t : List UInt8} (w : World) (h : Buf w b a c N t p) :
    Calls Tryd.prog 27 #[.pointer (some ⟨b, 0, none⟩)] w fun e w' => e = .returned (.int .i64 (t.length : Int)) ∧ w' = w := by
  have d0 := h.head.cell (j := 0) (v := .pointer (some ⟨a, 0, none⟩)) rfl
  have H1 := Lib.hid (len w h.ar)
  clear h
  go_enter Tryd.func27, Tryd.ntmps27
  go_wp2_with (go_at_call 45; refine (H1.out).mono ?_; rintro e w1 ⟨rfl, rfl⟩)
  go_ret
  exact ⟨rfl, rfl⟩

theorem copyB_nil (v : Value) (w : World) : Calls Tryd.prog 47 #[.pointer none, v] w fun e w' => e = .returned (.int .i64 0) ∧ w' = w := by
  go_enter Tryd.func47, Tryd.ntmps47
  go_wp2
  go_ret
  exact ⟨rfl, rfl⟩
theorem copyB {b a c N p : Nat} {t : List UInt8} (A : Option Addr) (m cap : Nat) (g off : Nat) (cur : List Value) (w : World) (h : Buf w b a c N t p) (hg : Win w g off cur) (hA : 0 < m → A = some ⟨g, off, none⟩) (hfit : m ≤ cur.length) :
    Calls Tryd.prog 47 #[.pointer (some ⟨b, 0, none⟩), .slice A m cap] w fun e w' => e = .returned (.int .i64 ((min m t.length : Nat) : Int)) ∧ Win w' g off (splice cur 0 (cellsB (t.take m))) ∧ But [g] w w' := by
  have d0 := h.head.cell (j := 0) (v := .pointer (some ⟨a, 0, none⟩)) rfl
  have H1 := Lib.hid (copy_c A m cap g off cur w h.ar hg hA hfit)
  clear h hg hA hfit
  go_enter Tryd.func47, Tryd.ntmps47
  go_wp2_with (go_at_call 62; refine (H1.out).mono ?_; rintro e w1 ⟨rfl, hk, hb⟩)
  go_ret
  exact ⟨rfl, hk, hb⟩

end Go.Proofs.YtbkpnffgihjikaaDoor.Edit

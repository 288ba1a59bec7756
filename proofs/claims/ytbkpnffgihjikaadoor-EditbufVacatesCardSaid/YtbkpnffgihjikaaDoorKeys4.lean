/- A buffer: Back, Delete, KillStart, KillEnd, walked. -/
import Derived.Test.YtbkpnffgihjikaaDoorKeys3
import Derived.StillTailTactics
set_option linter.unusedVariables false
namespace Go.Proofs.YtbkpnffgihjikaaDoor.Edit
open Go.RowKit Go.Lib Go.Shelf ChangeShapes Mem Utf UtfP

set_option maxRecDepth 100000 in
set_option maxHeartbeats 1000000 in
theorem back_c {b a c N p : Nat} {t : List UInt8} (w : World) (h : Buf w b a c N t p) (h0 : firstB t 0 = true) (q : Nat) (hq : aheadV t (p - 1) = q) (hle : q ≤ p) :
    Calls Tryd.prog 76 #[.pointer (some ⟨b, 0, none⟩)] w fun e w' => e = .returned (.tuple #[]) ∧ Buf w' b a c N (t.take q ++ t.drop p) q ∧ But [b, a, c] w w' := by
  obtain ⟨w2, hw2⟩ : ∃ w2, w.drew = w2 := ⟨_, rfl⟩
  have H2 : Hid (Buf w2 b a c N t p) := by rw [← hw2]; exact Buf.drewN h 1
  have hb : But [] w w2 := by rw [← hw2]; exact (But.refl _ _).drew
  have HB := Lib.hid hb
  have d1 := H2.out.head.cell (j := 1) (v := .int .i64 (p : Int)) rfl
  have H1 := Lib.hid (ahead_c w2 H2.out h0)
  have H3 := Lib.hid (take_c q p w2 H2.out hle h.le)
  rw [hq] at H1
  clear h h0 hq hb
  go_enter Tryd.func76, Tryd.ntmps76
  refine still_tail 7 (by kernel_rfl) (by kernel_rfl) ?_
  rw [hw2]
  simp only [List.take_succ_cons, List.take_zero, List.drop_succ_cons, List.drop_zero]
  repeat still_step
  still_call H1.out
  repeat still_step
  refine wpStill_nil ?_
  clear d1 hw2
  go_wp2_with (go_at_call 91; refine (H3.out).mono ?_; rintro e w4 ⟨rfl, hbuf, hb4⟩)
  go_end0
  exact ⟨rfl, hbuf, (HB.out.mono (by simp)).trans hb4⟩

set_option maxRecDepth 100000 in
set_option maxHeartbeats 1000000 in
theorem killEnd_c {b a c N p : Nat} {t : List UInt8} (w : World) (h : Buf w b a c N t p) :
    Calls Tryd.prog 83 #[.pointer (some ⟨b, 0, none⟩)] w fun e w' => e = .returned (.tuple #[]) ∧ Buf w' b a c N (t.take p) p ∧ But [b, a, c] w w' := by
  obtain ⟨w2, hw2⟩ : ∃ w2, w.drew = w2 := ⟨_, rfl⟩
  have H2 : Hid (Buf w2 b a c N t p) := by rw [← hw2]; exact Buf.drewN h 1
  have hb : But [] w w2 := by rw [← hw2]; exact (But.refl _ _).drew
  have HB := Lib.hid hb
  have d0 := H2.out.head.cell (j := 0) (v := .pointer (some ⟨a, 0, none⟩)) rfl
  have d1 := H2.out.head.cell (j := 1) (v := .int .i64 (p : Int)) rfl
  have H1 := Lib.hid (len w2 H2.out.ar)
  have H3 := Lib.hid (take_c p t.length w2 H2.out h.le (Nat.le_refl _))
  clear h hb
  go_enter Tryd.func83, Tryd.ntmps83
  refine still_tail 10 (by kernel_rfl) (by kernel_rfl) ?_
  rw [hw2]
  simp only [List.take_succ_cons, List.take_zero, List.drop_succ_cons, List.drop_zero]
  repeat still_step
  still_call H1.out
  repeat still_step
  refine wpStill_nil ?_
  clear d0 d1 hw2
  go_wp2_with (go_at_call 91; refine (H3.out).mono ?_; rintro e w4 ⟨rfl, hbuf, hb4⟩)
  go_end0
  refine ⟨rfl, ?_, (HB.out.mono (by simp)).trans hb4⟩
  rw [List.drop_length, List.append_nil] at hbuf
  exact hbuf

theorem killStart_c {b a c N p : Nat} {t : List UInt8} (w : World) (h : Buf w b a c N t p) :
    Calls Tryd.prog 82 #[.pointer (some ⟨b, 0, none⟩)] w fun e w' => e = .returned (.tuple #[]) ∧ Buf w' b a c N (t.drop p) 0 ∧ But [b, a, c] w w' := by
  have d1 := h.head.cell (j := 1) (v := .int .i64 (p : Int)) rfl
  have H3 := Lib.hid (take_c 0 p w h (by omega) h.le)
  clear h
  go_enter Tryd.func82, Tryd.ntmps82
  go_wp2_with (go_at_call 91; refine (H3.out).mono ?_; rintro e w4 ⟨rfl, hbuf, hb4⟩)
  go_end0
  exact ⟨rfl, by simpa using hbuf, hb4⟩

set_option maxRecDepth 100000 in
set_option maxHeartbeats 1000000 in
theorem del_c {b a c N p : Nat} {t : List UInt8} (w : World) (h : Buf w b a c N t p) (q : Nat) (hqv : behindV t (min t.length (p + 1)) = q) (hp : p ≤ q) (hle : q ≤ t.length) :
    Calls Tryd.prog 77 #[.pointer (some ⟨b, 0, none⟩)] w fun e w' => e = .returned (.tuple #[]) ∧ Buf w' b a c N (t.take p ++ t.drop q) p ∧ But [b, a, c] w w' := by
  have H2 : Hid (Buf w.drew b a c N t p) := Buf.drewN h 1
  have H1 := Lib.hid (behind_c w.drew H2.out)
  rw [hqv] at H1
  have H3 : Hid (∀ W, Buf W b a c N t p → Calls Tryd.prog 91 #[.pointer (some ⟨b, 0, none⟩), .int .i64 (p : Int), .int .i64 (q : Int)] W fun e w' => e = .returned (.tuple #[]) ∧ Buf w' b a c N (t.take p ++ t.drop q) p ∧ But [b, a, c] W w') := fun W hW => take_c p q W hW hp hle
  have d1 := H2.out.head.cell (j := 1) (v := .int .i64 (p : Int)) rfl
  clear h hqv
  go_enter Tryd.func77, Tryd.ntmps77
  go_wp2_with fail
  go_region_with (first
    | (go_at_call 93; refine (H1.out).mono ?_; rintro e w3 ⟨rfl, hb3⟩; have hbf := H2.out.but hb3 (by simp) (by simp) (by simp); have g1 := hbf.head.cell (j := 1) (v := .int .i64 (p : Int)) rfl)
    | (go_at_call 91; refine (H3.out _ hbf).mono ?_; rintro e w4 ⟨rfl, hbuf, hb4⟩))
  all_goals
    go_wp2
    go_end0
    exact ⟨rfl, hbuf, (((But.refl _ _).drew.trans hb3).mono (by simp)).trans hb4⟩

end Go.Proofs.YtbkpnffgihjikaaDoor.Edit

/- world.Check of a plan of one item. -/
import Derived.Test.YtbflcikfaoojmaaDoorTwO
set_option linter.unusedVariables false
set_option linter.unusedSimpArgs false
namespace Go.Proofs.YtbflcikfaoojmaaDoor.Edit
open Go.RowKit Go.Lib Go.Shelf ChangeShapes Mem Utf UtfP

attribute [local go_sem] run_store_float

set_option maxRecDepth 100000 in
set_option maxHeartbeats 1000000 in
theorem check1 (bi : Nat) (A : Option Addr) (cap : Nat) (l : List UInt8) (w : World) (h : OneP w bi A cap l) : Calls Tryd.prog 30 #[planV bi 1] w fun e w' => e = .returned (.int .i64 0) ∧ Below w.heap.size w w' := by
  have c0 := h.row.cell (j := 0) rfl
  have c1 := h.row.cell (j := 1) rfl
  have c2 := h.row.cell (j := 2) rfl
  have c3 := h.row.cell (j := 3) rfl
  have hlt := h.lt
  unfold planV
  clear h
  go_enter Tryd.func30, Tryd.ntmps30
  go_wp2
  obtain ⟨w1, hw1⟩ : ∃ w1, w.alloc (.cells #[.int .u32 0, .int .u8 0, .int .u8 0, .slice (some ⟨bi, 0, none⟩) 1 1, .slice none 0 0, .slice none 0 0, .slice none 0 0] 35) = w1 := ⟨_, rfl⟩
  have hb0 : Below w.heap.size w w1 := by rw [← hw1]; exact (Below.refl _ w).alloc (Nat.le_refl _) _
  rw [hw1]
  clear hw1
  go_loopw [12] (fun i wr => ∃ j : Nat, i = .int .i64 (j : Int) ∧ j ≤ 1 ∧ Below w.heap.size w wr) (fun i _ => 1 - (RowKit.intOf i).toNat)
  case atStart => exact ⟨0, rfl, by omega, hb0⟩
  case round =>
    obtain ⟨j, rfl, hj, hb⟩ := hrel
    have hbb := Lib.hid hb
    have hs := hb.size
    by_cases hj0 : j = 0
    · subst hj0
      have d0 := (hb.cell (p := ⟨bi, 0, none⟩) hlt).trans c0
      have d1 := (hb.cell (p := ⟨bi, 1, none⟩) hlt).trans c1
      have d2 := (hb.cell (p := ⟨bi, 2, none⟩) hlt).trans c2
      have d3 := (hb.cell (p := ⟨bi, 3, none⟩) hlt).trans c3
      clear hb
      go_wp2
      go_roundw
      case rel => exact ⟨1, rfl, by omega, hbb.out.alloc hs _⟩
      case measure => simp [RowKit.intOf]
    · have hj1 : j = 1 := by omega
      subst hj1
      clear hb hj0
      go_wp2
      go_ret
      exact ⟨rfl, hbb.out⟩

end Go.Proofs.YtbflcikfaoojmaaDoor.Edit

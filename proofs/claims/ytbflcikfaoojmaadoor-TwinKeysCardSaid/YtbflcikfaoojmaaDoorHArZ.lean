/- The arena alone (for seats without the edit buffer): its cells, its bytes one by one, whether it is zero, whether it is clean. The lines are XKeys1's and XZero's. -/
import Derived.Test.YtbflcikfaoojmaaDoorGD
import Derived.Test.YtbflcikfaoojmaaDoorHStr
import Derived.LoopN
set_option linter.unusedVariables false
set_option linter.unusedSimpArgs false
namespace Go.Proofs.YtbflcikfaoojmaaDoor.Edit
open Go.RowKit Go.Lib Go.Shelf ChangeShapes Mem Utf UtfP

theorem bt_append_left {l m : List UInt8} {i : Nat} (h : i < l.length) : bt (l ++ m) i = bt l i := by
  unfold bt
  rw [List.getD_eq_getElem?_getD, List.getD_eq_getElem?_getD, List.getElem?_append_left h]
theorem bt_append_right {l m : List UInt8} {i : Nat} (h : l.length ≤ i) : bt (l ++ m) i = bt m (i - l.length) := by
  unfold bt
  rw [List.getD_eq_getElem?_getD, List.getD_eq_getElem?_getD, List.getElem?_append_right h]

def allZ (l : List UInt8) : Bool := decide (∀ j, j < l.length → bt l j = 0)

theorem allZ_replicate (n : Nat) : allZ (List.replicate n 0) = true := by
  unfold allZ
  rw [decide_eq_true_iff]
  intro j hj
  unfold bt
  rw [List.length_replicate] at hj
  simp [List.getD_eq_getElem?_getD, hj]
theorem allZ_pad (t : List UInt8) (n : Nat) : allZ (t ++ List.replicate n 0) = allZ t := by
  have h0 := allZ_replicate n
  unfold allZ at h0 ⊢
  rw [decide_eq_true_iff] at h0
  rw [decide_eq_decide]
  constructor
  · intro h j hj
    rw [← bt_append_left hj (m := List.replicate n 0)]
    exact h j (by rw [List.length_append]; omega)
  · intro h j hj
    by_cases hjl : j < t.length
    · rw [bt_append_left hjl]; exact h j hjl
    · rw [bt_append_right (by omega)]
      exact h0 _ (by rw [List.length_append] at hj; omega)

theorem cells_bytes {w : World} {c : Nat} {l : List UInt8} (h : Blk w c (cellsB l).toArray 5) (k : Nat) : BytesAt w (some ⟨c, k, none⟩) (l.drop k) := by
  intro hne
  refine ⟨c, k, rfl, h.lt, fun j hj => ?_⟩
  rw [List.length_drop] at hj
  have := cellsB_get l (k + j) (by omega)
  rw [h.cell (j := k + j) (v := .int .u8 ((l.getD (k + j) 0).toNat : Int)) (by simpa using this)]
  unfold bt
  rw [List.getD_eq_getElem?_getD, List.getD_eq_getElem?_getD, List.getElem?_drop]

end Go.Proofs.YtbflcikfaoojmaaDoor.Edit

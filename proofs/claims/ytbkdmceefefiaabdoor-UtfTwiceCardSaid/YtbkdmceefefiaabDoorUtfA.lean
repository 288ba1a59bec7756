/- Layer 1's statements: the document's examples ('alive'), walked. -/
import Derived.Test.YtbkdmceefefiaabDoorUtfS
import Derived.Test.YtbkdmceefefiaabDoorOwn
set_option linter.unusedVariables false
namespace Go.Proofs.YtbkdmceefefiaabDoor.Utf
open Go.RowKit Go.Lib Go.Shelf UtfP

theorem below_alloc {B : Nat} {a w : World} (h : Below B a w) (hB : B ≤ w.heap.size) (o : Obj) : Below B a (w.alloc o) := h.alloc hB o

theorem ex1 : next [195, 164] = (228, 2, 0) := by decide
theorem ex2 : next [195] = (0, 1, 7) := by decide
theorem ex3 : next [226, 130, 65] = (0, 2, 8) := by decide

set_option maxHeartbeats 1000000 in
theorem alive (w : World) (hT : Tabs w) :
    Calls Tryd.prog 8 #[] w fun e w' => e = .returned (.bool true) ∧ Below w.heap.size w w' := by
  have C1 : ∀ w0, Below w.heap.size w w0 → Calls Tryd.prog 9 #[.slice (some ⟨w0.heap.size, 0, none⟩) 2 2] (w0.alloc (.cells #[.int .u8 195, .int .u8 164] 5)) fun e w' => e = .returned (.tuple #[.int .i64 228, .int .i64 2, .int .i64 0]) ∧ Below w.heap.size w w' := fun w0 h0 => by
    have h := nextGo [195, 164] (some ⟨w0.heap.size, 0, none⟩) 2 _ (hT.below (below_alloc h0 h0.size _)) (bytes_new w0 [195, 164] 5 #[.int .u8 195, .int .u8 164] rfl) (by simp) (by simp)
    rw [ex1] at h
    exact h.mono fun _ _ ⟨he, hb⟩ => ⟨he, (below_alloc h0 h0.size _).trans (hb.mono (by simp; have := h0.size; omega))⟩
  have C2 : ∀ w0, Below w.heap.size w w0 → Calls Tryd.prog 9 #[.slice (some ⟨w0.heap.size, 0, none⟩) 1 1] (w0.alloc (.cells #[.int .u8 195] 5)) fun e w' => e = .returned (.tuple #[.int .i64 0, .int .i64 1, .int .i64 7]) ∧ Below w.heap.size w w' := fun w0 h0 => by
    have h := nextGo [195] (some ⟨w0.heap.size, 0, none⟩) 1 _ (hT.below (below_alloc h0 h0.size _)) (bytes_new w0 [195] 5 #[.int .u8 195] rfl) (by simp) (by simp)
    rw [ex2] at h
    exact h.mono fun _ _ ⟨he, hb⟩ => ⟨he, (below_alloc h0 h0.size _).trans (hb.mono (by simp; have := h0.size; omega))⟩
  have C3 : ∀ w0, Below w.heap.size w w0 → Calls Tryd.prog 9 #[.slice (some ⟨w0.heap.size, 0, none⟩) 3 3] (w0.alloc (.cells #[.int .u8 226, .int .u8 130, .int .u8 65] 5)) fun e w' => e = .returned (.tuple #[.int .i64 0, .int .i64 2, .int .i64 8]) ∧ Below w.heap.size w w' := fun w0 h0 => by
    have h := nextGo [226, 130, 65] (some ⟨w0.heap.size, 0, none⟩) 3 _ (hT.below (below_alloc h0 h0.size _)) (bytes_new w0 [226, 130, 65] 5 #[.int .u8 226, .int .u8 130, .int .u8 65] rfl) (by simp) (by simp)
    rw [ex3] at h
    exact h.mono fun _ _ ⟨he, hb⟩ => ⟨he, (below_alloc h0 h0.size _).trans (hb.mono (by simp; have := h0.size; omega))⟩
  have H1 := Lib.hid C1
  have H2 := Lib.hid C2
  have H3 := Lib.hid C3
  clear C1 C2 C3 hT
  go_enter Tryd.func8, Tryd.ntmps8
  go_wp2_with fail
  refine (H1.out _ (Below.refl _ _)).mono ?_
  rintro e w1 ⟨rfl, hb1⟩
  go_wp2_with fail
  refine (H2.out _ hb1).mono ?_
  rintro e w2 ⟨rfl, hb2⟩
  go_wp2_with fail
  refine (H3.out _ hb2).mono ?_
  rintro e w3 ⟨rfl, hb3⟩
  go_wp2
  go_ret
  exact ⟨rfl, hb3⟩

end Go.Proofs.YtbkdmceefefiaabDoor.Utf

/- The bytes of a string, in a row of their own. -/
import Derived.Test.YtbflcikfaoojmaaDoorHStr
import Derived.Lib.ConvBytes
import Derived.Laws.AppendOwn
set_option linter.unusedVariables false
set_option linter.unusedSimpArgs false
namespace Go.Proofs.YtbflcikfaoojmaaDoor.Utf
open Go.RowKit Go.Lib Go.Shelf UtfP

theorem conv_bytes (w : World) (l : List UInt8) : (convert 9 47 (.string (strOf l))).run Tryd.prog w = .ok (.slice (some ⟨w.heap.size, 0, none⟩) l.length (grownCap w l.length 0 5)) (Lib.bytesWorld w 5 (strOf l)) :=
  Lib.run_convert_string_bytes w 9 47 5 (strOf l) Tryd.underlying9 Tryd.underlying47 Tryd.underlying5

theorem bytesW_below (w : World) (l : List UInt8) : Below w.heap.size w (Lib.bytesWorld w 5 (strOf l)) :=
  ⟨by simp [Lib.bytesWorld, World.freeze, World.alloc, World.drew, -World.alloc_eq, -World.drew_eq], by simp [Lib.bytesWorld, World.freeze, World.alloc, World.drew, -World.alloc_eq, -World.drew_eq], by simp [Lib.bytesWorld, World.freeze, World.alloc, World.drew, -World.alloc_eq, -World.drew_eq], by rw [Lib.bytesWorld_size]; omega, fun k hk => Lib.bytesWorld_at_old w _ _ k hk⟩

theorem bytesW_at (w : World) (l : List UInt8) : BytesAt (Lib.bytesWorld w 5 (strOf l)) (some ⟨w.heap.size, 0, none⟩) l := by
  intro _
  refine ⟨w.heap.size, 0, rfl, by rw [Lib.bytesWorld_size]; omega, fun j hj => ?_⟩
  rw [Nat.zero_add, Lib.bytesWorld_cell w _ _ j (by rw [strOf_size]; exact hj)]
  rfl

/-- the bytes of a string that a walk has come to, under names of their own -/
theorem conv_named (w : World) (l : List UInt8) : ∃ w' g cap, (convert 9 47 (.string (strOf l))).run Tryd.prog w = .ok (.slice (some ⟨g, 0, none⟩) l.length cap) w' ∧ l.length ≤ cap ∧ BytesAt w' (some ⟨g, 0, none⟩) l ∧ w.heap.size ≤ g ∧ Below w.heap.size w w' :=
  ⟨_, _, _, conv_bytes w l, grownCap_ge _ _ _ _, bytesW_at w l, Nat.le_refl _, bytesW_below w l⟩

end Go.Proofs.YtbflcikfaoojmaaDoor.Utf

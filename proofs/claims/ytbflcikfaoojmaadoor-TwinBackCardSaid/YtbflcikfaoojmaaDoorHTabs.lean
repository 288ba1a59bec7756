/- The two tables of unicode/utf8: what a row's list gives, and a world that holds them. -/
import Derived.Test.YtbflcikfaoojmaaDoorCards
import Derived.Test.YtbflcikfaoojmaaDoorTie
import Derived.Test.YtbflcikfaoojmaaDoorHOpen
import Derived.Deep.DeepHandedRow
import Derived.Lib.LaidTab
set_option linter.unusedVariables false
namespace Go.Proofs.YtbflcikfaoojmaaDoor.Law
open Go.ChangeShapes Go.WideShapes Go.ChangeAt Go.RowKit Go.Shelf Go.Lib Utf

theorem own : ownKnob Tryd.prog.godebug = none := by kernel_rfl
theorem laidOut : laidOutB Tryd.prog = true := by kernel_rfl

def rhoT : Ren := ⟨fun _ => 0, fun | 5 => 5 | 119 => 106 | 138 => 108 | 139 => 109 | _ => 0, fun | 3 => 1 | 4 => 2 | _ => 0⟩
theorem tabTypes : U8Types Tryd.prog rhoT where
  t5 := by kernel_rfl
  t119 := by kernel_rfl
  t138 := by kernel_rfl
  t139 := by kernel_rfl
theorem tabExtra : U8Extra Tryd.prog rhoT where
  n3 := by kernel_rfl
  n4 := by kernel_rfl
  y3 := by kernel_rfl
  y4 := by kernel_rfl
  c5 := by kernel_rfl
  c119 := by kernel_rfl
  c138 := by kernel_rfl
theorem firstIs : Rows.laid_unicode_utf8_first = Lib.firstData := by kernel_rfl
theorem acceptIs : Rows.laid_unicode_utf8_acceptRanges = Lib.acceptData := by kernel_rfl

theorem tabs_of {laid : List (String × DataW Unit)} {W : World} (h : laidMet Tryd.prog laid W) (h1 : ("unicode/utf8.first", Rows.laid_unicode_utf8_first) ∈ laid) (h2 : ("unicode/utf8.acceptRanges", Rows.laid_unicode_utf8_acceptRanges) ∈ laid) : Tabs W := by
  have r1 := laidMet.reads h h1
  have r2 := laidMet.reads h h2
  rw [firstIs] at r1
  rw [acceptIs] at r2
  exact utf8Tabs_of_readsT tabTypes tabExtra r1 r2

/-- A world for the witness: the settled one, the two tables as their initialisers lay them. -/
def laidCells (cs : Array Value) : Obj → Obj
  | .cells _ t frozen => .cells cs t frozen
  | o => o
noncomputable def laidWorld (os : Os) : World :=
  { World.holding Tryd.prog os ⟨#[], #[], []⟩ with
    heap := ((World.holding Tryd.prog os ⟨#[], #[], []⟩).heap.modify 1 (laidCells ((List.range 256).map fun c => Value.int .u8 (firstT c : Int)).toArray)).modify 2 (laidCells ((List.range 16).flatMap fun i => [Value.int .u8 (accLo i : Int), Value.int .u8 (accHi i : Int)]).toArray) }
end Go.Proofs.YtbflcikfaoojmaaDoor.Law

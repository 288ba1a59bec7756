/- The calls that a law of pastes takes, opened. -/
import Derived.Test.YtbkpnffgihjikaaDoorGA
set_option linter.unusedVariables false
set_option maxRecDepth 100000
namespace Go.Proofs.YtbkpnffgihjikaaDoor.Law
open Go.ChangeShapes Go.WideShapes Go.ChangeAt Go.RowKit Utf UtfP

structure PRow where
  k : Int
  c : Int
instance : Inhabited PRow := ⟨⟨0, 0⟩⟩
def PRow.cells (r : PRow) : List Value := [.int .i64 r.k, .int .i64 r.c]

section
variable {H : Type} {enc : TypeId × Value → H}
theorem cells_pact : Tryd.prog.cellsOf 86 = 2 := by kernel_rfl

theorem pact_trod {w : World} {fuel : Nat} {cs : List Value} {x : DataW H × List MemPlace} (hd : DataW.trod enc Tryd.prog w 0 (fun _ => true) true fuel 86 cs = some x) :
    ∃ r : PRow, cs = r.cells ∧ ((Lit.int .i64 r.k).wf = true ∧ (Lit.int .i64 r.c).wf = true) := by
  obtain ⟨xs, m, rfl, _, hl, hx, hi⟩ := DataW.trod_struct Tryd.underlying86 hd
  obtain ⟨c0, c1, rfl⟩ := list2 (by rw [hl, cells_pact])
  obtain ⟨y0, h0⟩ := got' hx (i := 0) (by decide) (hi 0 _ rfl)
  obtain ⟨y1, h1⟩ := got' hx (i := 1) (by decide) (hi 1 _ rfl)
  obtain ⟨k, e0, _, w0⟩ := DataW.trod_int Tryd.underlying3 h0
  obtain ⟨c, e1, _, w1⟩ := DataW.trod_int Tryd.underlying3 h1
  simp [cells_int] at e0 e1
  subst e0 e1
  exact ⟨⟨k, c⟩, rfl, w0, w1⟩

theorem open_pacts {w : World} {v : Value} {d : DataW H} {ps : List MemPlace} {r : Reach} {b0 : Nat}
    (hval : Value.okWide Tryd.prog w r b0 82 v) (h : DataW.Trod enc Tryd.prog w 0 (fun _ => true) true 82 v d ps) :
    ∃ (A : Option Addr) (rs : List PRow) (cap : Nat), v = .slice A rs.length cap ∧ rs.length ≤ cap ∧ cap ≤ maxLen ∧ RowsAt w 2 PRow.cells A rs ∧ (∀ r ∈ rs, (Lit.int .i64 r.k).wf = true ∧ (Lit.int .i64 r.c).wf = true) ∧
      ((d = .nil ∧ cap = 0) ∨ ∃ elems spare, d = .slice elems spare ∧ elems.length + spare.length = cap) :=
  open_rows 2 (by decide) PRow.cells (fun _ => rfl) (fun r => (Lit.int .i64 r.k).wf = true ∧ (Lit.int .i64 r.c).wf = true) Tryd.underlying82 cells_pact (fun fuel cs x hd => pact_trod hd) hval h
end

end Go.Proofs.YtbkpnffgihjikaaDoor.Law

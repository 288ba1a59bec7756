/- What a key, a list of keys is that the reader of a law's input takes. -/
import Derived.Test.YtcakeolnokninaaDoorHListIn
set_option linter.unusedVariables false
set_option maxRecDepth 100000
namespace Go.Proofs.YtcakeolnokninaaDoor.Law
open Go.ChangeShapes Go.WideShapes Go.ChangeAt Go.RowKit Utf UtfP

section
variable {H : Type} {enc : TypeId × Value → H}

theorem cells_int : Tryd.prog.cellsOf 3 = 1 := by kernel_rfl
theorem cells_key : Tryd.prog.cellsOf 54 = 2 := by kernel_rfl
theorem list2 {cs : List Value} (h : cs.length = 2) : ∃ c0 c1, cs = [c0, c1] := by
  match cs, h with
  | [c0, c1], _ => exact ⟨c0, c1, rfl⟩

/-- One key. -/
theorem key_trod {w : World} {fuel : Nat} {cs : List Value} {x : DataW H × List MemPlace} (hd : DataW.trod enc Tryd.prog w 0 (fun _ => true) true fuel 54 cs = some x) :
    ∃ k c : Int, cs = [.int .i64 k, .int .i64 c] ∧ (Lit.int .i64 k).wf = true ∧ (Lit.int .i64 c).wf = true := by
  obtain ⟨xs, m, rfl, _, hl, hx, hi⟩ := DataW.trod_struct Tryd.underlying54 hd
  obtain ⟨c0, c1, rfl⟩ := list2 (by rw [hl, cells_key])
  obtain ⟨y0, h0⟩ := got' hx (i := 0) (by decide) (hi 0 _ rfl)
  obtain ⟨y1, h1⟩ := got' hx (i := 1) (by decide) (hi 1 _ rfl)
  obtain ⟨k, e0, _, w0⟩ := DataW.trod_int Tryd.underlying3 h0
  obtain ⟨c, e1, _, w1⟩ := DataW.trod_int Tryd.underlying3 h1
  simp [cells_int] at e0 e1
  subst e0 e1
  exact ⟨k, c, rfl, w0, w1⟩

theorem open_key {w : World} {v : Value} {d : DataW H} {ps : List MemPlace} {r : Reach} {b0 : Nat}
    (hval : Value.okWide Tryd.prog w r b0 54 v) (h : DataW.Trod enc Tryd.prog w 0 (fun _ => true) true 54 v d ps) :
    ∃ a b : Int, v = .agg #[.int .i64 a, .int .i64 b] ∧ (Lit.int .i64 a).wf = true ∧ (Lit.int .i64 b).wf = true := by
  simp only [Value.okWide, Tryd.underlying54] at hval
  obtain ⟨cs, rfl, _, _⟩ := hval
  obtain ⟨fuel, hd⟩ := h
  obtain ⟨a, b, e1, h1, h2⟩ := key_trod hd
  refine ⟨a, b, ?_, h1, h2⟩
  congr 1
  apply Array.toList_inj.1
  simpa [Value.cells] using e1
end

end Go.Proofs.YtcakeolnokninaaDoor.Law

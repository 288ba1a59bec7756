/- The calls that a law of the edit buffer takes, opened. -/
import Derived.Test.YtbkpnffgihjikaaDoorRowsIn
import Derived.Test.YtbkpnffgihjikaaDoorKeyIn
set_option linter.unusedVariables false
set_option maxRecDepth 100000
namespace Go.Proofs.YtbkpnffgihjikaaDoor.Law
open Go.ChangeShapes Go.WideShapes Go.ChangeAt Go.RowKit Utf UtfP

structure ActRow where
  k : Int
  kk : Int
  kc : Int
  b : ByteRow
instance : Inhabited ActRow := ⟨⟨0, 0, 0, default⟩⟩
def ActRow.cells (r : ActRow) : List Value := [.int .i64 r.k, .int .i64 r.kk, .int .i64 r.kc, .slice r.b.A r.b.l.length r.b.cap]

section
variable {H : Type} {enc : TypeId × Value → H}
theorem cells_act : Tryd.prog.cellsOf 62 = 4 := by kernel_rfl
theorem cells_u8s : Tryd.prog.cellsOf 22 = 1 := by kernel_rfl
theorem list4 {cs : List Value} (h : cs.length = 4) : ∃ c0 c1 c2 c3, cs = [c0, c1, c2, c3] := by
  match cs, h with
  | [c0, c1, c2, c3], _ => exact ⟨c0, c1, c2, c3, rfl⟩

theorem act_trod {w : World} {fuel : Nat} {cs : List Value} {x : DataW H × List MemPlace} (hd : DataW.trod enc Tryd.prog w 0 (fun _ => true) true fuel 62 cs = some x) (hw : ∀ n ∈ x.1.weights Tryd.prog 62, n ≤ reachBytes) :
    ∃ r : ActRow, cs = r.cells ∧ r.b.Fits w := by
  obtain ⟨xs, m, rfl, hxx, hl, hx, hi⟩ := DataW.trod_struct Tryd.underlying62 hd
  obtain ⟨c0, c1, c2, c3, rfl⟩ := list4 (by rw [hl, cells_act])
  obtain ⟨y0, h0⟩ := got' hx (i := 0) (by decide) (hi 0 _ rfl)
  obtain ⟨y1, h1⟩ := got' hx (i := 1) (by decide) (hi 1 _ rfl)
  obtain ⟨y2, h2⟩ := got' hx (i := 2) (by decide) (hi 2 _ rfl)
  have hy2 : xs[2]? = some y2 := (hi 2 _ rfl).symm.trans h2
  obtain ⟨k, e0, _, w0⟩ := DataW.trod_int Tryd.underlying3 h0
  obtain ⟨kk, kc, e1, _, _⟩ := key_trod h1
  have hws : ∀ n ∈ y2.1.weights Tryd.prog 22, n ≤ reachBytes := fun n hn => hw n (by
    rw [hxx]
    simp only [DataW.weights, Tryd.underlying62]
    exact DataW.weights_mem_each (j := 2) (t := 22) (d := y2.1) rfl (by rw [List.getElem?_map, hy2]; rfl) n hn)
  obtain ⟨A, l, cap, e2, b1, b2, b3⟩ := bytes_trodW Tryd.underlying22 Tryd.underlying5 (by kernel_rfl) (by kernel_rfl) h2 hws
  simp [cells_int, cells_key, cells_u8s] at e0 e1 e2
  obtain ⟨rfl, rfl⟩ := e1
  subst e0 e2
  exact ⟨⟨k, kk, kc, ⟨A, l, cap⟩⟩, rfl, b3, b1, b2⟩

theorem open_acts {w : World} {v : Value} {d : DataW H} {ps : List MemPlace} {r : Reach} {b0 : Nat}
    (hval : Value.okWide Tryd.prog w r b0 55 v) (h : DataW.Trod enc Tryd.prog w 0 (fun _ => true) true 55 v d ps) (hw : ∀ n ∈ d.weights Tryd.prog 55, n ≤ reachBytes) :
    ∃ (A : Option Addr) (rs : List ActRow) (cap : Nat), v = .slice A rs.length cap ∧ rs.length ≤ cap ∧ cap ≤ maxLen ∧ RowsAt w 4 ActRow.cells A rs ∧ (∀ r ∈ rs, r.b.Fits w) ∧
      ((d = .nil ∧ cap = 0) ∨ ∃ elems spare, d = .slice elems spare ∧ elems.length + spare.length = cap) :=
  open_rowsW 4 (by decide) ActRow.cells (fun _ => rfl) (fun r => r.b.Fits w) Tryd.underlying55 cells_act (fun fuel cs x hd hw => act_trod hd hw) hval h hw
end

end Go.Proofs.YtbkpnffgihjikaaDoor.Law

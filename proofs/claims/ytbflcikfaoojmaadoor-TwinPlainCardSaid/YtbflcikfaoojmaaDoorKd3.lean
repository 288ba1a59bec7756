/- A decoder of keys, walked: sequence. -/
import Derived.Test.YtbflcikfaoojmaaDoorKd2
set_option linter.unusedVariables false
set_option linter.unusedSimpArgs false
namespace Go.Proofs.YtbflcikfaoojmaaDoor.Edit
open Go.RowKit Go.Lib Go.Shelf ChangeShapes Mem Utf UtfP

theorem results_key {P : Program} {fn : Func} {p : Tmp} {ty : TypeId} (h : fn.results = #[.cell p ty]) (tmps : Array Value) (w : World) (g : Nat) (t : TypeId) (cs : Array Value) (d : TypeDesc)
    (hp : tmps.getD p undef = .pointer (some ⟨g, 0, none⟩)) (hg : Blk w g cs t)
    (hu : P.underlying ty = some d) (hd : (match d with | .struct _ | .array _ _ => true | _ => false) = true) (hi : (P.info? ty).map (·.size) = some cs.size) :
    (results fn tmps).run P w = .ok (.agg cs) w := results_cell_row h tmps w g t cs (0, 0) d hp hg hu hd hi

theorem But.drewS (S : List Nat) (w : World) (n : Nat) : But S w (w.drewN n) := ⟨rfl, rfl, rfl, Nat.le_refl _, fun _ _ _ => rfl⟩

/-- the key of a sequence, by whether a paste is begun: the key, whether one is begun then -/
def seqE (ps : Bool) (k kc : Int) : Int × Int × Bool := if ps != (k == 14) then (15, 0, ps) else if k == 13 || k == 14 then (k, kc, !ps) else (k, kc, ps)

section
variable {d a c N : Nat} {t : List UInt8} {ps : Bool}

end

end Go.Proofs.YtbflcikfaoojmaaDoor.Edit

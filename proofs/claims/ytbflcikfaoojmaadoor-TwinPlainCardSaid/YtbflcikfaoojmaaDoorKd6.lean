/- Looking a sequence up; bytes between two. -/
import Derived.Test.YtbflcikfaoojmaaDoorKd5
set_option linter.unusedVariables false
set_option linter.unusedSimpArgs false
namespace Go.Proofs.YtbflcikfaoojmaaDoor.Edit
open Go.RowKit Go.Lib Go.Shelf ChangeShapes Mem Utf UtfP

theorem run_lookS {T K E : TypeId} {P : Program} (w : World) (ht : P.underlying T = some (.map K E)) (hk : P.underlying K = some .string) (b : Nat) (es : Array MapEntry) (clock : Nat) (hb : w.heap[b]? = some (.map es clock)) (k : ByteArray) (i : Nat) (v : Value) (hf : Instr.findNow .string (.string k) es.toList 0 = some (some (i, v))) :
    (Instr.lookup T (.map (some b)) (.string k) true).run P w = .ok (.tuple #[v, .bool true]) w := by
  have hc : (Instr.checkKey es.isEmpty 10000 K (.string k)).run P w = .ok () w := MapKept.run_checkKey (k := .string k) hk (by simp [MapKept.IsKey]) _ 9999
  simp [Instr.lookup, run_underlying ht, MapKept.run_getObj_map hb, hc, MapKept.run_findKey hk hf, Result.andThen]

theorem run_lookS_none {T K E : TypeId} {P : Program} (w : World) (ht : P.underlying T = some (.map K E)) (hk : P.underlying K = some .string) (b : Nat) (es : Array MapEntry) (clock : Nat) (hb : w.heap[b]? = some (.map es clock)) (k : ByteArray) (z : Value) (hz : ∀ w, (zeroValue E).run P w = .ok z w) (hf : Instr.findNow .string (.string k) es.toList 0 = some none) :
    (Instr.lookup T (.map (some b)) (.string k) true).run P w = .ok (.tuple #[z, .bool false]) w := by
  have hc : (Instr.checkKey es.isEmpty 10000 K (.string k)).run P w = .ok () w := MapKept.run_checkKey (k := .string k) hk (by simp [MapKept.IsKey]) _ 9999
  simp [Instr.lookup, run_underlying ht, MapKept.run_getObj_map hb, hc, MapKept.run_findKey hk hf, hz, Result.andThen]

theorem between_c (x f t : Int) (w : World) : Calls Tryd.prog 61 #[.int .u8 x, .int .u8 f, .int .u8 t] w fun e w' => e = .returned (.bool (decide (f ≤ x) && decide (x ≤ t))) ∧ w' = w := by
  by_cases h1 : f ≤ x
  · have k1 : decide (f ≤ x) = true := by simpa using h1
    rw [k1]
    go_enter Tryd.func61, Tryd.ntmps61
    go_wp2
    go_ret
    exact ⟨by simp, rfl⟩
  · have k1 : decide (f ≤ x) = false := by simpa using h1
    rw [k1]
    go_enter Tryd.func61, Tryd.ntmps61
    go_wp2
    go_ret
    exact ⟨by simp, rfl⟩

end Go.Proofs.YtbflcikfaoojmaaDoor.Edit

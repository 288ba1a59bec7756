/- What keys do: the table of them. -/
import Derived.Test.YtbkpnffgihjikaaDoorEdit
import Derived.Deep.QuietTactic
import Derived.MapKept
import Derived.BigQuiet
import Derived.Deep.RegionHeldLaw
set_option linter.unusedVariables false
namespace Go.Proofs.YtbkpnffgihjikaaDoor.Edit
open Go.RowKit Go.Lib Go.Shelf ChangeShapes Mem Utf

def fnV (f : Nat) : Value := .func (.func f) #[] #[]
def tbl : Array MapEntry := #[
  { key := .int .i64 2, val := fnV 76, born := 0 },
  { key := .int .i64 3, val := fnV 77, born := 1 },
  { key := .int .i64 4, val := fnV 78, born := 2 },
  { key := .int .i64 5, val := fnV 79, born := 3 },
  { key := .int .i64 6, val := fnV 80, born := 4 },
  { key := .int .i64 7, val := fnV 81, born := 5 },
  { key := .int .i64 8, val := fnV 82, born := 6 },
  { key := .int .i64 9, val := fnV 83, born := 7 }]

theorem push_put {α : Type} (h : Array α) (a b : α) : (h.push a).setIfInBounds h.size b = h.push b := by
  rcases h with ⟨l⟩
  simp

theorem run_put {T K E : TypeId} {P : Program} (w : World) (ht : P.underlying T = some (.map K E)) (hk : P.underlying K = some (.int .i64)) (es : Array MapEntry) (clock : Nat) (k : Int) (v : Value) (hf : Instr.findNow (.int .i64) (.int .i64 k) es.toList 0 = some none) :
    (Instr.mapUpdate T (.map (some w.heap.size)) (.int .i64 k) v).run P (w.alloc (.map es clock)) = .ok () (w.alloc (.map (es.push { key := .int .i64 k, val := v, born := clock }) (clock + 1))) := by
  have hb : (w.alloc (.map es clock)).heap[w.heap.size]? = some (.map es clock) := heap_alloc_new w _
  have hc : (Instr.checkKey false 10000 K (.int .i64 k)).run P (w.alloc (.map es clock)) = .ok () (w.alloc (.map es clock)) := MapKept.run_checkKey (k := .int .i64 k) hk (by simp [MapKept.IsKey]) false 9999
  simp [Instr.mapUpdate, run_underlying ht, MapKept.run_getObj_map hb, hc, MapKept.run_findKey hk hf, MapKept.run_setObj_map _ hb, Result.andThen]
  show ({ heap := (w.heap.push _).setIfInBounds w.heap.size _, tape := w.tape, drawn := w.drawn, os := w.os, output := w.output } : World) = { w with heap := w.heap.push _ }
  rw [push_put]

theorem run_look {T K E : TypeId} {P : Program} (w : World) (ht : P.underlying T = some (.map K E)) (hk : P.underlying K = some (.int .i64)) (b : Nat) (es : Array MapEntry) (clock : Nat) (hb : w.heap[b]? = some (.map es clock)) (k : Int) (i : Nat) (v : Value) (hf : Instr.findNow (.int .i64) (.int .i64 k) es.toList 0 = some (some (i, v))) :
    (Instr.lookup T (.map (some b)) (.int .i64 k) true).run P w = .ok (.tuple #[v, .bool true]) w := by
  have hc : (Instr.checkKey es.isEmpty 10000 K (.int .i64 k)).run P w = .ok () w := MapKept.run_checkKey (k := .int .i64 k) hk (by simp [MapKept.IsKey]) _ 9999
  simp [Instr.lookup, run_underlying ht, MapKept.run_getObj_map hb, hc, MapKept.run_findKey hk hf, Result.andThen]

theorem run_look_none {T K E : TypeId} {P : Program} (w : World) (ht : P.underlying T = some (.map K E)) (hk : P.underlying K = some (.int .i64)) (b : Nat) (es : Array MapEntry) (clock : Nat) (hb : w.heap[b]? = some (.map es clock)) (k : Int) (z : Value) (hz : ∀ w, (zeroValue E).run P w = .ok z w) (hf : Instr.findNow (.int .i64) (.int .i64 k) es.toList 0 = some none) :
    (Instr.lookup T (.map (some b)) (.int .i64 k) true).run P w = .ok (.tuple #[z, .bool false]) w := by
  have hc : (Instr.checkKey es.isEmpty 10000 K (.int .i64 k)).run P w = .ok () w := MapKept.run_checkKey (k := .int .i64 k) hk (by simp [MapKept.IsKey]) _ 9999
  simp [Instr.lookup, run_underlying ht, MapKept.run_getObj_map hb, hc, MapKept.run_findKey hk hf, hz, Result.andThen]

theorem put_tbl (w : World) (es : Array MapEntry) (clock : Nat) (k : Int) (v : Value) (hf : Instr.findNow (.int .i64) (.int .i64 k) es.toList 0 = some none) :
    (Instr.mapUpdate 101 (.map (some w.heap.size)) (.int .i64 k) v).run Tryd.prog (w.alloc (.map es clock)) = .ok () (w.alloc (.map (es.push { key := .int .i64 k, val := v, born := clock }) (clock + 1))) :=
  run_put w Tryd.underlying101 Tryd.underlying3 es clock k v hf

set_option maxRecDepth 100000 in
set_option maxHeartbeats 1000000 in
theorem kinds (w : World) : Calls Tryd.prog 67 #[] w fun e w' => e = .returned (.map (some w.heap.size)) ∧ w'.heap[w.heap.size]? = some (.map tbl 8) ∧ Below w.heap.size w w' := by
  have hmm := @run_makeMap Tryd.prog
  have p0 : (Instr.mapUpdate 101 (.map (some w.heap.size)) (.int .i64 2) (.func (.func 76) #[] #[])).run Tryd.prog (w.alloc (.map #[] 0)) = .ok () (w.alloc (.map #[{ key := .int .i64 2, val := .func (.func 76) #[] #[], born := 0 }] 1)) := put_tbl w _ _ _ _ rfl
  have p1 : (Instr.mapUpdate 101 (.map (some w.heap.size)) (.int .i64 3) (.func (.func 77) #[] #[])).run Tryd.prog (w.alloc (.map #[{ key := .int .i64 2, val := .func (.func 76) #[] #[], born := 0 }] 1)) = .ok () (w.alloc (.map #[{ key := .int .i64 2, val := .func (.func 76) #[] #[], born := 0 }, { key := .int .i64 3, val := .func (.func 77) #[] #[], born := 1 }] 2)) := put_tbl w _ _ _ _ rfl
  have p2 : (Instr.mapUpdate 101 (.map (some w.heap.size)) (.int .i64 4) (.func (.func 78) #[] #[])).run Tryd.prog (w.alloc (.map #[{ key := .int .i64 2, val := .func (.func 76) #[] #[], born := 0 }, { key := .int .i64 3, val := .func (.func 77) #[] #[], born := 1 }] 2)) = .ok () (w.alloc (.map #[{ key := .int .i64 2, val := .func (.func 76) #[] #[], born := 0 }, { key := .int .i64 3, val := .func (.func 77) #[] #[], born := 1 }, { key := .int .i64 4, val := .func (.func 78) #[] #[], born := 2 }] 3)) := put_tbl w _ _ _ _ rfl
  have p3 : (Instr.mapUpdate 101 (.map (some w.heap.size)) (.int .i64 5) (.func (.func 79) #[] #[])).run Tryd.prog (w.alloc (.map #[{ key := .int .i64 2, val := .func (.func 76) #[] #[], born := 0 }, { key := .int .i64 3, val := .func (.func 77) #[] #[], born := 1 }, { key := .int .i64 4, val := .func (.func 78) #[] #[], born := 2 }] 3)) = .ok () (w.alloc (.map #[{ key := .int .i64 2, val := .func (.func 76) #[] #[], born := 0 }, { key := .int .i64 3, val := .func (.func 77) #[] #[], born := 1 }, { key := .int .i64 4, val := .func (.func 78) #[] #[], born := 2 }, { key := .int .i64 5, val := .func (.func 79) #[] #[], born := 3 }] 4)) := put_tbl w _ _ _ _ rfl
  have p4 : (Instr.mapUpdate 101 (.map (some w.heap.size)) (.int .i64 6) (.func (.func 80) #[] #[])).run Tryd.prog (w.alloc (.map #[{ key := .int .i64 2, val := .func (.func 76) #[] #[], born := 0 }, { key := .int .i64 3, val := .func (.func 77) #[] #[], born := 1 }, { key := .int .i64 4, val := .func (.func 78) #[] #[], born := 2 }, { key := .int .i64 5, val := .func (.func 79) #[] #[], born := 3 }] 4)) = .ok () (w.alloc (.map #[{ key := .int .i64 2, val := .func (.func 76) #[] #[], born := 0 }, { key := .int .i64 3, val := .func (.func 77) #[] #[], born := 1 }, { key := .int .i64 4, val := .func (.func 78) #[] #[], born := 2 }, { key := .int .i64 5, val := .func (.func 79) #[] #[], born := 3 }, { key := .int .i64 6, val := .func (.func 80) #[] #[], born := 4 }] 5)) := put_tbl w _ _ _ _ rfl
  have p5 : (Instr.mapUpdate 101 (.map (some w.heap.size)) (.int .i64 7) (.func (.func 81) #[] #[])).run Tryd.prog (w.alloc (.map #[{ key := .int .i64 2, val := .func (.func 76) #[] #[], born := 0 }, { key := .int .i64 3, val := .func (.func 77) #[] #[], born := 1 }, { key := .int .i64 4, val := .func (.func 78) #[] #[], born := 2 }, { key := .int .i64 5, val := .func (.func 79) #[] #[], born := 3 }, { key := .int .i64 6, val := .func (.func 80) #[] #[], born := 4 }] 5)) = .ok () (w.alloc (.map #[{ key := .int .i64 2, val := .func (.func 76) #[] #[], born := 0 }, { key := .int .i64 3, val := .func (.func 77) #[] #[], born := 1 }, { key := .int .i64 4, val := .func (.func 78) #[] #[], born := 2 }, { key := .int .i64 5, val := .func (.func 79) #[] #[], born := 3 }, { key := .int .i64 6, val := .func (.func 80) #[] #[], born := 4 }, { key := .int .i64 7, val := .func (.func 81) #[] #[], born := 5 }] 6)) := put_tbl w _ _ _ _ rfl
  have p6 : (Instr.mapUpdate 101 (.map (some w.heap.size)) (.int .i64 8) (.func (.func 82) #[] #[])).run Tryd.prog (w.alloc (.map #[{ key := .int .i64 2, val := .func (.func 76) #[] #[], born := 0 }, { key := .int .i64 3, val := .func (.func 77) #[] #[], born := 1 }, { key := .int .i64 4, val := .func (.func 78) #[] #[], born := 2 }, { key := .int .i64 5, val := .func (.func 79) #[] #[], born := 3 }, { key := .int .i64 6, val := .func (.func 80) #[] #[], born := 4 }, { key := .int .i64 7, val := .func (.func 81) #[] #[], born := 5 }] 6)) = .ok () (w.alloc (.map #[{ key := .int .i64 2, val := .func (.func 76) #[] #[], born := 0 }, { key := .int .i64 3, val := .func (.func 77) #[] #[], born := 1 }, { key := .int .i64 4, val := .func (.func 78) #[] #[], born := 2 }, { key := .int .i64 5, val := .func (.func 79) #[] #[], born := 3 }, { key := .int .i64 6, val := .func (.func 80) #[] #[], born := 4 }, { key := .int .i64 7, val := .func (.func 81) #[] #[], born := 5 }, { key := .int .i64 8, val := .func (.func 82) #[] #[], born := 6 }] 7)) := put_tbl w _ _ _ _ rfl
  have p7 : (Instr.mapUpdate 101 (.map (some w.heap.size)) (.int .i64 9) (.func (.func 83) #[] #[])).run Tryd.prog (w.alloc (.map #[{ key := .int .i64 2, val := .func (.func 76) #[] #[], born := 0 }, { key := .int .i64 3, val := .func (.func 77) #[] #[], born := 1 }, { key := .int .i64 4, val := .func (.func 78) #[] #[], born := 2 }, { key := .int .i64 5, val := .func (.func 79) #[] #[], born := 3 }, { key := .int .i64 6, val := .func (.func 80) #[] #[], born := 4 }, { key := .int .i64 7, val := .func (.func 81) #[] #[], born := 5 }, { key := .int .i64 8, val := .func (.func 82) #[] #[], born := 6 }] 7)) = .ok () (w.alloc (.map #[{ key := .int .i64 2, val := .func (.func 76) #[] #[], born := 0 }, { key := .int .i64 3, val := .func (.func 77) #[] #[], born := 1 }, { key := .int .i64 4, val := .func (.func 78) #[] #[], born := 2 }, { key := .int .i64 5, val := .func (.func 79) #[] #[], born := 3 }, { key := .int .i64 6, val := .func (.func 80) #[] #[], born := 4 }, { key := .int .i64 7, val := .func (.func 81) #[] #[], born := 5 }, { key := .int .i64 8, val := .func (.func 82) #[] #[], born := 6 }, { key := .int .i64 9, val := .func (.func 83) #[] #[], born := 7 }] 8)) := put_tbl w _ _ _ _ rfl
  go_enter Tryd.func67, Tryd.ntmps67
  go_wp2
  go_ret
  exact ⟨rfl, heap_alloc_new w _, (Below.refl _ _).alloc (Nat.le_refl _) _⟩

end Go.Proofs.YtbkpnffgihjikaaDoor.Edit

/- The key of a character: keys.Of, walked. -/
import Derived.Test.YtbflcikfaoojmaaDoorHKd8
import Derived.Test.YtbflcikfaoojmaaDoorHKd7
set_option linter.unusedVariables false
set_option linter.unusedSimpArgs false
namespace Go.Proofs.YtbflcikfaoojmaaDoor.Edit
open Go.RowKit Go.Lib Go.Shelf ChangeShapes Mem Utf UtfP

theorem run_lookI {T K E : TypeId} {P : Program} (w : World) (ht : P.underlying T = some (.map K E)) (hk : P.underlying K = some (.int .i64)) (b : Nat) (es : Array MapEntry) (clock : Nat) (hb : w.heap[b]? = some (.map es clock)) (k : Int) (i : Nat) (v : Value) (hf : Instr.findNow (.int .i64) (.int .i64 k) es.toList 0 = some (some (i, v))) :
    (Instr.lookup T (.map (some b)) (.int .i64 k) true).run P w = .ok (.tuple #[v, .bool true]) w := by
  have hc : (Instr.checkKey es.isEmpty 10000 K (.int .i64 k)).run P w = .ok () w := MapKept.run_checkKey (k := .int .i64 k) hk (by simp [MapKept.IsKey]) _ 9999
  simp [Instr.lookup, run_underlying ht, MapKept.run_getObj_map hb, hc, MapKept.run_findKey hk hf, Result.andThen]

theorem run_lookI_none {T K E : TypeId} {P : Program} (w : World) (ht : P.underlying T = some (.map K E)) (hk : P.underlying K = some (.int .i64)) (b : Nat) (es : Array MapEntry) (clock : Nat) (hb : w.heap[b]? = some (.map es clock)) (k : Int) (z : Value) (hz : ∀ w, (zeroValue E).run P w = .ok z w) (hf : Instr.findNow (.int .i64) (.int .i64 k) es.toList 0 = some none) :
    (Instr.lookup T (.map (some b)) (.int .i64 k) true).run P w = .ok (.tuple #[z, .bool false]) w := by
  have hc : (Instr.checkKey es.isEmpty 10000 K (.int .i64 k)).run P w = .ok () w := MapKept.run_checkKey (k := .int .i64 k) hk (by simp [MapKept.IsKey]) _ 9999
  simp [Instr.lookup, run_underlying ht, MapKept.run_getObj_map hb, hc, MapKept.run_findKey hk hf, hz, Result.andThen]

theorem kindOf_tab (c : Int) : kindOf c = 15 ∨ ∃ y ∈ chIns, y.2.1 = c := by
  unfold kindOf
  by_cases h1 : c = 13; · exact Or.inr ⟨(2, 13, 1), by decide, h1.symm⟩
  by_cases h2 : c = 10; · exact Or.inr ⟨(4, 10, 1), by decide, h2.symm⟩
  by_cases h3 : c = 8; · exact Or.inr ⟨(6, 8, 2), by decide, h3.symm⟩
  by_cases h4 : c = 127; · exact Or.inr ⟨(7, 127, 2), by decide, h4.symm⟩
  by_cases h5 : c = 2; · exact Or.inr ⟨(9, 2, 4), by decide, h5.symm⟩
  by_cases h6 : c = 6; · exact Or.inr ⟨(11, 6, 5), by decide, h6.symm⟩
  by_cases h7 : c = 1; · exact Or.inr ⟨(13, 1, 6), by decide, h7.symm⟩
  by_cases h8 : c = 5; · exact Or.inr ⟨(15, 5, 7), by decide, h8.symm⟩
  by_cases h9 : c = 21; · exact Or.inr ⟨(17, 21, 8), by decide, h9.symm⟩
  by_cases h10 : c = 11; · exact Or.inr ⟨(19, 11, 9), by decide, h10.symm⟩
  by_cases h11 : c = 12; · exact Or.inr ⟨(21, 12, 10), by decide, h11.symm⟩
  by_cases h12 : c = 3; · exact Or.inr ⟨(23, 3, 11), by decide, h12.symm⟩
  by_cases h13 : c = 4; · exact Or.inr ⟨(25, 4, 12), by decide, h13.symm⟩
  left
  simp [h1, h2, h3, h4, h5, h6, h7, h8, h9, h10, h11, h12, h13]

theorem kindOf_of : ∀ y ∈ chIns, kindOf y.2.1 = y.2.2 ∧ y.2.2 ≠ 15 := by decide

theorem ChTab.find {es : Array MapEntry} (h : ChTab es) (c : Int) :
    (kindOf c = 15 ∧ Instr.findNow (.int .i64) (.int .i64 c) es.toList 0 = some none) ∨ (kindOf c ≠ 15 ∧ ∃ j, Instr.findNow (.int .i64) (.int .i64 c) es.toList 0 = some (some (j, .int .i64 (kindOf c)))) := by
  rcases MapKept.findNow_spec (d := .int .i64) (k := .int .i64 c) (by simp [MapKept.IsKey]) es.toList 0 (fun x hx => by obtain ⟨y, _, hk, _⟩ := h.1 x hx; rw [hk]; simp [MapKept.IsKey]) with ⟨hf, hn⟩ | ⟨j, e, hf, he, hk⟩
  · refine Or.inl ⟨?_, hf⟩
    rcases kindOf_tab c with h1 | ⟨y, hy, rfl⟩
    · exact h1
    · obtain ⟨x, hx, hkx⟩ := h.2 y hy
      exact absurd hkx (hn x hx)
  · obtain ⟨y, hy, hyk, hyv⟩ := h.1 e (List.mem_of_getElem? he)
    rw [hyk] at hk
    have e1 : y.2.1 = c := by injection hk
    obtain ⟨h1, h2⟩ := kindOf_of y hy
    rw [e1] at h1
    refine Or.inr ⟨by rw [h1]; exact h2, 0 + j, ?_⟩
    rw [hf, hyv, h1]

section
variable {d a c N : Nat} {t : List UInt8} {ps : Bool}
/-- the key of a character, by whether a paste is begun -/
def charK (ps : Bool) (c : Int) : Int × Int := charE ps (keyOf c).1 (keyOf c).2
end

end Go.Proofs.YtbflcikfaoojmaaDoor.Edit

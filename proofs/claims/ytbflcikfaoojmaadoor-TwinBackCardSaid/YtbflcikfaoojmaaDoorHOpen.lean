/- A slice of bytes that came in, opened. -/
import Derived.Test.YtbflcikfaoojmaaDoorGA
import Derived.Test.YtbflcikfaoojmaaDoorHLaw
set_option linter.unusedVariables false
namespace Go.Proofs.YtbflcikfaoojmaaDoor.Law
open Go.ChangeShapes Go.WideShapes Go.ChangeAt Go.RowKit Utf UtfP

theorem wf_u8 {z : Int} (h : (Lit.int .u8 z).wf = true) : 0 ≤ z ∧ z < 256 := by
  simp [Lit.wf, IntKind.min, IntKind.max, IntKind.signed, IntKind.bits] at h
  omega

section
variable {H : Type} {enc : TypeId × Value → H} {P : Program}

theorem open_bytes {w : World} {t e : TypeId} {v : Value} {d : DataW H} {ps : List MemPlace} (ht : P.underlying t = some (.slice e)) (he : P.underlying e = some (.int .u8)) (hc : P.cellsOf e = 1)
    {r : Reach} {b0 : Nat} (hval : Value.okWide P w r b0 t v) (h : DataW.Trod enc P w 0 (fun _ => true) true t v d ps) :
    ∃ (A : Option Addr) (l : List UInt8) (cap : Nat), v = .slice A l.length cap ∧ l.length ≤ cap ∧ cap ≤ maxLen ∧ BytesAt w A l ∧
      ((d = .nil ∧ cap = 0) ∨ ∃ elems spare, d = .slice elems spare ∧ elems.length + spare.length = cap) := by
  obtain ⟨a0, len0, cap0, rfl⟩ := okWide_slice ht hval
  obtain ⟨fuel, hd⟩ := h
  rcases open_ints ht he hc hd with ⟨hcs, hx⟩ | ⟨a, len, cap, zs, hcs, hb, hl, hm, hz, hx, hcell, hw⟩
  · have hv : Value.slice a0 len0 cap0 = .slice none 0 0 := by
      simp [Value.cells] at hcs
      obtain ⟨rfl, rfl, rfl⟩ := hcs; rfl
    refine ⟨none, [], 0, hv, by simp, by simp [maxLen], fun h => absurd rfl h, Or.inl ⟨?_, rfl⟩⟩
    exact congrArg Prod.fst hx
  · have hzl : zs.length = cap := by simpa using hz
    have hv : Value.slice a0 len0 cap0 = .slice (some a) len cap := by
      simp [Value.cells] at hcs
      obtain ⟨rfl, rfl, rfl⟩ := hcs; rfl
    have hlen : ((zs.take len).map fun z => UInt8.ofNat z.toNat).length = len := by simp; omega
    refine ⟨some a, (zs.take len).map fun z => UInt8.ofNat z.toNat, cap, by rw [hlen]; exact hv, by rw [hlen]; exact hl, hm, ?_, Or.inr ⟨_, _, congrArg Prod.fst hx, by simp [lits]; omega⟩⟩
    intro hne
    have hpos : 0 < len := by
      rcases Nat.eq_zero_or_pos len with h0 | h0
      · exact absurd (List.eq_nil_of_length_eq_zero (by rw [hlen]; exact h0)) hne
      · exact h0
    obtain ⟨b, off, spot⟩ := a
    have h0 := hcell 0 (by omega)
    have hspot : spot = none := by simpa [Addr.add] using World.cell?_spot h0
    subst hspot
    refine ⟨b, off, rfl, block_lt_of_cell (by simpa [Addr.add] using h0), fun j hj => ?_⟩
    rw [hlen] at hj
    have hlz : len ≤ zs.length := by omega
    have hj' := hcell j (by omega)
    rw [add_plain] at hj'
    rw [hj']
    have hmem : zs.getD j 0 ∈ zs := by
      rw [List.getD_eq_getElem?_getD, List.getElem?_eq_getElem (by omega)]; exact List.getElem_mem _
    have hwf := hw _ hmem
    have hbd : 0 ≤ zs.getD j 0 ∧ zs.getD j 0 < 256 := wf_u8 hwf
    have hbt : (bt ((zs.take len).map fun z => UInt8.ofNat z.toNat) j : Int) = zs.getD j 0 := by
      unfold bt
      rw [List.getD_eq_getElem?_getD, List.getElem?_map, List.getElem?_take_of_lt hj, List.getElem?_eq_getElem (by omega)]
      rw [List.getD_eq_getElem?_getD, List.getElem?_eq_getElem (by omega)] at hbd ⊢
      simp only [Option.getD_some, Option.map_some] at hbd ⊢
      rw [UInt8.toNat_ofNat']
      omega
    rw [hbt]
end

end Go.Proofs.YtbflcikfaoojmaaDoor.Law

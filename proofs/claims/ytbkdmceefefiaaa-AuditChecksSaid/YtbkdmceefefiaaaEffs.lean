/- What a slice of effects, an array of small numbers, and bytes are that the reader of a law's input takes. -/
import Derived.Test.YtbkdmceefefiaaaAudC
import Derived.ChangeSlices
import Derived.OpenShut
set_option linter.unusedVariables false
namespace Go.Proofs.Ytbkdmceefefiaaa.Law
open Go.ChangeShapes Go.WideShapes Go.ChangeAt Go.RowKit Byt Aud

theorem wf_u8 {n : Int} (h : (Lit.int .u8 n).wf = true) : 0 ≤ n ∧ n < 256 := by
  simp [Lit.wf, IntKind.min, IntKind.max, IntKind.signed, IntKind.bits] at h
  omega
theorem block_lt_of_cell {w : World} {a : Addr} {v : Value} (h : w.cell? a = some v) : a.block < w.heap.size := World.block_lt_of_cell? w a h

section
variable {H : Type} {enc : TypeId × Value → H} {P : Program}

theorem bytes_trod {w : World} {t e : TypeId} {fuel : Nat} {cs : List Value} {x : DataW H × List MemPlace} (ht : P.underlying t = some (.slice e)) (he : P.underlying e = some (.int .u8)) (hc : P.cellsOf e = 1)
    (hd : DataW.trod enc P w 0 (fun _ => true) true fuel t cs = some x) :
    ∃ (A : Option Addr) (l : List UInt8) (cap : Nat), cs = [.slice A l.length cap] ∧ l.length ≤ cap ∧ cap ≤ maxLen ∧ BytesAt w A l := by
  rcases open_ints ht he hc hd with ⟨hcs, hx⟩ | ⟨a, len, cap, zs, hcs, hb, hl, hm, hz, hx, hcell, hw⟩
  · exact ⟨none, [], 0, hcs, by simp, by simp [maxLen], fun h => absurd rfl h⟩
  · have hzl : zs.length = cap := by simpa using hz
    have hlen : ((zs.take len).map fun z => UInt8.ofNat z.toNat).length = len := by simp; omega
    refine ⟨some a, (zs.take len).map fun z => UInt8.ofNat z.toNat, cap, by rw [hlen]; exact hcs, by rw [hlen]; exact hl, hm, ?_⟩
    intro hne
    have hpos : 0 < len := by
      rcases Nat.eq_zero_or_pos len with h0 | h0
      · exact absurd (List.eq_nil_of_length_eq_zero (by rw [hlen]; exact h0)) hne
      · exact h0
    obtain ⟨b, off, spot⟩ := a
    have h0 := hcell 0 (by omega)
    have hspot : spot = none := by simpa [Addr.add] using World.cell?_spot h0
    subst hspot
    refine ⟨b, off, rfl, block_lt_of_cell (by simpa [Addr.add] using h0), fun j hj => ?_⟩
    rw [hlen] at hj
    have hlz : len ≤ zs.length := by omega
    have hj' := hcell j (by omega)
    rw [add_plain] at hj'
    rw [hj']
    have hmem : zs.getD j 0 ∈ zs := by
      rw [List.getD_eq_getElem?_getD, List.getElem?_eq_getElem (by omega)]; exact List.getElem_mem _
    have hwf := hw _ hmem
    have hbd : 0 ≤ zs.getD j 0 ∧ zs.getD j 0 < 256 := wf_u8 hwf
    have hbt : (bt ((zs.take len).map fun z => UInt8.ofNat z.toNat) j : Int) = zs.getD j 0 := by
      unfold bt
      rw [List.getD_eq_getElem?_getD, List.getElem?_map, List.getElem?_take_of_lt hj, List.getElem?_eq_getElem (by omega)]
      rw [List.getD_eq_getElem?_getD, List.getElem?_eq_getElem (by omega)] at hbd ⊢
      simp only [Option.getD_some, Option.map_some] at hbd ⊢
      rw [UInt8.toNat_ofNat']
      omega
    rw [hbt]

theorem list7 {cs : List Value} (h : cs.length = 7) : ∃ c0 c1 c2 c3 c4 c5 c6, cs = [c0, c1, c2, c3, c4, c5, c6] := by
  match cs, h with
  | [c0, c1, c2, c3, c4, c5, c6], _ => exact ⟨c0, c1, c2, c3, c4, c5, c6, rfl⟩
theorem list3 {cs : List Value} (h : cs.length = 3) : ∃ c0 c1 c2, cs = [c0, c1, c2] := by
  match cs, h with
  | [c0, c1, c2], _ => exact ⟨c0, c1, c2, rfl⟩

/-- What is read through a field is read at all. -/
theorem got {α : Type} {xs : List α} {n i : Nat} {o : Option α} (hn : xs.length = n) (hi : i < n) (h : o = xs[i]?) : ∃ y, o = some y := by
  subst hn
  exact ⟨xs[i], by rw [h, List.getElem?_eq_getElem hi]⟩

/-- Three numbers. -/
theorem three_trod {w : World} {t e : TypeId} {k : IntKind} {fuel : Nat} {cs : List Value} {x : DataW H × List MemPlace} (ht : P.underlying t = some (.array 3 e)) (he : P.underlying e = some (.int k)) (hc : P.cellsOf e = 1) (hn : P.cellsOf t = 3)
    (hd : DataW.trod enc P w 0 (fun _ => true) true fuel t cs = some x) :
    ∃ a b c : Int, cs = [.int k a, .int k b, .int k c] ∧ (Lit.int k a).wf = true ∧ (Lit.int k b).wf = true ∧ (Lit.int k c).wf = true := by
  obtain ⟨xs, m, rfl, _, hl, hx, hi⟩ := DataW.trod_array ht hd
  obtain ⟨c0, c1, c2, rfl⟩ := list3 (by rw [hl, hn])
  rw [hc] at hi
  obtain ⟨y0, h0⟩ := got hx (by omega) (hi 0 (by omega))
  obtain ⟨y1, h1⟩ := got hx (by omega) (hi 1 (by omega))
  obtain ⟨y2, h2⟩ := got hx (by omega) (hi 2 (by omega))
  obtain ⟨a, e0, _, w0⟩ := DataW.trod_int he h0
  obtain ⟨b, e1, _, w1⟩ := DataW.trod_int he h1
  obtain ⟨c, e2, _, w2⟩ := DataW.trod_int he h2
  simp at e0 e1 e2
  subst e0 e1 e2
  exact ⟨a, b, c, rfl, w0, w1, w2⟩

theorem open_three {w : World} {t e : TypeId} {k : IntKind} {v : Value} {d : DataW H} {ps : List MemPlace} {r : Reach} {b0 : Nat} (ht : P.underlying t = some (.array 3 e)) (he : P.underlying e = some (.int k)) (hc : P.cellsOf e = 1) (hn : P.cellsOf t = 3)
    (hval : Value.okWide P w r b0 t v) (h : DataW.Trod enc P w 0 (fun _ => true) true t v d ps) :
    ∃ a b c : Int, v = .agg #[.int k a, .int k b, .int k c] ∧ (Lit.int k a).wf = true ∧ (Lit.int k b).wf = true ∧ (Lit.int k c).wf = true := by
  simp only [Value.okWide, ht] at hval
  obtain ⟨cs, rfl, _, _⟩ := hval
  obtain ⟨fuel, hd⟩ := h
  obtain ⟨a, b, c, e1, h1, h2, h3⟩ := three_trod ht he hc hn hd
  refine ⟨a, b, c, ?_, h1, h2, h3⟩
  congr 1
  apply Array.toList_inj.1
  simpa [Value.cells] using e1
end

section
variable {H : Type} {enc : TypeId × Value → H}

theorem cells_eff : Try.prog.cellsOf 44 = 7 := by kernel_rfl
theorem cells_attrs : Try.prog.cellsOf 41 = 3 := by kernel_rfl
theorem cells_int : Try.prog.cellsOf 3 = 1 := by kernel_rfl
theorem cells_u8 : Try.prog.cellsOf 5 = 1 := by kernel_rfl
theorem cells_u32 : Try.prog.cellsOf 39 = 1 := by kernel_rfl
theorem cells_bool : Try.prog.cellsOf 4 = 1 := by kernel_rfl
theorem cells_bytes : Try.prog.cellsOf 42 = 1 := by kernel_rfl

/-- One effect. -/
theorem eff_trod {w : World} {fuel : Nat} {cs : List Value} {x : DataW H × List MemPlace} (hd : DataW.trod enc Try.prog w 0 (fun _ => true) true fuel 44 cs = some x) :
    ∃ e : Eff, cs = e.cells.toList ∧ BytesAt w e.A e.l ∧ (Lit.int .i64 e.k).wf = true ∧ (Lit.int .u32 e.fl).wf = true ∧ (Lit.int .u8 e.mn).wf = true ∧ (Lit.int .u8 e.tm).wf = true ∧ (Lit.int .i64 e.n).wf = true := by
  obtain ⟨xs, m, rfl, _, hl, hx, hi⟩ := DataW.trod_struct Try.underlying44 hd
  obtain ⟨c0, c1, c2, c3, c4, c5, c6, rfl⟩ := list7 (by rw [hl, cells_eff])
  obtain ⟨y0, h0⟩ := got hx (i := 0) (by decide) (hi 0 _ rfl)
  obtain ⟨y1, h1⟩ := got hx (i := 1) (by decide) (hi 1 _ rfl)
  obtain ⟨y2, h2⟩ := got hx (i := 2) (by decide) (hi 2 _ rfl)
  obtain ⟨y3, h3⟩ := got hx (i := 3) (by decide) (hi 3 _ rfl)
  obtain ⟨y4, h4⟩ := got hx (i := 4) (by decide) (hi 4 _ rfl)
  clear hi
  obtain ⟨xs1, m1, rfl, _, hl1, hx1, hi1⟩ := DataW.trod_struct Try.underlying41 h1
  obtain ⟨z0, g0⟩ := got hx1 (i := 0) (by decide) (hi1 0 _ rfl)
  obtain ⟨z1, g1⟩ := got hx1 (i := 1) (by decide) (hi1 1 _ rfl)
  obtain ⟨z2, g2⟩ := got hx1 (i := 2) (by decide) (hi1 2 _ rfl)
  clear hi1
  obtain ⟨k, e0, _, w0⟩ := DataW.trod_int Try.underlying3 h0
  obtain ⟨fl, e1, _, w1⟩ := DataW.trod_int Try.underlying39 g0
  obtain ⟨mn, e2, _, w2⟩ := DataW.trod_int Try.underlying5 g1
  obtain ⟨tm, e3, _, w3⟩ := DataW.trod_int Try.underlying5 g2
  obtain ⟨A, l, cap, e4, _, _, hA⟩ := bytes_trod Try.underlying42 Try.underlying5 cells_u8 h2
  obtain ⟨n, e5, _, w5⟩ := DataW.trod_int Try.underlying3 h3
  obtain ⟨ok, e6, _⟩ := DataW.trod_bool Try.underlying4 h4
  simp [cells_int, cells_attrs, cells_u8, cells_u32, cells_bool, cells_bytes] at e0 e1 e2 e3 e4 e5 e6
  subst e0 e1 e2 e3 e4 e5 e6
  exact ⟨⟨k, fl, mn, tm, A, l, cap, n, ok⟩, rfl, hA, w0, w1, w2, w3, w5⟩

/-- A slice of effects. -/
theorem open_effs {w : World} {v : Value} {d : DataW H} {ps : List MemPlace} {r : Reach} {b0 : Nat} (hval : Value.okWide Try.prog w r b0 22 v) (h : DataW.Trod enc Try.prog w 0 (fun _ => true) true 22 v d ps) :
    ∃ (A : Option Addr) (es : List Eff) (cap : Nat), v = .slice A es.length cap ∧ es.length ≤ cap ∧ cap ≤ maxLen ∧ EffsAt w A es ∧ (∀ e ∈ es, 0 ≤ e.fl ∧ e.fl < 4294967296) ∧
      ((d = .nil ∧ cap = 0) ∨ ∃ elems spare, d = .slice elems spare ∧ elems.length + spare.length = cap) := by
  obtain ⟨a0, len0, cap0, rfl⟩ := okWide_slice Try.underlying22 hval
  obtain ⟨fuel, hd⟩ := h
  rcases DataW.trod_slice Try.underlying22 hd with ⟨hcs, hx⟩ | ⟨a, len, cap, elems, rest, m, rfl, hcs, hx, hb, hl, hm, hlen, hel, hsp, _⟩
  · have hv : Value.slice a0 len0 cap0 = .slice none 0 0 := by
      simp [Value.cells] at hcs
      obtain ⟨rfl, rfl, rfl⟩ := hcs; rfl
    exact ⟨none, [], 0, hv, by simp, by simp [maxLen], fun h => absurd rfl h, by simp, Or.inl ⟨congrArg Prod.fst hx, rfl⟩⟩
  · have hv : Value.slice a0 len0 cap0 = .slice (some a) len cap := by
      simp [Value.cells] at hcs
      obtain ⟨rfl, rfl, rfl⟩ := hcs; rfl
    rw [hv]
    have each : ∀ i, i < len → ∃ e : Eff, w.cells? 0 (a.add (i * 7)) 7 = some e.cells.toList ∧ BytesAt w e.A e.l ∧ (0 ≤ e.fl ∧ e.fl < 4294967296) := by
      intro i hi
      have h1 := hel i hi
      rw [cells_eff] at h1
      obtain ⟨y, hy⟩ := got (n := len) hlen hi h1
      rw [Option.bind_eq_some_iff] at hy
      obtain ⟨cs', hc', hd'⟩ := hy
      obtain ⟨e, rfl, hA, _, hn, _, _, _⟩ := eff_trod hd'
      exact ⟨e, hc', hA, by simp [Lit.wf, IntKind.min, IntKind.max, IntKind.signed, IntKind.bits] at hn; omega⟩
    clear hel hd hval
    obtain ⟨f, hf⟩ : ∃ f : Nat → Eff, ∀ i, i < len → w.cells? 0 (a.add (i * 7)) 7 = some (f i).cells.toList ∧ BytesAt w (f i).A (f i).l ∧ (0 ≤ (f i).fl ∧ (f i).fl < 4294967296) :=
      ⟨fun i => if h : i < len then (each i h).choose else ⟨0, 0, 0, 0, none, [], 0, 0, false⟩, fun i hi => by simp only [dif_pos hi]; exact (each i hi).choose_spec⟩
    have hll : ((List.range len).map f).length = len := by simp
    refine ⟨some a, (List.range len).map f, cap, by rw [hll], by rw [hll]; exact hl, hm, ?_, ?_, Or.inr ⟨_, _, congrArg Prod.fst hx, ?_⟩⟩
    · intro hne
      have hpos : 0 < len := by
        rcases Nat.eq_zero_or_pos len with h0 | h0
        · subst h0; simp at hne
        · exact h0
      have cell : ∀ i, i < len → ∀ j v, (f i).cells[j]? = some v → w.cell? ((a.add (i * 7)).add j) = some v := by
        intro i hi j v hj
        have hj7 : j < 7 := by
          have := (Array.getElem?_eq_some_iff.1 hj).1
          exact this
        rw [(World.cells?_some (hf i hi).1).2.2 j hj7]
        simpa using hj
      obtain ⟨b, off, spot⟩ := a
      have h0 := cell 0 hpos 0 _ rfl
      have hspot : spot = none := by simpa [Addr.add] using World.cell?_spot h0
      subst hspot
      refine ⟨b, off, rfl, by simpa [Addr.add] using block_lt_of_cell h0, fun j e he => ?_⟩
      obtain ⟨hj, rfl⟩ : j < len ∧ f j = e := by
        have := List.getElem?_eq_some_iff.1 he
        obtain ⟨h1, h2⟩ := this
        rw [hll] at h1
        exact ⟨h1, by simpa using h2⟩
      refine ⟨fun i v hv => ?_, (hf j hj).2.1⟩
      have := cell j hj i v hv
      rw [add_plain, add_plain] at this
      exact this
    · intro e he
      simp only [List.mem_map, List.mem_range] at he
      obtain ⟨i, hi, rfl⟩ := he
      exact (hf i hi).2.2
    · simp only [List.length_map]
      have := (hsp rfl).1
      omega
end

end Go.Proofs.Ytbkdmceefefiaaa.Law

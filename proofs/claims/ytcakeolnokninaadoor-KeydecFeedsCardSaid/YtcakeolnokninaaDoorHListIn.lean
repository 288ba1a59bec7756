/- What slices of rows, of numbers and of bytes are that the reader of a law's input takes. -/
import Derived.Test.YtcakeolnokninaaDoorGA
import Derived.ChangeSlices
import Derived.OpenShut
set_option linter.unusedVariables false
namespace Go.Proofs.YtcakeolnokninaaDoor.Law
open Go.ChangeShapes Go.WideShapes Go.ChangeAt Go.RowKit Utf UtfP

/-- the rows rs of n cells each lie at A -/
def RowsAt {R : Type} (w : World) (n : Nat) (cells : R → List Value) (A : Option Addr) (rs : List R) : Prop :=
  rs ≠ [] → ∃ b off, A = some ⟨b, off, none⟩ ∧ b < w.heap.size ∧ ∀ j r, rs[j]? = some r → ∀ i v, (cells r)[i]? = some v → w.cell? ⟨b, off + j * n + i, none⟩ = some v

theorem RowsAt.below {R : Type} {w w' : World} {n : Nat} {cells : R → List Value} {A : Option Addr} {rs : List R} (h : RowsAt w n cells A rs) (hb : Below w.heap.size w w') : RowsAt w' n cells A rs := by
  intro hne
  obtain ⟨b, off, hA, hlt, hc⟩ := h hne
  refine ⟨b, off, hA, Nat.lt_of_lt_of_le hlt hb.size, fun j r hr i v hv => ?_⟩
  rw [hb.cell hlt]
  exact hc j r hr i v hv

theorem got' {α : Type} {xs : List α} {n i : Nat} {o : Option α} (hn : xs.length = n) (hi : i < n) (h : o = xs[i]?) : ∃ y, o = some y := by
  subst hn
  exact ⟨xs[i], by rw [h, List.getElem?_eq_getElem hi]⟩

theorem cellsL {w : World} {a : Addr} {n : Nat} {cs : List Value} (h : w.cells? 0 a n = some cs) (i : Nat) (v : Value) (hi : cs[i]? = some v) : w.cell? (a.add i) = some v := by
  have h2 := World.cells?_some h
  have hlt : i < cs.length := (List.getElem?_eq_some_iff.1 hi).1
  have hl : i < n := by
    have := h2.2.1
    omega
  rw [h2.2.2 i hl]
  exact hi

section
variable {H : Type} {enc : TypeId × Value → H} {P : Program}

theorem bytes_trod' {w : World} {t e : TypeId} {fuel : Nat} {cs : List Value} {x : DataW H × List MemPlace} (ht : P.underlying t = some (.slice e)) (he : P.underlying e = some (.int .u8)) (hc : P.cellsOf e = 1)
    (hd : DataW.trod enc P w 0 (fun _ => true) true fuel t cs = some x) :
    ∃ (A : Option Addr) (l : List UInt8) (cap : Nat), cs = [.slice A l.length cap] ∧ l.length ≤ cap ∧ cap ≤ maxLen ∧ BytesAt w A l := by
  rcases open_ints ht he hc hd with ⟨hcs, hx⟩ | ⟨a, len, cap, zs, hcs, hb, hl, hm, hz, hx, hcell, hw⟩
  · exact ⟨none, [], 0, hcs, by simp, by simp [maxLen], fun h => absurd rfl h⟩
  · have hzl : zs.length = cap := by simpa using hz
    have hlen : ((zs.take len).map fun z => UInt8.ofNat z.toNat).length = len := by simp; omega
    refine ⟨some a, (zs.take len).map fun z => UInt8.ofNat z.toNat, cap, by rw [hlen]; exact hcs, by rw [hlen]; exact hl, hm, ?_⟩
    intro hne
    have hpos : 0 < len := by
      rcases Nat.eq_zero_or_pos len with h0 | h0
      · exact absurd (List.eq_nil_of_length_eq_zero (by rw [hlen]; exact h0)) hne
      · exact h0
    obtain ⟨b, off, spot⟩ := a
    have h0 := hcell 0 (by omega)
    have hspot : spot = none := by simpa [Addr.add] using World.cell?_spot h0
    subst hspot
    refine ⟨b, off, rfl, block_lt_of_cell (by simpa [Addr.add] using h0), fun j hj => ?_⟩
    rw [hlen] at hj
    have hlz : len ≤ zs.length := by omega
    have hj' := hcell j (by omega)
    rw [add_plain] at hj'
    rw [hj']
    have hmem : zs.getD j 0 ∈ zs := by
      rw [List.getD_eq_getElem?_getD, List.getElem?_eq_getElem (by omega)]; exact List.getElem_mem _
    have hwf := hw _ hmem
    have hbd : 0 ≤ zs.getD j 0 ∧ zs.getD j 0 < 256 := wf_u8 hwf
    have hbt : (bt ((zs.take len).map fun z => UInt8.ofNat z.toNat) j : Int) = zs.getD j 0 := by
      unfold bt
      rw [List.getD_eq_getElem?_getD, List.getElem?_map, List.getElem?_take_of_lt hj, List.getElem?_eq_getElem (by omega)]
      rw [List.getD_eq_getElem?_getD, List.getElem?_eq_getElem (by omega)] at hbd ⊢
      simp only [Option.getD_some, Option.map_some] at hbd ⊢
      rw [UInt8.toNat_ofNat']
      omega
    rw [hbt]

/-- A slice of rows, each of n cells. -/
theorem open_rows {R : Type} [Inhabited R] {w : World} {t e : TypeId} (n : Nat) (hn0 : 0 < n) (cells : R → List Value) (hlen : ∀ r, (cells r).length = n) (Good : R → Prop) {v : Value} {d : DataW H} {ps : List MemPlace} {r : Reach} {b0 : Nat}
    (ht : P.underlying t = some (.slice e)) (hc : P.cellsOf e = n)
    (hone : ∀ fuel cs x, DataW.trod enc P w 0 (fun _ => true) true fuel e cs = some x → ∃ r, cs = cells r ∧ Good r)
    (hval : Value.okWide P w r b0 t v) (h : DataW.Trod enc P w 0 (fun _ => true) true t v d ps) :
    ∃ (A : Option Addr) (rs : List R) (cap : Nat), v = .slice A rs.length cap ∧ rs.length ≤ cap ∧ cap ≤ maxLen ∧ RowsAt w n cells A rs ∧ (∀ r ∈ rs, Good r) ∧
      ((d = .nil ∧ cap = 0) ∨ ∃ elems spare, d = .slice elems spare ∧ elems.length + spare.length = cap) := by
  obtain ⟨a0, len0, cap0, rfl⟩ := okWide_slice ht hval
  obtain ⟨fuel, hd⟩ := h
  rcases DataW.trod_slice ht hd with ⟨hcs, hx⟩ | ⟨a, len, cap, elems, rest, m, rfl, hcs, hx, hb, hl, hm, hlen', hel, hsp, _⟩
  · have hv : Value.slice a0 len0 cap0 = .slice none 0 0 := by
      simp [Value.cells] at hcs
      obtain ⟨rfl, rfl, rfl⟩ := hcs; rfl
    exact ⟨none, [], 0, hv, by simp, by simp [maxLen], fun h => absurd rfl h, by simp, Or.inl ⟨congrArg Prod.fst hx, rfl⟩⟩
  · have hv : Value.slice a0 len0 cap0 = .slice (some a) len cap := by
      simp [Value.cells] at hcs
      obtain ⟨rfl, rfl, rfl⟩ := hcs; rfl
    rw [hv]
    rw [hc] at hel
    have each : ∀ i, i < len → ∃ r : R, w.cells? 0 (a.add (i * n)) n = some (cells r) ∧ Good r := by
      intro i hi
      have h1 := hel i hi
      obtain ⟨y, hy⟩ := got' (n := len) hlen' hi h1
      rw [Option.bind_eq_some_iff] at hy
      obtain ⟨cs', hc', hd'⟩ := hy
      obtain ⟨r, rfl, hg⟩ := hone _ _ _ hd'
      exact ⟨r, hc', hg⟩
    clear hel hd hval
    obtain ⟨f, hf⟩ : ∃ f : Nat → R, ∀ i, i < len → w.cells? 0 (a.add (i * n)) n = some (cells (f i)) ∧ Good (f i) :=
      ⟨fun i => if h : i < len then (each i h).choose else default, fun i hi => by simp only [dif_pos hi]; exact (each i hi).choose_spec⟩
    have hll : ((List.range len).map f).length = len := by simp
    refine ⟨some a, (List.range len).map f, cap, by rw [hll], by rw [hll]; exact hl, hm, ?_, ?_, Or.inr ⟨_, _, congrArg Prod.fst hx, ?_⟩⟩
    · intro hne
      have hpos : 0 < len := by
        rcases Nat.eq_zero_or_pos len with h0 | h0
        · subst h0; simp at hne
        · exact h0
      have cell : ∀ i, i < len → ∀ j v, (cells (f i))[j]? = some v → w.cell? ((a.add (i * n)).add j) = some v := fun i hi j v hj => cellsL (hf i hi).1 j v hj
      obtain ⟨b, off, spot⟩ := a
      obtain ⟨v0, hv0⟩ : ∃ v0, (cells (f 0))[0]? = some v0 := ⟨_, List.getElem?_eq_getElem (by rw [hlen]; exact hn0)⟩
      have h0 := cell 0 hpos 0 _ hv0
      have hspot : spot = none := by simpa [Addr.add] using World.cell?_spot h0
      subst hspot
      refine ⟨b, off, rfl, by simpa [Addr.add] using block_lt_of_cell h0, fun j r hr => ?_⟩
      obtain ⟨hj, rfl⟩ : j < len ∧ f j = r := by
        obtain ⟨h1, h2⟩ := List.getElem?_eq_some_iff.1 hr
        rw [hll] at h1
        exact ⟨h1, by simpa using h2⟩
      intro i v hv
      have := cell j hj i v hv
      rw [add_plain, add_plain] at this
      exact this
    · intro r hr
      simp only [List.mem_map, List.mem_range] at hr
      obtain ⟨i, hi, rfl⟩ := hr
      exact (hf i hi).2
    · simp only [List.length_map]
      have := (hsp rfl).1
      omega

/-- A slice of numbers. -/
theorem open_nums {w : World} {t e : TypeId} {k : IntKind} {v : Value} {d : DataW H} {ps : List MemPlace} {r : Reach} {b0 : Nat} (ht : P.underlying t = some (.slice e)) (he : P.underlying e = some (.int k)) (hc : P.cellsOf e = 1)
    (hval : Value.okWide P w r b0 t v) (h : DataW.Trod enc P w 0 (fun _ => true) true t v d ps) :
    ∃ (A : Option Addr) (zs : List Int) (cap : Nat), v = .slice A zs.length cap ∧ zs.length ≤ cap ∧ cap ≤ maxLen ∧ RowsAt w 1 (fun z => [.int k z]) A zs ∧ (∀ z ∈ zs, (Lit.int k z).wf = true) ∧
      ((d = .nil ∧ cap = 0) ∨ ∃ elems spare, d = .slice elems spare ∧ elems.length + spare.length = cap) :=
  open_rows 1 (by decide) (fun z : Int => [.int k z]) (fun _ => rfl) (fun z => (Lit.int k z).wf = true) ht hc (fun fuel cs x hd => by
    obtain ⟨n, e1, _, w1⟩ := DataW.trod_int he hd
    exact ⟨n, e1, w1⟩) hval h

structure ByteRow where
  A : Option Addr
  l : List UInt8
  cap : Nat
instance : Inhabited ByteRow := ⟨⟨none, [], 0⟩⟩
def ByteRow.Good (w : World) (r : ByteRow) : Prop := BytesAt w r.A r.l ∧ r.l.length ≤ r.cap ∧ r.cap ≤ maxLen
def ByteRow.cells (r : ByteRow) : List Value := [.slice r.A r.l.length r.cap]

/-- A slice of slices of bytes. -/
theorem open_texts {w : World} {t s e : TypeId} {v : Value} {d : DataW H} {ps : List MemPlace} {r : Reach} {b0 : Nat} (ht : P.underlying t = some (.slice s)) (hs : P.underlying s = some (.slice e)) (he : P.underlying e = some (.int .u8)) (hc : P.cellsOf e = 1) (hcs : P.cellsOf s = 1)
    (hval : Value.okWide P w r b0 t v) (h : DataW.Trod enc P w 0 (fun _ => true) true t v d ps) :
    ∃ (A : Option Addr) (rs : List ByteRow) (cap : Nat), v = .slice A rs.length cap ∧ rs.length ≤ cap ∧ cap ≤ maxLen ∧ RowsAt w 1 ByteRow.cells A rs ∧ (∀ r ∈ rs, r.Good w) ∧
      ((d = .nil ∧ cap = 0) ∨ ∃ elems spare, d = .slice elems spare ∧ elems.length + spare.length = cap) :=
  open_rows 1 (by decide) ByteRow.cells (fun _ => rfl) (ByteRow.Good w) ht hcs (fun fuel cs x hd => by
    obtain ⟨A, l, cap, e1, h1, h2, h3⟩ := bytes_trod' hs he hc hd
    exact ⟨⟨A, l, cap⟩, e1, h3, h1, h2⟩) hval h

end

end Go.Proofs.YtcakeolnokninaaDoor.Law

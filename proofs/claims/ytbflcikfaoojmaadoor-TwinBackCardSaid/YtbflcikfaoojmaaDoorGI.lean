/- Texts joined: ListIn; PlIn. -/
import Derived.Test.YtbflcikfaoojmaaDoorHOpen
import Derived.ChangeSlices
import Derived.OpenShut
import Derived.Test.YtbflcikfaoojmaaDoorGP1
import Derived.SizedLaws
/- What slices of rows, of numbers and of bytes are that the reader of a law's input takes. -/
set_option linter.unusedVariables false
namespace Go.Proofs.YtbflcikfaoojmaaDoor.Law
open Go.ChangeShapes Go.WideShapes Go.ChangeAt Go.RowKit Utf UtfP

/-- the rows rs of n cells each lie at A -/
def RowsAt {R : Type} (w : World) (n : Nat) (cells : R → List Value) (A : Option Addr) (rs : List R) : Prop :=
  rs ≠ [] → ∃ b off, A = some ⟨b, off, none⟩ ∧ b < w.heap.size ∧ ∀ j r, rs[j]? = some r → ∀ i v, (cells r)[i]? = some v → w.cell? ⟨b, off + j * n + i, none⟩ = some v

theorem RowsAt.below {R : Type} {w w' : World} {n : Nat} {cells : R → List Value} {A : Option Addr} {rs : List R} (h : RowsAt w n cells A rs) (hb : Below w.heap.size w w') : RowsAt w' n cells A rs := by
  intro hne
  obtain ⟨b, off, hA, hlt, hc⟩ := h hne
  refine ⟨b, off, hA, Nat.lt_of_lt_of_le hlt hb.size, fun j r hr i v hv => ?_⟩
  rw [hb.cell hlt]
  exact hc j r hr i v hv

theorem got' {α : Type} {xs : List α} {n i : Nat} {o : Option α} (hn : xs.length = n) (hi : i < n) (h : o = xs[i]?) : ∃ y, o = some y := by
  subst hn
  exact ⟨xs[i], by rw [h, List.getElem?_eq_getElem hi]⟩

theorem cellsL {w : World} {a : Addr} {n : Nat} {cs : List Value} (h : w.cells? 0 a n = some cs) (i : Nat) (v : Value) (hi : cs[i]? = some v) : w.cell? (a.add i) = some v := by
  have h2 := World.cells?_some h
  have hlt : i < cs.length := (List.getElem?_eq_some_iff.1 hi).1
  have hl : i < n := by
    have := h2.2.1
    omega
  rw [h2.2.2 i hl]
  exact hi

section
variable {H : Type} {enc : TypeId × Value → H} {P : Program}

theorem bytes_trod' {w : World} {t e : TypeId} {fuel : Nat} {cs : List Value} {x : DataW H × List MemPlace} (ht : P.underlying t = some (.slice e)) (he : P.underlying e = some (.int .u8)) (hc : P.cellsOf e = 1)
    (hd : DataW.trod enc P w 0 (fun _ => true) true fuel t cs = some x) :
    ∃ (A : Option Addr) (l : List UInt8) (cap : Nat), cs = [.slice A l.length cap] ∧ l.length ≤ cap ∧ cap ≤ maxLen ∧ BytesAt w A l := by
  rcases open_ints ht he hc hd with ⟨hcs, hx⟩ | ⟨a, len, cap, zs, hcs, hb, hl, hm, hz, hx, hcell, hw⟩
  · exact ⟨none, [], 0, hcs, by simp, by simp [maxLen], fun h => absurd rfl h⟩
  · have hzl : zs.length = cap := by simpa using hz
    have hlen : ((zs.take len).map fun z => UInt8.ofNat z.toNat).length = len := by simp; omega
    refine ⟨some a, (zs.take len).map fun z => UInt8.ofNat z.toNat, cap, by rw [hlen]; exact hcs, by rw [hlen]; exact hl, hm, ?_⟩
    intro hne
    have hpos : 0 < len := by
      rcases Nat.eq_zero_or_pos len with h0 | h0
      · exact absurd (List.eq_nil_of_length_eq_zero (by rw [hlen]; exact h0)) hne
      · exact h0
    obtain ⟨b, off, spot⟩ := a
    have h0 := hcell 0 (by omega)
    have hspot : spot = none := by simpa [Addr.add] using World.cell?_spot h0
    subst hspot
    refine ⟨b, off, rfl, block_lt_of_cell (by simpa [Addr.add] using h0), fun j hj => ?_⟩
    rw [hlen] at hj
    have hlz : len ≤ zs.length := by omega
    have hj' := hcell j (by omega)
    rw [add_plain] at hj'
    rw [hj']
    have hmem : zs.getD j 0 ∈ zs := by
      rw [List.getD_eq_getElem?_getD, List.getElem?_eq_getElem (by omega)]; exact List.getElem_mem _
    have hwf := hw _ hmem
    have hbd : 0 ≤ zs.getD j 0 ∧ zs.getD j 0 < 256 := wf_u8 hwf
    have hbt : (bt ((zs.take len).map fun z => UInt8.ofNat z.toNat) j : Int) = zs.getD j 0 := by
      unfold bt
      rw [List.getD_eq_getElem?_getD, List.getElem?_map, List.getElem?_take_of_lt hj, List.getElem?_eq_getElem (by omega)]
      rw [List.getD_eq_getElem?_getD, List.getElem?_eq_getElem (by omega)] at hbd ⊢
      simp only [Option.getD_some, Option.map_some] at hbd ⊢
      rw [UInt8.toNat_ofNat']
      omega
    rw [hbt]

/-- A slice of rows, each of n cells. -/
theorem open_rows {R : Type} [Inhabited R] {w : World} {t e : TypeId} (n : Nat) (hn0 : 0 < n) (cells : R → List Value) (hlen : ∀ r, (cells r).length = n) (Good : R → Prop) {v : Value} {d : DataW H} {ps : List MemPlace} {r : Reach} {b0 : Nat}
    (ht : P.underlying t = some (.slice e)) (hc : P.cellsOf e = n)
    (hone : ∀ fuel cs x, DataW.trod enc P w 0 (fun _ => true) true fuel e cs = some x → ∃ r, cs = cells r ∧ Good r)
    (hval : Value.okWide P w r b0 t v) (h : DataW.Trod enc P w 0 (fun _ => true) true t v d ps) :
    ∃ (A : Option Addr) (rs : List R) (cap : Nat), v = .slice A rs.length cap ∧ rs.length ≤ cap ∧ cap ≤ maxLen ∧ RowsAt w n cells A rs ∧ (∀ r ∈ rs, Good r) ∧
      ((d = .nil ∧ cap = 0) ∨ ∃ elems spare, d = .slice elems spare ∧ elems.length + spare.length = cap) := by
  obtain ⟨a0, len0, cap0, rfl⟩ := okWide_slice ht hval
  obtain ⟨fuel, hd⟩ := h
  rcases DataW.trod_slice ht hd with ⟨hcs, hx⟩ | ⟨a, len, cap, elems, rest, m, rfl, hcs, hx, hb, hl, hm, hlen', hel, hsp, _⟩
  · have hv : Value.slice a0 len0 cap0 = .slice none 0 0 := by
      simp [Value.cells] at hcs
      obtain ⟨rfl, rfl, rfl⟩ := hcs; rfl
    exact ⟨none, [], 0, hv, by simp, by simp [maxLen], fun h => absurd rfl h, by simp, Or.inl ⟨congrArg Prod.fst hx, rfl⟩⟩
  · have hv : Value.slice a0 len0 cap0 = .slice (some a) len cap := by
      simp [Value.cells] at hcs
      obtain ⟨rfl, rfl, rfl⟩ := hcs; rfl
    rw [hv]
    rw [hc] at hel
    have each : ∀ i, i < len → ∃ r : R, w.cells? 0 (a.add (i * n)) n = some (cells r) ∧ Good r := by
      intro i hi
      have h1 := hel i hi
      obtain ⟨y, hy⟩ := got' (n := len) hlen' hi h1
      rw [Option.bind_eq_some_iff] at hy
      obtain ⟨cs', hc', hd'⟩ := hy
      obtain ⟨r, rfl, hg⟩ := hone _ _ _ hd'
      exact ⟨r, hc', hg⟩
    clear hel hd hval
    obtain ⟨f, hf⟩ : ∃ f : Nat → R, ∀ i, i < len → w.cells? 0 (a.add (i * n)) n = some (cells (f i)) ∧ Good (f i) :=
      ⟨fun i => if h : i < len then (each i h).choose else default, fun i hi => by simp only [dif_pos hi]; exact (each i hi).choose_spec⟩
    have hll : ((List.range len).map f).length = len := by simp
    refine ⟨some a, (List.range len).map f, cap, by rw [hll], by rw [hll]; exact hl, hm, ?_, ?_, Or.inr ⟨_, _, congrArg Prod.fst hx, ?_⟩⟩
    · intro hne
      have hpos : 0 < len := by
        rcases Nat.eq_zero_or_pos len with h0 | h0
        · subst h0; simp at hne
        · exact h0
      have cell : ∀ i, i < len → ∀ j v, (cells (f i))[j]? = some v → w.cell? ((a.add (i * n)).add j) = some v := fun i hi j v hj => cellsL (hf i hi).1 j v hj
      obtain ⟨b, off, spot⟩ := a
      obtain ⟨v0, hv0⟩ : ∃ v0, (cells (f 0))[0]? = some v0 := ⟨_, List.getElem?_eq_getElem (by rw [hlen]; exact hn0)⟩
      have h0 := cell 0 hpos 0 _ hv0
      have hspot : spot = none := by simpa [Addr.add] using World.cell?_spot h0
      subst hspot
      refine ⟨b, off, rfl, by simpa [Addr.add] using block_lt_of_cell h0, fun j r hr => ?_⟩
      obtain ⟨hj, rfl⟩ : j < len ∧ f j = r := by
        obtain ⟨h1, h2⟩ := List.getElem?_eq_some_iff.1 hr
        rw [hll] at h1
        exact ⟨h1, by simpa using h2⟩
      intro i v hv
      have := cell j hj i v hv
      rw [add_plain, add_plain] at this
      exact this
    · intro r hr
      simp only [List.mem_map, List.mem_range] at hr
      obtain ⟨i, hi, rfl⟩ := hr
      exact (hf i hi).2
    · simp only [List.length_map]
      have := (hsp rfl).1
      omega

/-- A slice of numbers. -/
theorem open_nums {w : World} {t e : TypeId} {k : IntKind} {v : Value} {d : DataW H} {ps : List MemPlace} {r : Reach} {b0 : Nat} (ht : P.underlying t = some (.slice e)) (he : P.underlying e = some (.int k)) (hc : P.cellsOf e = 1)
    (hval : Value.okWide P w r b0 t v) (h : DataW.Trod enc P w 0 (fun _ => true) true t v d ps) :
    ∃ (A : Option Addr) (zs : List Int) (cap : Nat), v = .slice A zs.length cap ∧ zs.length ≤ cap ∧ cap ≤ maxLen ∧ RowsAt w 1 (fun z => [.int k z]) A zs ∧ (∀ z ∈ zs, (Lit.int k z).wf = true) ∧
      ((d = .nil ∧ cap = 0) ∨ ∃ elems spare, d = .slice elems spare ∧ elems.length + spare.length = cap) :=
  open_rows 1 (by decide) (fun z : Int => [.int k z]) (fun _ => rfl) (fun z => (Lit.int k z).wf = true) ht hc (fun fuel cs x hd => by
    obtain ⟨n, e1, _, w1⟩ := DataW.trod_int he hd
    exact ⟨n, e1, w1⟩) hval h

structure ByteRow where
  A : Option Addr
  l : List UInt8
  cap : Nat
instance : Inhabited ByteRow := ⟨⟨none, [], 0⟩⟩
def ByteRow.Good (w : World) (r : ByteRow) : Prop := BytesAt w r.A r.l ∧ r.l.length ≤ r.cap ∧ r.cap ≤ maxLen
def ByteRow.cells (r : ByteRow) : List Value := [.slice r.A r.l.length r.cap]

/-- A slice of slices of bytes. -/
theorem open_texts {w : World} {t s e : TypeId} {v : Value} {d : DataW H} {ps : List MemPlace} {r : Reach} {b0 : Nat} (ht : P.underlying t = some (.slice s)) (hs : P.underlying s = some (.slice e)) (he : P.underlying e = some (.int .u8)) (hc : P.cellsOf e = 1) (hcs : P.cellsOf s = 1)
    (hval : Value.okWide P w r b0 t v) (h : DataW.Trod enc P w 0 (fun _ => true) true t v d ps) :
    ∃ (A : Option Addr) (rs : List ByteRow) (cap : Nat), v = .slice A rs.length cap ∧ rs.length ≤ cap ∧ cap ≤ maxLen ∧ RowsAt w 1 ByteRow.cells A rs ∧ (∀ r ∈ rs, r.Good w) ∧
      ((d = .nil ∧ cap = 0) ∨ ∃ elems spare, d = .slice elems spare ∧ elems.length + spare.length = cap) :=
  open_rows 1 (by decide) ByteRow.cells (fun _ => rfl) (ByteRow.Good w) ht hcs (fun fuel cs x hd => by
    obtain ⟨A, l, cap, e1, h1, h2, h3⟩ := bytes_trod' hs he hc hd
    exact ⟨⟨A, l, cap⟩, e1, h3, h1, h2⟩) hval h

end

end Go.Proofs.YtbflcikfaoojmaaDoor.Law

/- A plan that the reader of a law's input takes, opened. -/
set_option linter.unusedVariables false
set_option maxRecDepth 100000
namespace Go.Proofs.YtbflcikfaoojmaaDoor.Law
open Go.ChangeShapes Go.WideShapes Go.ChangeAt Go.RowKit Go.Lib Mem Utf UtfP Edit

section
variable {H : Type} {enc : TypeId × Value → H} {P : Program}

theorem trod_float {w : World} {t : TypeId} {k : FloatKind} {fuel : Nat} {cs : List Value} {x : DataW H × List MemPlace} (ht : P.underlying t = some (.float k)) (h : DataW.trod enc P w 0 (fun _ => true) true fuel t cs = some x) : ∃ n, cs = [.float k n] ∧ (Lit.float k n).wf = true := by
  cases fuel with
  | zero => simp [DataW.trod] at h
  | succ n =>
    unfold DataW.trod at h
    rw [ht] at h
    split at h <;> simp_all

theorem wAll_mem {e : TypeId} : ∀ {l : List (DataW H)} {d : DataW H}, d ∈ l → ∀ n ∈ d.weights P e, n ∈ DataW.weightsAll P e l
  | d0 :: l, d, h, n, hn => by
    simp only [DataW.weightsAll, List.mem_append]
    rcases List.mem_cons.1 h with rfl | h
    · exact Or.inl hn
    · exact Or.inr (wAll_mem h n hn)
  | [], _, h, _, _ => by simp at h
/-- rows of n cells each, told by their slice's cell -/
theorem rows_trod {R : Type} [Inhabited R] {w : World} {t e : TypeId} {fuel : Nat} {cs : List Value} {x : DataW H × List MemPlace} (n : Nat) (hn0 : 0 < n) (cells : R → List Value) (hlen : ∀ r, (cells r).length = n) (Good : R → Prop)
    (ht : P.underlying t = some (.slice e)) (hc : P.cellsOf e = n)
    (hone : ∀ fuel cs x, DataW.trod enc P w 0 (fun _ => true) true fuel e cs = some x → (∀ n ∈ x.1.weights P e, n ≤ reachBytes) → ∃ r, cs = cells r ∧ Good r)
    (hd : DataW.trod enc P w 0 (fun _ => true) true fuel t cs = some x) (hw : ∀ n ∈ x.1.weights P t, n ≤ reachBytes) :
    ∃ (A : Option Addr) (rs : List R) (cap : Nat), cs = [.slice A rs.length cap] ∧ rs.length ≤ cap ∧ RowsAt w n cells A rs ∧ (∀ r ∈ rs, Good r) ∧ (A = none → rs = [] ∧ cap = 0) ∧ rs.length * P.bytesOf e ≤ reachBytes := by
  rcases DataW.trod_slice ht hd with ⟨hcs, hx⟩ | ⟨a, len, cap, elems, rest, m, rfl, hcs, hx, hb, hl, hm, hlen', hel, hsp, _⟩
  · exact ⟨none, [], 0, hcs, by simp, fun h => absurd rfl h, by simp, fun _ => ⟨rfl, rfl⟩, by simp⟩
  · rw [hc] at hel
    have hwt := hw ((elems.length + rest.length) * P.bytesOf e) (by rw [hx]; simp [DataW.weights, ht])
    have hlb : len * P.bytesOf e ≤ reachBytes := Nat.le_trans (Nat.mul_le_mul_right _ (by omega)) hwt
    have each : ∀ i, i < len → ∃ r : R, w.cells? 0 (a.add (i * n)) n = some (cells r) ∧ Good r := by
      intro i hi
      have h1 := hel i hi
      obtain ⟨y, hy⟩ := got' (n := len) hlen' hi h1
      have hy0 := hy
      rw [Option.bind_eq_some_iff] at hy
      obtain ⟨cs', hc', hd'⟩ := hy
      have hmem : y ∈ elems := List.mem_of_getElem? (h1 ▸ hy0)
      obtain ⟨r, rfl, hg⟩ := hone _ _ _ hd' (fun k hk => hw k (by
        rw [hx]
        simp only [DataW.weights, ht, List.mem_cons, List.mem_append]
        exact Or.inr (Or.inl (wAll_mem (List.mem_map_of_mem hmem) k hk))))
      exact ⟨r, hc', hg⟩
    clear hel hd
    obtain ⟨f, hf⟩ : ∃ f : Nat → R, ∀ i, i < len → w.cells? 0 (a.add (i * n)) n = some (cells (f i)) ∧ Good (f i) :=
      ⟨fun i => if h : i < len then (each i h).choose else default, fun i hi => by simp only [dif_pos hi]; exact (each i hi).choose_spec⟩
    have hll : ((List.range len).map f).length = len := by simp
    refine ⟨some a, (List.range len).map f, cap, by rw [hll]; exact hcs, by rw [hll]; exact hl, ?_, ?_, fun h => (by cases h), by rw [hll]; exact hlb⟩
    · intro hne
      have hpos : 0 < len := by
        rcases Nat.eq_zero_or_pos len with h0 | h0
        · subst h0; simp at hne
        · exact h0
      have cell : ∀ i, i < len → ∀ j v, (cells (f i))[j]? = some v → w.cell? ((a.add (i * n)).add j) = some v := fun i hi j v hj => cellsL (hf i hi).1 j v hj
      obtain ⟨b, off, spot⟩ := a
      obtain ⟨v0, hv0⟩ : ∃ v0, (cells (f 0))[0]? = some v0 := ⟨_, List.getElem?_eq_getElem (by rw [hlen]; exact hn0)⟩
      have h0 := cell 0 hpos 0 _ hv0
      have hspot : spot = none := by simpa [Addr.add] using World.cell?_spot h0
      subst hspot
      refine ⟨b, off, rfl, by simpa [Addr.add] using block_lt_of_cell h0, fun j r hr => ?_⟩
      obtain ⟨hj, rfl⟩ : j < len ∧ f j = r := by
        obtain ⟨h1, h2⟩ := List.getElem?_eq_some_iff.1 hr
        rw [hll] at h1
        exact ⟨h1, by simpa using h2⟩
      intro i v hv
      have := cell j hj i v hv
      rw [add_plain, add_plain] at this
      exact this
    · intro r hr
      simp only [List.mem_map, List.mem_range] at hr
      obtain ⟨i, hi, rfl⟩ := hr
      exact (hf i hi).2

theorem bytes_trodN {w : World} {t e : TypeId} {fuel : Nat} {cs : List Value} {x : DataW H × List MemPlace} (ht : P.underlying t = some (.slice e)) (he : P.underlying e = some (.int .u8)) (hc : P.cellsOf e = 1) (hb1 : P.bytesOf e = 1)
    (hd : DataW.trod enc P w 0 (fun _ => true) true fuel t cs = some x) (hw : ∀ n ∈ x.1.weights P t, n ≤ reachBytes) :
    ∃ (A : Option Addr) (l : List UInt8) (cap : Nat), cs = [.slice A l.length cap] ∧ l.length ≤ cap ∧ BytesAt w A l ∧ (A = none → l = [] ∧ cap = 0) ∧ l.length ≤ reachBytes := by
  obtain ⟨A, l, cap, h1, h2, _, h3⟩ := bytes_trod' ht he hc hd
  have hlr : l.length ≤ reachBytes := by
    rcases DataW.trod_slice ht hd with ⟨hcs, hx⟩ | ⟨a, len, cap', elems, rest, m, rfl, hcs, hx, hb, hl, hm, hlen', _⟩
    · rw [h1] at hcs
      injection hcs with hcs _
      injection hcs with _ h4 h5
      omega
    · rw [h1] at hcs
      injection hcs with hcs _
      injection hcs with _ h4 h5
      have := hw ((elems.length + rest.length) * P.bytesOf e) (by rw [hx]; simp [DataW.weights, ht])
      rw [hb1, Nat.mul_one] at this
      omega
  refine ⟨A, l, cap, h1, h2, h3, ?_, hlr⟩
  rintro rfl
  rcases DataW.trod_slice ht hd with ⟨hcs, hx⟩ | ⟨a, len, cap', elems, rest, m, rfl, hcs, _⟩
  · rw [h1] at hcs
    injection hcs with hcs _
    injection hcs with _ h4 h5
    exact ⟨List.eq_nil_of_length_eq_zero h4, h5⟩
  · rw [h1] at hcs
    cases hcs
end

theorem cells_int : Tryd.prog.cellsOf 3 = 1 := by kernel_rfl
theorem cells_item : Tryd.prog.cellsOf 49 = 4 := by kernel_rfl
theorem cells_plan : Tryd.prog.cellsOf 35 = 7 := by kernel_rfl
theorem cells_attrs : Tryd.prog.cellsOf 31 = 3 := by kernel_rfl
theorem cells_u8s : Tryd.prog.cellsOf 47 = 1 := by kernel_rfl
theorem cells_ints : Tryd.prog.cellsOf 33 = 1 := by kernel_rfl
theorem cells_items : Tryd.prog.cellsOf 32 = 1 := by kernel_rfl
theorem cells_f64 : Tryd.prog.cellsOf 46 = 1 := by kernel_rfl
theorem cells_u32 : Tryd.prog.cellsOf 29 = 1 := by kernel_rfl
theorem cells_u8 : Tryd.prog.cellsOf 5 = 1 := by kernel_rfl
theorem listOf4 {cs : List Value} (h : cs.length = 4) : ∃ c0 c1 c2 c3, cs = [c0, c1, c2, c3] := by
  match cs, h with
  | [c0, c1, c2, c3], _ => exact ⟨c0, c1, c2, c3, rfl⟩
theorem listOf3 {cs : List Value} (h : cs.length = 3) : ∃ c0 c1 c2, cs = [c0, c1, c2] := by
  match cs, h with
  | [c0, c1, c2], _ => exact ⟨c0, c1, c2, rfl⟩
theorem listOf7 {cs : List Value} (h : cs.length = 7) : ∃ c0 c1 c2 c3 c4 c5 c6, cs = [c0, c1, c2, c3, c4, c5, c6] := by
  match cs, h with
  | [c0, c1, c2, c3, c4, c5, c6], _ => exact ⟨c0, c1, c2, c3, c4, c5, c6, rfl⟩
theorem wf_wrap {k : IntKind} {z : Int} (h : (Lit.int k z).wf = true) : k.wrap z = z := by
  simp only [Lit.wf, Bool.and_eq_true, decide_eq_true_eq] at h
  cases k <;> simp [IntKind.min, IntKind.max, IntKind.wrap, IntKind.bits, IntKind.signed] at h ⊢ <;> omega
instance : Inhabited It := ⟨⟨0, 0, 0, [], none, 0⟩⟩

section
variable {H : Type} {enc : TypeId × Value → H}

theorem item_trod {w : World} {fuel : Nat} {cs : List Value} {x : DataW H × List MemPlace} (hd : DataW.trod enc Tryd.prog w 0 (fun _ => true) true fuel 49 cs = some x) (hw : ∀ n ∈ x.1.weights Tryd.prog 49, n ≤ reachBytes) :
    ∃ r : It, cs = r.cells ∧ (r.Ok w ∧ r.l.length ≤ reachBytes) := by
  obtain ⟨xs, m, rfl, hxx, hl, hx, hi⟩ := DataW.trod_struct Tryd.underlying49 hd
  obtain ⟨c0, c1, c2, c3, rfl⟩ := listOf4 (by rw [hl, cells_item])
  obtain ⟨y0, h0⟩ := got' hx (i := 0) (by decide) (hi 0 _ rfl)
  obtain ⟨y1, h1⟩ := got' hx (i := 1) (by decide) (hi 1 _ rfl)
  obtain ⟨y2, h2⟩ := got' hx (i := 2) (by decide) (hi 2 _ rfl)
  obtain ⟨y3, h3⟩ := got' hx (i := 3) (by decide) (hi 3 _ rfl)
  obtain ⟨t, e0, w0⟩ := trod_float Tryd.underlying46 h0
  obtain ⟨k, e1, _, w1⟩ := DataW.trod_int Tryd.underlying3 h1
  obtain ⟨n, e2, _, w2⟩ := DataW.trod_int Tryd.underlying3 h2
  have hy3 : xs[3]? = some y3 := (hi 3 _ rfl).symm.trans h3
  have hws : ∀ n ∈ y3.1.weights Tryd.prog 47, n ≤ reachBytes := fun n hn => hw n (by
    rw [hxx]
    simp only [DataW.weights, Tryd.underlying49]
    exact DataW.weights_mem_each (j := 3) (t := 47) (d := y3.1) rfl (by rw [List.getElem?_map, hy3]; rfl) n hn)
  obtain ⟨A, l, cap, e3, b1, b2, b3, b4⟩ := bytes_trodN Tryd.underlying47 Tryd.underlying5 (by kernel_rfl) (by kernel_rfl) h3 hws
  simp [cells_int, cells_f64, cells_u8s] at e0 e1 e2 e3
  subst e0 e1 e2 e3
  exact ⟨⟨t, k, n, l, A, cap⟩, rfl, ⟨by simpa [Lit.wf] using w0, wf_wrap w1, wf_wrap w2, b1, b3, b2⟩, b4⟩

theorem attrs_trod {w : World} {fuel : Nat} {cs : List Value} {x : DataW H × List MemPlace} (hd : DataW.trod enc Tryd.prog w 0 (fun _ => true) true fuel 31 cs = some x) :
    ∃ a b c : Int, cs = [.int .u32 a, .int .u8 b, .int .u8 c] ∧ IntKind.u32.wrap a = a ∧ IntKind.u8.wrap b = b ∧ IntKind.u8.wrap c = c := by
  obtain ⟨xs, m, rfl, _, hl, hx, hi⟩ := DataW.trod_struct Tryd.underlying31 hd
  obtain ⟨c0, c1, c2, rfl⟩ := listOf3 (by rw [hl, cells_attrs])
  obtain ⟨y0, h0⟩ := got' hx (i := 0) (by decide) (hi 0 _ rfl)
  obtain ⟨y1, h1⟩ := got' hx (i := 1) (by decide) (hi 1 _ rfl)
  obtain ⟨y2, h2⟩ := got' hx (i := 2) (by decide) (hi 2 _ rfl)
  obtain ⟨a, e0, _, w0⟩ := DataW.trod_int Tryd.underlying29 h0
  obtain ⟨b, e1, _, w1⟩ := DataW.trod_int Tryd.underlying5 h1
  obtain ⟨c, e2, _, w2⟩ := DataW.trod_int Tryd.underlying5 h2
  simp [cells_u32, cells_u8] at e0 e1 e2
  subst e0 e1 e2
  exact ⟨a, b, c, rfl, wf_wrap w0, wf_wrap w1, wf_wrap w2⟩

theorem rows_its {w : World} {A : Option Addr} {rs : List It} (h : RowsAt w 4 It.cells A rs) : CellsAt w A (cellsI rs) := by
  intro hne
  obtain ⟨b, off, rfl, hb, hc⟩ := h (by rintro rfl; exact hne rfl)
  refine ⟨b, off, rfl, hb, fun j u hu => ?_⟩
  have hl : j < rs.length * 4 := by rw [← cellsI_length]; exact (List.getElem?_eq_some_iff.1 hu).1
  obtain ⟨r, hr⟩ : ∃ r, rs[j / 4]? = some r := ⟨_, List.getElem?_eq_getElem (by omega)⟩
  obtain ⟨d0, d1, d2, d3⟩ := cellsI_at rs (j / 4) r hr
  have hj : j = j / 4 * 4 + j % 4 := by omega
  have h4 : j % 4 = 0 ∨ j % 4 = 1 ∨ j % 4 = 2 ∨ j % 4 = 3 := by omega
  have := hc (j / 4) r hr (j % 4) u (by
    rw [hj] at hu
    rcases h4 with e | e | e | e <;> rw [e] at hu ⊢
    · rw [Nat.add_zero, d0] at hu; exact hu
    · rw [d1] at hu; exact hu
    · rw [d2] at hu; exact hu
    · rw [d3] at hu; exact hu)
  rw [Nat.add_assoc, ← hj] at this
  exact this
theorem rows_nums {w : World} {A : Option Addr} {rs : List Int} (h : RowsAt w 1 (fun i : Int => [.int .i64 i]) A rs) : CellsAt w A (rs.map fun i => .int .i64 i) := by
  intro hne
  obtain ⟨b, off, rfl, hb, hc⟩ := h (by rintro rfl; exact hne rfl)
  refine ⟨b, off, rfl, hb, fun j u hu => ?_⟩
  rw [List.getElem?_map] at hu
  obtain ⟨i, hi, rfl⟩ := Option.map_eq_some_iff.1 hu
  have := hc j i hi 0 _ rfl
  rw [Nat.mul_one, Nat.add_zero] at this
  exact this

theorem nums_trod {w : World} {fuel : Nat} {cs : List Value} {x : DataW H × List MemPlace} (hd : DataW.trod enc Tryd.prog w 0 (fun _ => true) true fuel 33 cs = some x) (hw : ∀ n ∈ x.1.weights Tryd.prog 33, n ≤ reachBytes) :
    ∃ r : Nums, cs = [r.v] ∧ r.Ok w ∧ r.l.length * 8 ≤ reachBytes := by
  obtain ⟨A, rs, cap, e1, h1, h2, h3, h4, h5⟩ := rows_trod 1 (by decide) (fun i : Int => [.int .i64 i]) (fun _ => rfl) (fun i => IntKind.i64.wrap i = i) Tryd.underlying33 cells_int (fun fuel cs x hd _ => by
    obtain ⟨k, e0, _, w0⟩ := DataW.trod_int Tryd.underlying3 hd
    exact ⟨k, e0, wf_wrap w0⟩) hd hw
  rw [show Tryd.prog.bytesOf 3 = 8 by kernel_rfl] at h5
  exact ⟨⟨rs, A, cap⟩, e1, ⟨rows_nums h2, h1, h4, h3⟩, h5⟩

theorem plan_trod {w : World} {fuel : Nat} {cs : List Value} {x : DataW H × List MemPlace} (hd : DataW.trod enc Tryd.prog w 0 (fun _ => true) true fuel 35 cs = some x) (hw : ∀ n ∈ x.1.weights Tryd.prog 35, n ≤ reachBytes) :
    ∃ p : Pl, cs = p.cs.toList ∧ p.Ok w ∧ p.Fits := by
  obtain ⟨xs, m, rfl, hxx, hl, hx, hi⟩ := DataW.trod_struct Tryd.underlying35 hd
  obtain ⟨c0, c1, c2, c3, c4, c5, c6, rfl⟩ := listOf7 (by rw [hl, cells_plan])
  obtain ⟨y0, h0⟩ := got' hx (i := 0) (by decide) (hi 0 _ rfl)
  obtain ⟨y1, h1⟩ := got' hx (i := 1) (by decide) (hi 1 _ rfl)
  obtain ⟨y2, h2⟩ := got' hx (i := 2) (by decide) (hi 2 _ rfl)
  obtain ⟨y3, h3⟩ := got' hx (i := 3) (by decide) (hi 3 _ rfl)
  obtain ⟨y4, h4⟩ := got' hx (i := 4) (by decide) (hi 4 _ rfl)
  have hy1 : xs[1]? = some y1 := (hi 1 _ rfl).symm.trans h1
  have hw1 : ∀ n ∈ y1.1.weights Tryd.prog 32, n ≤ reachBytes := fun n hn => hw n (by
    rw [hxx]
    simp only [DataW.weights, Tryd.underlying35]
    exact DataW.weights_mem_each (j := 1) (t := 32) (d := y1.1) rfl (by rw [List.getElem?_map, hy1]; rfl) n hn)
  have hy2 : xs[2]? = some y2 := (hi 2 _ rfl).symm.trans h2
  have hw2 : ∀ n ∈ y2.1.weights Tryd.prog 33, n ≤ reachBytes := fun n hn => hw n (by
    rw [hxx]
    simp only [DataW.weights, Tryd.underlying35]
    exact DataW.weights_mem_each (j := 2) (t := 33) (d := y2.1) rfl (by rw [List.getElem?_map, hy2]; rfl) n hn)
  have hy3 : xs[3]? = some y3 := (hi 3 _ rfl).symm.trans h3
  have hw3 : ∀ n ∈ y3.1.weights Tryd.prog 33, n ≤ reachBytes := fun n hn => hw n (by
    rw [hxx]
    simp only [DataW.weights, Tryd.underlying35]
    exact DataW.weights_mem_each (j := 3) (t := 33) (d := y3.1) rfl (by rw [List.getElem?_map, hy3]; rfl) n hn)
  have hy4 : xs[4]? = some y4 := (hi 4 _ rfl).symm.trans h4
  have hw4 : ∀ n ∈ y4.1.weights Tryd.prog 33, n ≤ reachBytes := fun n hn => hw n (by
    rw [hxx]
    simp only [DataW.weights, Tryd.underlying35]
    exact DataW.weights_mem_each (j := 4) (t := 33) (d := y4.1) rfl (by rw [List.getElem?_map, hy4]; rfl) n hn)
  obtain ⟨a1, a2, a3, e0, w1, w2, w3⟩ := attrs_trod h0
  obtain ⟨B, its, cap, e1, i1, i2, i3, i4, i5⟩ := rows_trod 4 (by decide) It.cells (fun _ => rfl) (fun r => r.Ok w ∧ r.l.length ≤ reachBytes) Tryd.underlying32 cells_item (fun fuel cs x hd hwx => item_trod hd hwx) h1 hw1
  rw [show Tryd.prog.bytesOf 49 = 48 by kernel_rfl] at i5
  obtain ⟨ws, e2, o2, s2⟩ := nums_trod h2 hw2
  obtain ⟨gs, e3, o3, s3⟩ := nums_trod h3 hw3
  obtain ⟨ss, e4, o4, s4⟩ := nums_trod h4 hw4
  simp [cells_attrs, cells_items, cells_ints] at e0 e1 e2 e3 e4
  obtain ⟨rfl, rfl, rfl⟩ := e0
  subst e1 e2 e3 e4
  have hr : reachBytes ≤ 140737488355328 := by decide
  exact ⟨⟨a1, a2, a3, its, B, cap, ws, gs, ss⟩, rfl, ⟨⟨rows_its i2, fun x hx => (i3 x hx).1⟩, i1, i4, o2, o3, o4, w1, w2, w3⟩, ⟨by show its.length ≤ _; omega, by show ws.l.length ≤ _; omega, by show gs.l.length ≤ _; omega, by show ss.l.length ≤ _; omega, fun x hx => Nat.le_trans (i3 x hx).2 hr⟩⟩

theorem open_plan {w : World} {v : Value} {d : DataW H} {ps : List MemPlace} {r : Reach} {b0 : Nat}
    (hval : Value.okWide Tryd.prog w r b0 35 v) (h : DataW.Trod enc Tryd.prog w 0 (fun _ => true) true 35 v d ps) (hw : ∀ n ∈ d.weights Tryd.prog 35, n ≤ reachBytes) :
    ∃ p : Pl, v = p.v ∧ p.Ok w ∧ p.Fits := by
  simp only [Value.okWide, Tryd.underlying35] at hval
  obtain ⟨cs, rfl, _, _⟩ := hval
  obtain ⟨fuel, hd⟩ := h
  obtain ⟨p, e1, h1, h2⟩ := plan_trod hd hw
  refine ⟨p, ?_, h1, h2⟩
  unfold Pl.v
  congr 1
  apply Array.toList_inj.1
  simpa [Value.cells] using e1
end

end Go.Proofs.YtbflcikfaoojmaaDoor.Law

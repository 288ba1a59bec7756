/- Slices of rows that the reader of a law's input takes, with the sizes of what lies inside them. -/
import Derived.Test.YtcakeolnokninaaDoorHListIn
import Derived.SizedLaws
set_option linter.unusedVariables false
namespace Go.Proofs.YtcakeolnokninaaDoor.Law
open Go.ChangeShapes Go.WideShapes Go.ChangeAt Go.RowKit Utf UtfP

section
variable {H : Type} {enc : TypeId × Value → H} {P : Program}

theorem weightsAll_mem {e : TypeId} : ∀ {l : List (DataW H)} {d : DataW H}, d ∈ l → ∀ n ∈ d.weights P e, n ∈ DataW.weightsAll P e l
  | d0 :: l, d, h, n, hn => by
    simp only [DataW.weightsAll, List.mem_append]
    rcases List.mem_cons.1 h with rfl | h
    · exact Or.inl hn
    · exact Or.inr (weightsAll_mem h n hn)
  | [], _, h, _, _ => by simp at h

theorem bytes_trodW {w : World} {t e : TypeId} {fuel : Nat} {cs : List Value} {x : DataW H × List MemPlace} (ht : P.underlying t = some (.slice e)) (he : P.underlying e = some (.int .u8)) (hc : P.cellsOf e = 1) (hb1 : P.bytesOf e = 1)
    (hd : DataW.trod enc P w 0 (fun _ => true) true fuel t cs = some x) (hw : ∀ n ∈ x.1.weights P t, n ≤ reachBytes) :
    ∃ (A : Option Addr) (l : List UInt8) (cap : Nat), cs = [.slice A l.length cap] ∧ l.length ≤ cap ∧ cap ≤ 140737488351232 ∧ BytesAt w A l := by
  obtain ⟨A, l, cap, e1, h1, h2, h3⟩ := bytes_trod' ht he hc hd
  refine ⟨A, l, cap, e1, h1, ?_, h3⟩
  rcases DataW.trod_slice ht hd with ⟨hcs, hx⟩ | ⟨a, len, cap', elems, rest, m, rfl, hcs, hx, hb, hl, hm, hlen', hel, hsp, _⟩
  · rw [e1] at hcs
    simp at hcs
    omega
  · rw [e1] at hcs
    have hcc : cap = cap' := by simp at hcs; exact hcs.2.2
    have hr := (hsp rfl).1
    have := hw ((elems.length + rest.length) * P.bytesOf e) (by rw [hx]; simp [DataW.weights, ht])
    rw [hb1, Nat.mul_one] at this
    unfold reachBytes at this
    omega

theorem open_rowsW {R : Type} [Inhabited R] {w : World} {t e : TypeId} (n : Nat) (hn0 : 0 < n) (cells : R → List Value) (hlen : ∀ r, (cells r).length = n) (Good : R → Prop) {v : Value} {d : DataW H} {ps : List MemPlace} {r : Reach} {b0 : Nat}
    (ht : P.underlying t = some (.slice e)) (hc : P.cellsOf e = n)
    (hone : ∀ fuel cs x, DataW.trod enc P w 0 (fun _ => true) true fuel e cs = some x → (∀ n ∈ x.1.weights P e, n ≤ reachBytes) → ∃ r, cs = cells r ∧ Good r)
    (hval : Value.okWide P w r b0 t v) (h : DataW.Trod enc P w 0 (fun _ => true) true t v d ps) (hw : ∀ n ∈ d.weights P t, n ≤ reachBytes) :
    ∃ (A : Option Addr) (rs : List R) (cap : Nat), v = .slice A rs.length cap ∧ rs.length ≤ cap ∧ cap ≤ maxLen ∧ RowsAt w n cells A rs ∧ (∀ r ∈ rs, Good r) ∧
      ((d = .nil ∧ cap = 0) ∨ ∃ elems spare, d = .slice elems spare ∧ elems.length + spare.length = cap) := by
  obtain ⟨a0, len0, cap0, rfl⟩ := okWide_slice ht hval
  obtain ⟨fuel, hd⟩ := h
  rcases DataW.trod_slice ht hd with ⟨hcs, hx⟩ | ⟨a, len, cap, elems, rest, m, rfl, hcs, hx, hb, hl, hm, hlen', hel, hsp, _⟩
  · have hv : Value.slice a0 len0 cap0 = .slice none 0 0 := by
      simp [Value.cells] at hcs
      obtain ⟨rfl, rfl, rfl⟩ := hcs; rfl
    exact ⟨none, [], 0, hv, by simp, by simp [maxLen], fun h => absurd rfl h, by simp, Or.inl ⟨congrArg Prod.fst hx, rfl⟩⟩
  · have hv : Value.slice a0 len0 cap0 = .slice (some a) len cap := by
      simp [Value.cells] at hcs
      obtain ⟨rfl, rfl, rfl⟩ := hcs; rfl
    rw [hv]
    rw [hc] at hel
    have hdx : d = .slice (elems.map (·.1)) (rest.map (·.1)) := congrArg Prod.fst hx
    have each : ∀ i, i < len → ∃ r : R, w.cells? 0 (a.add (i * n)) n = some (cells r) ∧ Good r := by
      intro i hi
      have h1 := hel i hi
      obtain ⟨y, hy⟩ := got' (n := len) hlen' hi h1
      have hmem : y ∈ elems := List.mem_of_getElem? (h1 ▸ hy)
      rw [Option.bind_eq_some_iff] at hy
      obtain ⟨cs', hc', hd'⟩ := hy
      obtain ⟨r, rfl, hg⟩ := hone _ _ _ hd' (fun k hk => hw k (by
        rw [hdx]
        simp only [DataW.weights, ht, List.mem_cons, List.mem_append]
        exact Or.inr (Or.inl (weightsAll_mem (List.mem_map_of_mem hmem) k hk))))
      exact ⟨r, hc', hg⟩
    clear hel hd hval
    obtain ⟨f, hf⟩ : ∃ f : Nat → R, ∀ i, i < len → w.cells? 0 (a.add (i * n)) n = some (cells (f i)) ∧ Good (f i) :=
      ⟨fun i => if h : i < len then (each i h).choose else default, fun i hi => by simp only [dif_pos hi]; exact (each i hi).choose_spec⟩
    have hll : ((List.range len).map f).length = len := by simp
    refine ⟨some a, (List.range len).map f, cap, by rw [hll], by rw [hll]; exact hl, hm, ?_, ?_, Or.inr ⟨_, _, hdx, ?_⟩⟩
    · intro hne
      have hpos : 0 < len := by
        rcases Nat.eq_zero_or_pos len with h0 | h0
        · subst h0; simp at hne
        · exact h0
      have cell : ∀ i, i < len → ∀ j v, (cells (f i))[j]? = some v → w.cell? ((a.add (i * n)).add j) = some v := fun i hi j v hj => cellsL (hf i hi).1 j v hj
      obtain ⟨b, off, spot⟩ := a
      obtain ⟨v0, hv0⟩ : ∃ v0, (cells (f 0))[0]? = some v0 := ⟨_, List.getElem?_eq_getElem (by rw [hlen]; exact hn0)⟩
      have h0 := cell 0 hpos 0 _ hv0
      have hspot : spot = none := by simpa [Addr.add] using World.cell?_spot h0
      subst hspot
      refine ⟨b, off, rfl, by simpa [Addr.add] using block_lt_of_cell h0, fun j r hr => ?_⟩
      obtain ⟨hj, rfl⟩ : j < len ∧ f j = r := by
        obtain ⟨h1, h2⟩ := List.getElem?_eq_some_iff.1 hr
        rw [hll] at h1
        exact ⟨h1, by simpa using h2⟩
      intro i v hv
      have := cell j hj i v hv
      rw [add_plain, add_plain] at this
      exact this
    · intro r hr
      simp only [List.mem_map, List.mem_range] at hr
      obtain ⟨i, hi, rfl⟩ := hr
      exact (hf i hi).2
    · simp only [List.length_map]
      have := (hsp rfl).1
      omega

/-- a row of bytes of a size that can be -/
def ByteRow.Fits (w : World) (r : ByteRow) : Prop := BytesAt w r.A r.l ∧ r.l.length ≤ r.cap ∧ r.cap ≤ 140737488351232

theorem open_textsW {w : World} {t s e : TypeId} {v : Value} {d : DataW H} {ps : List MemPlace} {r : Reach} {b0 : Nat} (ht : P.underlying t = some (.slice s)) (hs : P.underlying s = some (.slice e)) (he : P.underlying e = some (.int .u8)) (hc : P.cellsOf e = 1) (hb1 : P.bytesOf e = 1) (hcs : P.cellsOf s = 1)
    (hval : Value.okWide P w r b0 t v) (h : DataW.Trod enc P w 0 (fun _ => true) true t v d ps) (hw : ∀ n ∈ d.weights P t, n ≤ reachBytes) :
    ∃ (A : Option Addr) (rs : List ByteRow) (cap : Nat), v = .slice A rs.length cap ∧ rs.length ≤ cap ∧ cap ≤ maxLen ∧ RowsAt w 1 ByteRow.cells A rs ∧ (∀ r ∈ rs, r.Fits w) ∧
      ((d = .nil ∧ cap = 0) ∨ ∃ elems spare, d = .slice elems spare ∧ elems.length + spare.length = cap) :=
  open_rowsW 1 (by decide) ByteRow.cells (fun _ => rfl) (ByteRow.Fits w) ht hcs (fun fuel cs x hd hw => by
    obtain ⟨A, l, cap, e1, h1, h2, h3⟩ := bytes_trodW hs he hc hb1 hd hw
    exact ⟨⟨A, l, cap⟩, e1, h3, h1, h2⟩) hval h hw
end

end Go.Proofs.YtcakeolnokninaaDoor.Law

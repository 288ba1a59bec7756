/- Secret characters and turned bytes where no ESC stands: plain. -/
import Derived.Test.YtbflcikfaoojmaaDoorTw5
set_option linter.unusedVariables false
set_option linter.unusedSimpArgs false
namespace Go.Proofs.YtbflcikfaoojmaaDoor.Edit
open Go.RowKit Go.Lib Go.Shelf ChangeShapes Mem Utf UtfP

/-- bytes without ESC -/
def noEsc (l : List UInt8) : List UInt8 := l.filter fun c => decide (c ≠ 27)
theorem noEsc_len (l : List UInt8) : (noEsc l).length ≤ l.length := List.length_filter_le _ _
theorem noEsc_snoc {l : List UInt8} {j : Nat} (hj : j < l.length) : noEsc (l.take (j + 1)) = noEsc (l.take j) ++ (if l[j] = 27 then [] else [l[j]]) := by
  unfold noEsc
  rw [← List.take_append_getElem hj, List.filter_append]
  congr 1
  by_cases h : l[j] = 27 <;> simp [h]
theorem noEsc_bt {l : List UInt8} {i : Nat} (hi : i < (noEsc l).length) : bt ((noEsc l).drop i) 0 ≠ 27 := by
  have hm : (noEsc l)[i] ∈ noEsc l := List.getElem_mem _
  have h := (List.mem_filter.1 hm).2
  have h' : (noEsc l)[i] ≠ 27 := by simpa using h
  unfold bt
  rw [List.getD_eq_getElem?_getD, List.getElem?_drop, Nat.add_zero, List.getElem?_eq_getElem hi]
  simp only [Option.getD_some]
  intro e
  apply h'
  exact UInt8.toNat_inj.1 e

theorem secF_plain {b : List UInt8} {k i : Nat} {br : Bool} (hi : i < b.length) (h : bt (b.drop i) 0 ≠ 27) : secF b (k + 1) i br = secC i (next (b.drop i)) br ++ secF b k (i + (next (b.drop i)).2.1) false := by
  conv => lhs; unfold secF
  rw [if_neg (by omega), if_neg h]
theorem plF_plain {z : Int} {k : Nat} {br : Bool} {l : List UInt8} (hl : l ≠ []) (h : bt l 0 ≠ 27) : plF z (k + 1) br l = plC z l (next l) br ++ plF z k false (l.drop (next l).2.1) := by
  conv => lhs; unfold plF
  rw [if_neg hl, if_neg h]

/-- how far the comparison has come -/
def RPs (z : Int) (o : List UInt8) (k i K : Nat) : Prop := (∃ D, secE o = D ++ secF o K i false ∧ D.length = k) ∧ (∃ P, planE z o = P ++ plF z K false (o.drop i) ∧ P.length = i)
theorem rps_start (z : Int) (o : List UInt8) : RPs z o 0 0 o.length := ⟨⟨[], rfl, rfl⟩, ⟨[], rfl, rfl⟩⟩
theorem rps_end {z : Int} {o : List UInt8} {k i K : Nat} (h : RPs z o k i K) (hi : o.length ≤ i) : k = (secE o).length := by
  obtain ⟨⟨D, h1, h2⟩, _⟩ := h
  rw [secF_end hi, List.append_nil] at h1
  rw [h1, h2]
theorem rps_hit {z : Int} {o : List UInt8} {k i K c n : Nat} (h : RPs z o k i (K + 1)) (hi : i < o.length) (h27 : bt (o.drop i) 0 ≠ 27) (hn : next (o.drop i) = (c, n, 0)) (hp : printC (c : Int) = true) :
    RPs z o (k + 1) (i + n) K ∧ (∃ x, (secE o)[k]? = some x ∧ x.2 = (c : Int)) ∧ ((planE z o).drop i).take n = enc (turnE (c : Int) z) ∧ (enc (turnE (c : Int) z)).length = n := by
  have hne : o.drop i ≠ [] := by intro e; have := congrArg List.length e; rw [List.length_drop] at this; simp at this; omega
  have hen := enc_next (l := o.drop i) (by rw [hn])
  rw [hn] at hen
  have hle : (enc (turnE (c : Int) z)).length = n := by rw [(turnE_print z hp).2]; exact hen.1
  obtain ⟨⟨D, h1, h2⟩, ⟨P, h3, h4⟩⟩ := h
  rw [secF_plain hi h27, hn] at h1
  rw [plF_plain hne h27, hn] at h3
  have hsc : secC i (c, n, 0) false = [(i, (c : Int))] := by unfold secC; rw [if_pos ⟨rfl, hp, .inr rfl⟩]
  have hpc : plC z (o.drop i) (c, n, 0) false = enc (turnE (c : Int) z) := by unfold plC; rw [if_pos ⟨rfl, hp, .inr rfl⟩]
  simp only [hsc, hpc] at h1 h3
  refine ⟨⟨⟨D ++ [(i, (c : Int))], by rw [h1, List.append_assoc], by simp [h2]⟩, ⟨P ++ enc (turnE (c : Int) z), by rw [h3, List.append_assoc, List.drop_drop], by rw [List.length_append, h4, hle]⟩⟩, ⟨(i, (c : Int)), ?_, rfl⟩, ?_, hle⟩
  · rw [h1, ← h2, List.getElem?_append_right (Nat.le_refl _), Nat.sub_self]
    rfl
  · rw [h3, ← h4, List.drop_left, ← hle, List.take_left]
theorem rps_miss {z : Int} {o : List UInt8} {k i K c n e : Nat} (h : RPs z o k i (K + 1)) (hi : i < o.length) (h27 : bt (o.drop i) 0 ≠ 27) (hn : next (o.drop i) = (c, n, e)) (hp : e ≠ 0 ∨ printC (c : Int) = false) :
    RPs z o k (i + n) K ∧ ((planE z o).drop i).take n = (o.drop i).take n := by
  have hne : o.drop i ≠ [] := by intro e; have := congrArg List.length e; rw [List.length_drop] at this; simp at this; omega
  have hf := (next_facts hne).2.1
  rw [hn] at hf
  simp only at hf
  obtain ⟨⟨D, h1, h2⟩, ⟨P, h3, h4⟩⟩ := h
  rw [secF_plain hi h27, hn] at h1
  rw [plF_plain hne h27, hn] at h3
  have hno : ¬ ((e = 0) ∧ printC (c : Int) = true ∧ (1 < n ∨ false = false)) := by
    rintro ⟨a1, a2, _⟩
    rcases hp with hp | hp
    · exact hp a1
    · rw [hp] at a2; cases a2
  have hsc : secC i (c, n, e) false = [] := by unfold secC; rw [if_neg hno]
  have hpc : plC z (o.drop i) (c, n, e) false = (o.drop i).take n := by unfold plC; rw [if_neg hno]
  simp only [hsc, hpc, List.nil_append] at h1 h3
  have hlt : ((o.drop i).take n).length = n := by rw [List.length_take]; omega
  refine ⟨⟨⟨D, h1, h2⟩, ⟨P ++ (o.drop i).take n, by rw [h3, List.append_assoc, List.drop_drop], by rw [List.length_append, h4, hlt]⟩⟩, ?_⟩
  rw [h3, List.drop_left' h4, List.take_left' hlt]

end Go.Proofs.YtbflcikfaoojmaaDoor.Edit

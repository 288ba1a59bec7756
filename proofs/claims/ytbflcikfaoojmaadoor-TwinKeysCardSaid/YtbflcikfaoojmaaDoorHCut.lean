/- A cut of bytes; a row of one's own in a later world. -/
import Derived.Test.YtbflcikfaoojmaaDoorHUtfN
import Derived.Test.YtbflcikfaoojmaaDoorHOwn
set_option linter.unusedVariables false
namespace Go.Proofs.YtbflcikfaoojmaaDoor.Utf
open Go.RowKit Go.Lib Go.Shelf UtfP

def lenOf : Value → Nat | .slice _ n _ => n | _ => 0

theorem BytesAt.cut {w : World} {A : Option Addr} {l : List UInt8} {k cap : Nat} (h : BytesAt w A l) (hcap : l.length ≤ cap) :
    BytesAt w (if cap = k then A else A.map (·.add k)) (l.drop k) := by
  intro hne
  have hk : k < l.length := by
    rcases Nat.lt_or_ge k l.length with h' | h'
    · exact h'
    · exact absurd (List.drop_of_length_le h') hne
  obtain ⟨b, off, rfl, hlt, hc⟩ := h (fun e => by subst e; simp at hk)
  rw [if_neg (by omega)]
  refine ⟨b, off + k, by simp [addr_add], hlt, fun j hj => ?_⟩
  rw [List.length_drop] at hj
  rw [Nat.add_assoc, hc (k + j) (by omega)]
  have : bt (l.drop k) j = bt l (k + j) := by
    unfold bt
    rw [List.getD_eq_getElem?_getD, List.getD_eq_getElem?_getD, List.getElem?_drop]
  rw [this]

theorem OwnB.lt {w : World} {B : Nat} {v : Value} {l : List UInt8} (h : OwnB w B v l) {k : Nat} (hk : v.ownBlock = some k) : B ≤ k ∧ k < w.heap.size := by
  rcases h.2 with ⟨rfl, _⟩ | ⟨g, cap, cur, rfl, hB, hg, _⟩
  · cases hk
  · cases hk
    refine ⟨hB, ?_⟩
    rcases Nat.lt_or_ge g w.heap.size with h' | h'
    · exact h'
    · rw [Array.getElem?_eq_none h'] at hg; cases hg
theorem OwnB.below {w w' : World} {B : Nat} {v : Value} {l : List UInt8} (h : OwnB w B v l) (hb : Below w.heap.size w w') : OwnB w' B v l := by
  obtain ⟨h1, h2 | ⟨g, cap, cur, h3, h4, h5, h6⟩⟩ := h
  · exact ⟨h1, Or.inl h2⟩
  · refine ⟨h1, Or.inr ⟨g, cap, cur, h3, h4, ?_, h6⟩⟩
    rw [hb.block g]
    · exact h5
    · rcases Nat.lt_or_ge g w.heap.size with h' | h'
      · exact h'
      · rw [Array.getElem?_eq_none h'] at h5; cases h5

end Go.Proofs.YtbflcikfaoojmaaDoor.Utf

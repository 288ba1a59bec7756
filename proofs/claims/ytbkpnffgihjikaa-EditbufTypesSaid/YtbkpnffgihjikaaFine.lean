/- Whether a text is of characters that may be shown: editbuf.fine and whispererref11.Fine, walked. -/
import Derived.Test.YtbkpnffgihjikaaRows
import Derived.Test.YtbkpnffgihjikaaUtfN
import Derived.Test.YtbkpnffgihjikaaUtfS
import Derived.Test.YtbkpnffgihjikaaPut
import Derived.Test.YtbkpnffgihjikaaRefPrint
import Derived.Test.YtbkpnffgihjikaaCut
import Derived.Test.YtbkpnffgihjikaaEncP
set_option linter.unusedVariables false
namespace Go.Proofs.Ytbkpnffgihjikaa.Utf
open Go.RowKit Go.Lib Go.Shelf UtfP

def fineF : Nat → List UInt8 → Bool
  | 0, _ => true
  | d + 1, l => if l = [] then true else ((next l).2.2 == 0 && printC ((next l).1 : Int)) && fineF d (l.drop (next l).2.1)
/-- is a text of characters that may be shown? -/
def fineT (l : List UInt8) : Bool := fineF l.length l

theorem fineF_more : ∀ (d d' : Nat) (l : List UInt8), l.length ≤ d → l.length ≤ d' → fineF d l = fineF d' l := by
  intro d
  induction d with
  | zero =>
    intro d' l h _
    have : l = [] := List.eq_nil_of_length_eq_zero (by omega)
    subst this
    cases d' with
    | zero => rfl
    | succ d' => unfold fineF; rw [if_pos rfl]
  | succ d ih =>
    intro d' l h h'
    by_cases hl : l = []
    · subst hl
      unfold fineF
      cases d' with
      | zero => simp
      | succ d' => simp
    · obtain ⟨f1, f2, _⟩ := next_facts hl
      cases d' with
      | zero => exact absurd (List.eq_nil_of_length_eq_zero (by omega)) hl
      | succ d' =>
        unfold fineF
        rw [if_neg hl, if_neg hl, ih d' (l.drop (next l).2.1) (by rw [List.length_drop]; omega) (by rw [List.length_drop]; omega)]
theorem fineT_nil : fineT [] = true := rfl
theorem fineT_cons {l : List UInt8} (h : l ≠ []) : fineT l = (((next l).2.2 == 0 && printC ((next l).1 : Int)) && fineT (l.drop (next l).2.1)) := by
  obtain ⟨f1, f2, _⟩ := next_facts h
  have hl := List.length_pos_iff.2 h
  obtain ⟨d, hd⟩ : ∃ d, l.length = d + 1 := ⟨l.length - 1, by omega⟩
  unfold fineT
  rw [hd]
  conv => lhs; unfold fineF
  rw [if_neg h]
  rw [fineF_more d (l.drop (next l).2.1).length (l.drop (next l).2.1) (by rw [List.length_drop]; omega) (Nat.le_refl _)]

end Go.Proofs.Ytbkpnffgihjikaa.Utf

/- Characters as numbers: which may be, which may be shown, their bytes. Plain. -/
import Derived.Test.YtbflcikfaoojmaaDoorGA
import Derived.Lib.RuneBytes
set_option linter.unusedVariables false
namespace Go.Proofs.YtbflcikfaoojmaaDoor.UtfP
open Go.Lib

def fineC (c : Int) : Bool := decide (0 ≤ c ∧ c ≤ 1114111 ∧ ¬ (55296 ≤ c ∧ c ≤ 57343))
def printC (c : Int) : Bool := fineC c && decide (32 ≤ c ∧ ¬ (127 ≤ c ∧ c ≤ 159))
theorem fineC_iff {c : Int} : (fineC c = true ↔ 0 ≤ c ∧ c ≤ 1114111 ∧ ¬ (55296 ≤ c ∧ c ≤ 57343)) ∧ (fineC c = false ↔ ¬ (0 ≤ c ∧ c ≤ 1114111 ∧ ¬ (55296 ≤ c ∧ c ≤ 57343))) := by
  unfold fineC; exact ⟨decide_eq_true_iff, decide_eq_false_iff_not⟩
theorem printC_iff {c : Int} : (printC c = true ↔ (0 ≤ c ∧ c ≤ 1114111 ∧ ¬ (55296 ≤ c ∧ c ≤ 57343)) ∧ 32 ≤ c ∧ ¬ (127 ≤ c ∧ c ≤ 159)) := by
  unfold printC fineC; rw [Bool.and_eq_true, decide_eq_true_iff, decide_eq_true_iff]
theorem printC_fine {c : Int} (h : printC c = true) : fineC c = true := by
  unfold printC at h; rw [Bool.and_eq_true] at h; exact h.1
/-- a character's bytes -/
def enc (c : Int) : List UInt8 := encodeRune c
theorem enc_length (c : Int) : 1 ≤ (enc c).length ∧ (enc c).length ≤ 4 := by
  have := runeCells_le c
  rw [runeCells_length] at this
  exact this

end Go.Proofs.YtbflcikfaoojmaaDoor.UtfP

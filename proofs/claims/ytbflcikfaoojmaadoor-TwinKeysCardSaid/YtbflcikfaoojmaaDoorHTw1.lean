/- The secret characters of bytes: plain. -/
import Derived.Test.YtbflcikfaoojmaaDoorHKd9
import Derived.Test.YtbflcikfaoojmaaDoorHPutP
set_option linter.unusedVariables false
set_option linter.unusedSimpArgs false
namespace Go.Proofs.YtbflcikfaoojmaaDoor.Edit
open Go.RowKit Go.Lib Go.Shelf ChangeShapes Mem Utf UtfP

/-- is it a beginning of a sequence? -/
def begE (l : List UInt8) : Bool := decide ((seqN l).2.2 = 7)

theorem tw_seqF_pos (l : List UInt8) : ∀ (n i : Nat) (oth : Bool), 2 ≤ i → (seqF l n i oth).2.2 = 0 → 1 ≤ (seqF l n i oth).2.1 := by
  intro n
  induction n with
  | zero => intro i oth _ h; exact absurd (show (7 : Int) = 0 from h) (by decide)
  | succ n ih =>
    intro i oth hi h
    unfold seqF at h ⊢
    split
    · show 1 ≤ i + 1; omega
    · rename_i h1
      rw [if_neg h1] at h
      split
      · show 1 ≤ i; omega
      · rename_i h2
        rw [if_neg h2] at h
        split
        · rename_i h3
          rw [if_pos h3] at h
          exact ih _ _ (by omega) h
        · rename_i h3
          rw [if_neg h3] at h
          split
          · rename_i h4
            rw [if_pos h4] at h
            exact ih _ _ (by omega) h
          · show 1 ≤ i; omega
theorem tw_seqF_le (l : List UInt8) : ∀ (n i : Nat) (oth : Bool), i + n = l.length → (seqF l n i oth).2.1 ≤ l.length := by
  intro n
  induction n with
  | zero => intro i oth _; exact Nat.le_refl _
  | succ n ih =>
    intro i oth hi
    unfold seqF
    split
    · show i + 1 ≤ _; omega
    · split
      · show i ≤ _; omega
      · split
        · exact ih _ _ (by omega)
        · split
          · exact ih _ _ (by omega)
          · show i ≤ _; omega
theorem tw_seqN_pos {l : List UInt8} (h0 : l ≠ []) (h27 : bt l 0 = 27) (h : (seqN l).2.2 = 0) : 1 ≤ (seqN l).2.1 := by
  unfold seqN at h ⊢
  rw [if_neg h0, if_neg (by simpa using h27)] at h ⊢
  split
  · exact Nat.le_refl _
  · rename_i h1
    rw [if_neg h1] at h
    exact tw_seqF_pos l _ _ _ (Nat.le_refl _) h
theorem tw_seqN_le (l : List UInt8) : (seqN l).2.1 ≤ l.length := by
  unfold seqN
  split
  · exact Nat.zero_le _
  · rename_i h0
    have := List.length_pos_iff.2 h0
    split
    · exact Nat.zero_le _
    · split
      · show 1 ≤ l.length; omega
      · by_cases h2 : 2 ≤ l.length
        · exact tw_seqF_le l _ _ _ (by omega)
        · rw [show l.length - 2 = 0 by omega]; exact Nat.le_refl _

/-- one character's part -/
def secC (i : Nat) (r : Nat × Nat × Nat) (br : Bool) : List (Nat × Int) := if r.2.2 = 0 ∧ printC (r.1 : Int) = true ∧ (1 < r.2.1 ∨ br = false) then [(i, (r.1 : Int))] else []
/-- where secret characters stand from a place on, and which they are -/
def secF (b : List UInt8) : Nat → Nat → Bool → List (Nat × Int)
  | 0, _, _ => []
  | k + 1, i, br =>
    if b.length ≤ i then [] else
    if bt (b.drop i) 0 = 27 then
      if (seqN (b.drop i)).2.2 ≠ 0 then [] else secF b k (i + (seqN (b.drop i)).2.1) (begE ((b.drop i).take (seqN (b.drop i)).2.1))
    else secC i (next (b.drop i)) br ++ secF b k (i + (next (b.drop i)).2.1) false
def secE (b : List UInt8) : List (Nat × Int) := secF b b.length 0 false

theorem secF_end {b : List UInt8} {k i : Nat} {br : Bool} (h : b.length ≤ i) : secF b k i br = [] := by
  cases k with
  | zero => rfl
  | succ k => unfold secF; rw [if_pos h]
theorem secC_mem {i : Nat} {r : Nat × Nat × Nat} {br : Bool} {x : Nat × Int} (h : x ∈ secC i r br) : x.1 = i ∧ printC x.2 = true := by
  unfold secC at h
  split at h
  · rename_i hh
    simp at h
    subst h
    exact ⟨rfl, hh.2.1⟩
  · simp at h
theorem secF_mem {b : List UInt8} : ∀ {k i : Nat} {br : Bool} {x : Nat × Int}, x ∈ secF b k i br → x.1 < b.length ∧ printC x.2 = true := by
  intro k
  induction k with
  | zero => intro i br x h; simp [secF] at h
  | succ k ih =>
    intro i br x h
    unfold secF at h
    split at h
    · simp at h
    · rename_i hi
      split at h
      · split at h
        · simp at h
        · exact ih h
      · rcases List.mem_append.1 h with h | h
        · obtain ⟨h1, h2⟩ := secC_mem h
          exact ⟨by omega, h2⟩
        · exact ih h
theorem secE_mem {b : List UInt8} {x : Nat × Int} (h : x ∈ secE b) : x.1 < b.length ∧ printC x.2 = true := secF_mem h
theorem secC_len (i : Nat) (r : Nat × Nat × Nat) (br : Bool) : (secC i r br).length ≤ 1 := by unfold secC; split <;> simp
theorem secF_len {b : List UInt8} : ∀ (k i : Nat) (br : Bool), (secF b k i br).length ≤ k := by
  intro k
  induction k with
  | zero => intro i br; simp [secF]
  | succ k ih =>
    intro i br
    unfold secF
    split
    · simp
    · split
      · split
        · simp
        · have := ih (i + (seqN (b.drop i)).2.1) (begE ((b.drop i).take (seqN (b.drop i)).2.1)); omega
      · rw [List.length_append]
        have := ih (i + (next (b.drop i)).2.1) false
        have := secC_len i (next (b.drop i)) br
        omega
theorem secE_len (b : List UInt8) : (secE b).length ≤ b.length := secF_len _ _ _

end Go.Proofs.YtbflcikfaoojmaaDoor.Edit

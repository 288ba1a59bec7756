/- A plan's bytes turned: plain. -/
import Derived.Test.YtbflcikfaoojmaaDoorHTw1
import Derived.Test.YtbflcikfaoojmaaDoorHTw2
import Derived.Test.YtbflcikfaoojmaaDoorHEncN
set_option linter.unusedVariables false
set_option linter.unusedSimpArgs false
namespace Go.Proofs.YtbflcikfaoojmaaDoor.Edit
open Go.RowKit Go.Lib Go.Shelf ChangeShapes Mem Utf UtfP

theorem turnE_print {c : Int} (z : Int) (h : printC c = true) : printC (turnE c z) = true ∧ (enc (turnE c z)).length = (enc c).length := by
  have hc := printC_iff.1 h
  have key : ∀ r : Int, ((32 ≤ r ∧ r ≤ 126 ∧ c ≤ 126) ∨ (160 ≤ r ∧ r ≤ 2047 ∧ 160 ≤ c ∧ c ≤ 2047) ∨ (2048 ≤ r ∧ r ≤ 65535 ∧ ¬ (55296 ≤ r ∧ r ≤ 57343) ∧ 2048 ≤ c ∧ c ≤ 65535) ∨ (65536 ≤ r ∧ r ≤ 1114111 ∧ 65536 ≤ c)) → printC r = true ∧ (enc r).length = (enc c).length := by
    intro r hr
    have hp : printC r = true := printC_iff.2 (by omega)
    refine ⟨hp, ?_⟩
    have e1 := enc_len r (printC_fine hp)
    have e2 := enc_len c (printC_fine h)
    have : ((enc r).length : Int) = ((enc c).length : Int) := by
      rw [e1, e2]
      (repeat' split) <;> omega
    omega
  apply key
  unfold turnE
  have b0 := rowE_bd 32 95 c z (by decide)
  have b1 := rowE_bd 160 1888 c z (by decide)
  have b2 := rowE_bd 65536 1048576 c z (by decide)
  have b3 := rowE_bd 2048 61440 (if 55296 < c then c - 2048 else c) z (by decide)
  generalize rowE 32 95 c z = r0 at *
  generalize rowE 160 1888 c z = r1 at *
  generalize rowE 65536 1048576 c z = r2 at *
  generalize rowE 2048 61440 (if 55296 < c then c - 2048 else c) z = r3 at *
  (repeat' split) <;> omega

/-- one character set in bytes -/
def stepE (z : Int) (b : List UInt8) (x : Nat × Int) : List UInt8 := splice b x.1 ((enc (turnE x.2 z)).take (b.length - x.1))
theorem stepE_len (z : Int) (b : List UInt8) (x : Nat × Int) (h : x.1 ≤ b.length) : (stepE z b x).length = b.length := by
  unfold stepE splice
  simp only [List.length_append, List.length_take, List.length_drop]
  omega
/-- one character's part, turned -/
def plC (z : Int) (l : List UInt8) (r : Nat × Nat × Nat) (br : Bool) : List UInt8 := if r.2.2 = 0 ∧ printC (r.1 : Int) = true ∧ (1 < r.2.1 ∨ br = false) then enc (turnE (r.1 : Int) z) else l.take r.2.1
/-- bytes turned, part by part -/
def plF (z : Int) : Nat → Bool → List UInt8 → List UInt8
  | 0, _, l => l
  | k + 1, br, l =>
    if l = [] then [] else
    if bt l 0 = 27 then
      if (seqN l).2.2 ≠ 0 then l else l.take (seqN l).2.1 ++ plF z k (begE (l.take (seqN l).2.1)) (l.drop (seqN l).2.1)
    else plC z l (next l) br ++ plF z k false (l.drop (next l).2.1)
def planE (z : Int) (b : List UInt8) : List UInt8 := plF z b.length false b

theorem plC_len (z : Int) (l : List UInt8) (br : Bool) (h : l ≠ []) : (plC z l (next l) br).length = (next l).2.1 := by
  have hf := next_facts h
  unfold plC
  split
  · rename_i hh
    rw [(turnE_print z hh.2.1).2, (enc_next hh.1).1]
  · rw [List.length_take]
    have := hf.2.1
    omega
theorem plF_len (z : Int) : ∀ (k : Nat) (br : Bool) (l : List UInt8), (plF z k br l).length = l.length := by
  intro k
  induction k with
  | zero => intro br l; rfl
  | succ k ih =>
    intro br l
    unfold plF
    split
    · rename_i h; rw [h]
    · rename_i h
      split
      · split
        · rfl
        · have := tw_seqN_le l
          rw [List.length_append, ih, List.length_take, List.length_drop]
          omega
      · have := (next_facts h).2.1
        rw [List.length_append, ih, plC_len z l br h, List.length_drop]
        omega
theorem planE_len (z : Int) (b : List UInt8) : (planE z b).length = b.length := plF_len _ _ _ _

theorem plan_fold (z : Int) (b : List UInt8) : ∀ (k i : Nat) (br : Bool) (Q : List UInt8), Q.length = i → i ≤ b.length → (secF b k i br).foldl (stepE z) (Q ++ b.drop i) = Q ++ plF z k br (b.drop i) := by
  intro k
  induction k with
  | zero => intro i br Q _ _; rfl
  | succ k ih =>
    intro i br Q hQ hi
    unfold secF plF
    by_cases hlt : b.length ≤ i
    · rw [if_pos hlt, if_pos (List.drop_eq_nil_of_le hlt), List.drop_eq_nil_of_le hlt]
      rfl
    · have hne : b.drop i ≠ [] := by intro e; have := congrArg List.length e; rw [List.length_drop] at this; simp at this; omega
      have hdl : (b.drop i).length = b.length - i := List.length_drop
      rw [if_neg hlt, if_neg hne]
      by_cases h27 : bt (b.drop i) 0 = 27
      · rw [if_pos h27, if_pos h27]
        by_cases her : (seqN (b.drop i)).2.2 ≠ 0
        · rw [if_pos her, if_pos her]; rfl
        · rw [if_neg her, if_neg her]
          have hle := tw_seqN_le (b.drop i)
          generalize hn : (seqN (b.drop i)).2.1 = n at *
          have e : Q ++ b.drop i = (Q ++ (b.drop i).take n) ++ b.drop (i + n) := by
            rw [List.append_assoc, ← List.drop_drop, List.take_append_drop]
          rw [e, ih (i + n) _ (Q ++ (b.drop i).take n) (by rw [List.length_append, List.length_take]; omega) (by omega), List.append_assoc, List.drop_drop]
      · rw [if_neg h27, if_neg h27, List.foldl_append]
        have hf := next_facts hne
        have hfl := hf.2.1
        unfold secC plC
        by_cases hc : (next (b.drop i)).2.2 = 0 ∧ printC ((next (b.drop i)).1 : Int) = true ∧ (1 < (next (b.drop i)).2.1 ∨ br = false)
        · rw [if_pos hc, if_pos hc]
          have hlen : (enc (turnE ((next (b.drop i)).1 : Int) z)).length = (next (b.drop i)).2.1 := by rw [(turnE_print z hc.2.1).2, (enc_next hc.1).1]
          obtain ⟨c, hcc⟩ : ∃ c : Int, ((next (b.drop i)).1 : Int) = c := ⟨_, rfl⟩
          obtain ⟨n, hn⟩ : ∃ n, (next (b.drop i)).2.1 = n := ⟨_, rfl⟩
          obtain ⟨E, hE⟩ : ∃ E, enc (turnE c z) = E := ⟨_, rfl⟩
          rw [hcc, hn, hE] at hlen
          rw [hn] at hfl
          rw [hcc, hn, hE]
          have hst : stepE z (Q ++ b.drop i) (i, c) = (Q ++ E) ++ b.drop (i + n) := by
            unfold stepE splice
            simp only [hE]
            rw [List.length_append, hQ, hdl, show i + (b.length - i) - i = b.length - i by omega, List.take_of_length_le (show E.length ≤ b.length - i by omega), hlen, ← List.append_assoc]
            congr 1
            · rw [← hQ, List.take_left]
            · rw [← List.drop_drop, ← hQ, List.drop_left, List.drop_drop]
          show (secF b k (i + n) false).foldl (stepE z) (stepE z (Q ++ b.drop i) (i, c)) = _
          rw [hst, ih (i + n) _ (Q ++ E) (by rw [List.length_append]; omega) (by omega), List.append_assoc, List.drop_drop]
        · rw [if_neg hc, if_neg hc]
          generalize hn : (next (b.drop i)).2.1 = n at *
          have e : Q ++ b.drop i = (Q ++ (b.drop i).take n) ++ b.drop (i + n) := by
            rw [List.append_assoc, ← List.drop_drop, List.take_append_drop]
          show (secF b k (i + n) false).foldl (stepE z) (Q ++ b.drop i) = _
          rw [e, ih (i + n) _ (Q ++ (b.drop i).take n) (by rw [List.length_append, List.length_take]; omega) (by omega), List.append_assoc, List.drop_drop]

theorem planE_fold (z : Int) (b : List UInt8) : (secE b).foldl (stepE z) b = planE z b := by
  have := plan_fold z b b.length 0 false [] rfl (Nat.zero_le _)
  simpa [secE, planE] using this

end Go.Proofs.YtbflcikfaoojmaaDoor.Edit

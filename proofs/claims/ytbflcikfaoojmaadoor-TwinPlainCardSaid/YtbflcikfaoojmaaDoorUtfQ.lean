/- The plain side of layer 1, second part: the program's way is the document's. -/
import Derived.Test.YtbflcikfaoojmaaDoorUtfP
set_option linter.unusedVariables false
namespace Go.Proofs.YtbflcikfaoojmaaDoor.UtfP
open Go.Lib

def OkNext (r : Nat × Nat × Nat) : Prop := r.2.2 = 0 → r.1 ≠ 65533 ∨ 1 < r.2.1
theorem ite_ok {c : Prop} [Decidable c] {P : Nat × Nat × Nat → Prop} {x y : Nat × Nat × Nat} (hx : c → P x) (hy : ¬ c → P y) : P (if c then x else y) := by
  by_cases hc : c
  · rw [if_pos hc]; exact hx hc
  · rw [if_neg hc]; exact hy hc
theorem ok_e {c n e : Nat} (h : e ≠ 0) : OkNext (c, n, e) := fun h' => absurd h' h
theorem ok_n {c n e : Nat} (h : 1 < n) : OkNext (c, n, e) := fun _ => Or.inr h
theorem ok_c {c n e : Nat} (h : c ≠ 65533) : OkNext (c, n, e) := fun _ => Or.inl h
/-- what an error's number says -/
theorem next_ok {n b0 b1 b2 b3 : Nat} : OkNext (nextN n b0 b1 b2 b3) := by
  have hc := size_class b0
  unfold nextN
  repeat' (with_reducible (refine ite_ok (P := OkNext) (fun _ => ?_) (fun _ => ?_)))
  all_goals first | exact ok_e (by decide) | exact ok_n (by decide) | exact ok_c (by omega)

theorem runs_1 {n b0 b1 b2 : Nat} (h : begN 2 b0 b1 b2 = false) : runsN 3 1 n b0 b1 b2 = 1 := by
  unfold runsN; rw [h, if_neg (fun h => Bool.false_ne_true h.2)]
theorem runs_2 {n b0 b1 b2 : Nat} (hn : 1 < n) (h : begN 2 b0 b1 b2 = true) (h' : begN 3 b0 b1 b2 = false) : runsN 3 1 n b0 b1 b2 = 2 := by
  unfold runsN; rw [h, if_pos ⟨hn, rfl⟩]
  unfold runsN; rw [h', if_neg (fun h => Bool.false_ne_true h.2)]
theorem runs_3 {n b0 b1 b2 : Nat} (hn : 2 < n) (h : begN 2 b0 b1 b2 = true) (h' : begN 3 b0 b1 b2 = true) : runsN 3 1 n b0 b1 b2 = 3 := by
  unfold runsN; rw [h, if_pos ⟨by omega, rfl⟩]
  unfold runsN; rw [h', if_pos ⟨hn, rfl⟩]
  unfold runsN; rw [begN_more (by omega), if_neg (fun h => Bool.false_ne_true h.2)]

def badWay (n b0 b1 b2 : Nat) : Nat × Nat × Nat := if begN n b0 b1 b2 = true then (0, n, 7) else (0, runsN 3 1 n b0 b1 b2, 8)
theorem bad_short {n b0 b1 b2 : Nat} (h : begN n b0 b1 b2 = true) : badWay n b0 b1 b2 = (0, n, 7) := by unfold badWay; rw [if_pos h]
theorem bad_form {n b0 b1 b2 k : Nat} (h : begN n b0 b1 b2 = false) (hk : runsN 3 1 n b0 b1 b2 = k) : badWay n b0 b1 b2 = (0, k, 8) := by
  unfold badWay; rw [h, if_neg Bool.false_ne_true, hk]

theorem bad_eq {n b0 b1 b2 b3 : Nat} (h0 : b0 < 256) (hn : n ≠ 0) : (nextN n b0 b1 b2 b3).2.2 ≠ 0 → badWay n b0 b1 b2 = nextN n b0 b1 b2 b3 := by
  have z := size_cases b0
  have e1 := @begN_one b0 b1 b2 h0
  have e2 := @begN_two b0 b1 b2 h0
  have e3 := @begN_three b0 b1 b2 h0
  unfold nextN
  rw [if_neg hn]
  by_cases a0 : size1 b0 = 0
  · rw [if_pos a0]; intro _
    exact bad_form (beg_small (by omega) h0 (by omega)) (runs_1 (beg_small (by omega) h0 (by omega)))
  · rw [if_neg a0]
    by_cases a1 : size1 b0 = 1
    · rw [if_pos a1]; intro h; exact absurd rfl h
    · rw [if_neg a1]
      by_cases n1 : n = 1
      · subst n1; rw [if_pos rfl]; intro _
        exact bad_short (by rw [e1]; simp; omega)
      · rw [if_neg n1]
        by_cases s1 : sec b0 b1 = true
        · rw [if_neg (by rw [s1]; simp)]
          by_cases a2 : size1 b0 = 2
          · rw [if_pos a2]; intro h; exact absurd rfl h
          · rw [if_neg a2]
            have e2' : begN 2 b0 b1 b2 = true := by rw [e2, s1]; simp; omega
            by_cases n2 : n = 2
            · subst n2; rw [if_pos rfl]; intro _; exact bad_short e2'
            · rw [if_neg n2]
              by_cases s2 : cont b2 = true
              · rw [if_neg (by rw [s2]; simp)]
                by_cases a3 : size1 b0 = 3
                · rw [if_pos a3]; intro h; exact absurd rfl h
                · rw [if_neg a3]
                  have e3' : begN 3 b0 b1 b2 = true := by rw [e3, s1, s2]; simp; omega
                  by_cases n3 : n = 3
                  · subst n3; rw [if_pos rfl]; intro _; exact bad_short e3'
                  · rw [if_neg n3]
                    by_cases s3 : cont b3 = true
                    · rw [if_neg (by rw [s3]; simp)]; intro h; exact absurd rfl h
                    · rw [if_pos (by simpa using s3)]; intro _
                      exact bad_form (begN_more (by omega)) (runs_3 (by omega) e2' e3')
              · have s2' : cont b2 = false := by simpa using s2
                rw [if_pos s2']; intro _
                have e3' : begN 3 b0 b1 b2 = false := by rw [e3, s2']; simp
                refine bad_form ?_ (runs_2 (by omega) e2' e3')
                by_cases n3 : n = 3
                · subst n3; exact e3'
                · exact begN_more (by omega)
        · have s1' : sec b0 b1 = false := by simpa using s1
          rw [if_pos s1']; intro _
          have e2' : begN 2 b0 b1 b2 = false := by rw [e2, s1']; simp
          refine bad_form ?_ (runs_1 e2')
          by_cases n2 : n = 2
          · subst n2; exact e2'
          · by_cases n3 : n = 3
            · subst n3; rw [e3, s1']; simp
            · exact begN_more (by omega)

theorem goNext_eq {n b0 b1 b2 b3 : Nat} (h0 : b0 < 256) (h1 : b1 < 256) (h2 : b2 < 256) (h3 : b3 < 256) : goNext n b0 b1 b2 b3 = nextN n b0 b1 b2 b3 := by
  by_cases hn : n = 0
  · subst hn; rfl
  · unfold goNext
    rw [if_neg hn, decode_ok (by omega) h0 h1 h2 h3]
    by_cases he : (nextN n b0 b1 b2 b3).2.2 = 0
    · have := next_ok he
      unfold decOf
      rw [if_pos he, if_pos this]
      exact Prod.ext rfl (Prod.ext rfl he.symm)
    · have hd : decOf (nextN n b0 b1 b2 b3) = (65533, 1) := by unfold decOf; rw [if_neg he]
      rw [hd, if_neg (by omega)]
      exact bad_eq h0 hn he

end Go.Proofs.YtbflcikfaoojmaaDoor.UtfP

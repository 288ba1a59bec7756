/- Plain facts on the next character. -/
import Derived.Test.YtbflcikfaoojmaaDoorUtfQ
set_option linter.unusedVariables false
namespace Go.Proofs.YtbflcikfaoojmaaDoor.UtfP
open Go.Lib

def Fine3 (n : Nat) (r : Nat × Nat × Nat) : Prop := 1 ≤ r.2.1 ∧ r.2.1 ≤ n ∧ r.2.1 ≤ 4 ∧ (r.2.2 = 7 → r.2.1 = n ∧ n < 4) ∧ (r.2.2 = 0 ∨ r.2.2 = 7 ∨ r.2.2 = 8) ∧ (r.2.2 ≠ 0 → r.1 = 0)
theorem fine_ok {n c k : Nat} (h : 1 ≤ k ∧ k ≤ n ∧ k ≤ 4) : Fine3 n (c, k, 0) := ⟨h.1, h.2.1, h.2.2, fun h => absurd (show (0 : Nat) = 7 from h) (by decide), Or.inl rfl, fun h => absurd rfl h⟩
theorem fine_short {n k : Nat} (h : 1 ≤ k ∧ k = n ∧ k < 4) : Fine3 n (0, k, 7) := ⟨h.1, Nat.le_of_eq h.2.1, Nat.le_of_lt h.2.2, fun _ => ⟨h.2.1, h.2.1 ▸ h.2.2⟩, Or.inr (Or.inl rfl), fun _ => rfl⟩
theorem fine_form {n k : Nat} (h : 1 ≤ k ∧ k ≤ n ∧ k ≤ 4) : Fine3 n (0, k, 8) := ⟨h.1, h.2.1, h.2.2, fun h => absurd (show (8 : Nat) = 7 from h) (by decide), Or.inr (Or.inr rfl), fun _ => rfl⟩
theorem next_fine {n b0 b1 b2 b3 : Nat} (hn : 0 < n) : Fine3 n (nextN n b0 b1 b2 b3) := by
  unfold nextN
  rw [if_neg (by omega)]
  repeat' (with_reducible (refine ite_ok (P := Fine3 n) (fun _ => ?_) (fun _ => ?_)))
  all_goals first | exact fine_ok (by omega) | exact fine_short (by omega) | exact fine_form (by omega)

/-- bytes behind don't change it, but for a beginning -/
theorem next_more {n n' b0 b1 b2 b3 c1 c2 c3 : Nat} (hn : 0 < n) (hle : n ≤ n') (h1 : 1 < n → c1 = b1) (h2 : 2 < n → c2 = b2) (h3 : 3 < n → c3 = b3)
    (he : (nextN n b0 b1 b2 b3).2.2 ≠ 7) : nextN n' b0 c1 c2 c3 = nextN n b0 b1 b2 b3 := by
  revert he
  unfold nextN
  rw [if_neg (show ¬ n = 0 by omega), if_neg (show ¬ n' = 0 by omega)]
  by_cases a0 : size1 b0 = 0
  · rw [if_pos a0, if_pos a0]; intro _; rfl
  · rw [if_neg a0, if_neg a0]
    by_cases a1 : size1 b0 = 1
    · rw [if_pos a1, if_pos a1]; intro _; rfl
    · rw [if_neg a1, if_neg a1]
      by_cases n1 : n = 1
      · rw [if_pos n1]; intro h; exact absurd rfl h
      · rw [if_neg n1, if_neg (show ¬ n' = 1 by omega), h1 (by omega)]
        by_cases s1 : sec b0 b1 = false
        · rw [if_pos s1, if_pos s1]; intro _; rfl
        · rw [if_neg s1, if_neg s1]
          by_cases a2 : size1 b0 = 2
          · rw [if_pos a2, if_pos a2]; intro _; rfl
          · rw [if_neg a2, if_neg a2]
            by_cases n2 : n = 2
            · rw [if_pos n2]; intro h; exact absurd rfl h
            · rw [if_neg n2, if_neg (show ¬ n' = 2 by omega), h2 (by omega)]
              by_cases s2 : cont b2 = false
              · rw [if_pos s2, if_pos s2]; intro _; rfl
              · rw [if_neg s2, if_neg s2]
                by_cases a3 : size1 b0 = 3
                · rw [if_pos a3, if_pos a3]; intro _; rfl
                · rw [if_neg a3, if_neg a3]
                  by_cases n3 : n = 3
                  · rw [if_pos n3]; intro h; exact absurd rfl h
                  · rw [if_neg n3, if_neg (show ¬ n' = 3 by omega), h3 (by omega)]
                    intro _; rfl

/-- byte i of a list, 0 behind its end -/
def bt (l : List UInt8) (i : Nat) : Nat := (l.getD i 0).toNat
theorem bt_lt (l : List UInt8) (i : Nat) : bt l i < 256 := (l.getD i 0).toNat_lt
theorem bt_append {l m : List UInt8} {j : Nat} (h : j < l.length) : bt (l ++ m) j = bt l j := by
  unfold bt
  rw [List.getD_eq_getElem?_getD, List.getD_eq_getElem?_getD, List.getElem?_append_left h]
def next (l : List UInt8) : Nat × Nat × Nat := nextN l.length (bt l 0) (bt l 1) (bt l 2) (bt l 3)
theorem next_nil : next [] = (0, 0, 6) := by decide
theorem next_facts {l : List UInt8} (h : l ≠ []) : Fine3 l.length (next l) := next_fine (List.length_pos_iff.2 h)
theorem next_append {l m : List UInt8} (h : l ≠ []) (he : (next l).2.2 ≠ 7) : next (l ++ m) = next l := by
  have hn := List.length_pos_iff.2 h
  unfold next at he ⊢
  rw [bt_append hn]
  exact next_more hn (by rw [List.length_append]; omega) (fun h => bt_append h) (fun h => bt_append h) (fun h => bt_append h) he

end Go.Proofs.YtbflcikfaoojmaaDoor.UtfP

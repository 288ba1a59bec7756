/- The characters of a text; plain. -/
import Derived.Test.YtbflcikfaoojmaaDoorHPutP
set_option linter.unusedVariables false
namespace Go.Proofs.YtbflcikfaoojmaaDoor.UtfP
open Go.Lib

def charsF : Nat → List UInt8 → List Int
  | 0, _ => []
  | d + 1, l => if l = [] then [] else (if (next l).2.2 = 0 then ((next l).1 : Int) else 65533) :: charsF d (l.drop (next l).2.1)
/-- the characters of a text, what isn't right replaced -/
def chars (l : List UInt8) : List Int := charsF l.length l
def headC (l : List UInt8) : Int := if (next l).2.2 = 0 then ((next l).1 : Int) else 65533

theorem charsF_more : ∀ (d d' : Nat) (l : List UInt8), l.length ≤ d → l.length ≤ d' → charsF d l = charsF d' l := by
  intro d
  induction d with
  | zero =>
    intro d' l h _
    have : l = [] := List.eq_nil_of_length_eq_zero (by omega)
    subst this
    cases d' with
    | zero => rfl
    | succ d' => unfold charsF; rw [if_pos rfl]
  | succ d ih =>
    intro d' l h h'
    by_cases hl : l = []
    · subst hl
      unfold charsF
      cases d' with
      | zero => simp
      | succ d' => simp
    · obtain ⟨f1, f2, _⟩ := next_facts hl
      cases d' with
      | zero => exact absurd (List.eq_nil_of_length_eq_zero (by omega)) hl
      | succ d' =>
        unfold charsF
        rw [if_neg hl, if_neg hl, ih d' (l.drop (next l).2.1) (by rw [List.length_drop]; omega) (by rw [List.length_drop]; omega)]
theorem chars_nil : chars [] = [] := rfl
theorem chars_cons {l : List UInt8} (h : l ≠ []) : chars l = headC l :: chars (l.drop (next l).2.1) := by
  obtain ⟨f1, f2, _⟩ := next_facts h
  have hl := List.length_pos_iff.2 h
  obtain ⟨d, hd⟩ : ∃ d, l.length = d + 1 := ⟨l.length - 1, by omega⟩
  unfold chars
  rw [hd]
  conv => lhs; unfold charsF
  rw [if_neg h]
  unfold headC
  rw [charsF_more d (l.drop (next l).2.1).length (l.drop (next l).2.1) (by rw [List.length_drop]; omega) (Nat.le_refl _)]

def text (l : List UInt8) : List UInt8 := (chars l).flatMap enc

theorem next_small {l : List UInt8} : (next l).1 ≤ 1114111 := by
  unfold next
  by_cases hn : l.length = 0
  · unfold nextN; rw [if_pos hn]; decide
  · have ite_le : ∀ {c : Prop} [Decidable c] {x y : Nat × Nat × Nat}, (c → x.1 ≤ 1114111) → (¬ c → y.1 ≤ 1114111) → (if c then x else y).1 ≤ 1114111 := by
      intro c _ x y hx hy
      by_cases hc : c
      · rw [if_pos hc]; exact hx hc
      · rw [if_neg hc]; exact hy hc
    have hc := size_class (bt l 0)
    have hs := size_cases (bt l 0)
    have s := @sec_iff (bt l 0) (bt l 1)
    have hl := lo_hi_at (bt l 0)
    have c2 := @cont_iff (bt l 2)
    have c3 := @cont_iff (bt l 3)
    unfold nextN
    rw [if_neg hn]
    by_cases a0 : size1 (bt l 0) = 0
    · rw [if_pos a0]; decide
    · rw [if_neg a0]
      by_cases a1 : size1 (bt l 0) = 1
      · rw [if_pos a1]; show bt l 0 ≤ 1114111; omega
      · rw [if_neg a1]
        refine ite_le (fun _ => by decide) (fun _ => ite_le (fun _ => by decide) (fun h1 => ite_le (fun h2 => ?_) (fun h2 => ite_le (fun _ => by decide) (fun _ => ite_le (fun _ => by decide) (fun h3 => ite_le (fun h4 => ?_) (fun h4 => ite_le (fun _ => by decide) (fun _ => ite_le (fun _ => by decide) (fun h5 => ?_))))))))
        · show bt l 0 % 32 * 64 + (bt l 1 - 128) ≤ 1114111
          have := bt_lt l 1; omega
        · show bt l 0 % 16 * 4096 + (bt l 1 - 128) * 64 + (bt l 2 - 128) ≤ 1114111
          have := bt_lt l 1; have := bt_lt l 2; omega
        · show bt l 0 % 8 * 262144 + (bt l 1 - 128) * 4096 + (bt l 2 - 128) * 64 + (bt l 3 - 128) ≤ 1114111
          have k1 := s.1.1 (by simpa using h1)
          have k2 := c2.1.1 (by simpa using h3)
          have k3 := c3.1.1 (by simpa using h5)
          have k4 : 240 ≤ bt l 0 ∧ bt l 0 ≤ 244 := hc.2.2.2.1 (by omega)
          by_cases e : bt l 0 = 244
          · have := hl.2.2.2.2.2 e; rw [e]; omega
          · have : hi2 (bt l 0) = 191 := hl.2.2.2.1 (by omega) e
            omega
theorem headC_bd (l : List UInt8) : 0 ≤ headC l ∧ headC l ≤ 1114111 := by
  unfold headC
  have := @next_small l
  split <;> omega

/-- a replaced one has three bytes; any has at most four, and no more than it came of but for a replaced one -/
theorem enc_le (c : Int) (h0 : 0 ≤ c) : (enc c).length ≤ 4 := (enc_length c).2

end Go.Proofs.YtbflcikfaoojmaaDoor.UtfP

/- The reference's Next, walked. -/
import Derived.Test.YtbkpnffgihjikaaUtfR
set_option linter.unusedVariables false
namespace Go.Proofs.Ytbkpnffgihjikaa.Utf
open Go.RowKit Go.Lib Go.Shelf UtfP

/-- the number read so far, at the head of round k -/
def cAt (m x0 x1 x2 x3 : Nat) : Nat → Int
  | 1 => (x0 : Int) % (m : Int)
  | 2 => 64 * ((x0 : Int) % (m : Int)) + (x1 : Int) - 128
  | 3 => 64 * (64 * ((x0 : Int) % (m : Int)) + (x1 : Int) - 128) + (x2 : Int) - 128
  | _ => 64 * (64 * (64 * ((x0 : Int) % (m : Int)) + (x1 : Int) - 128) + (x2 : Int) - 128) + (x3 : Int) - 128
/-- what the rounds ahead have let by -/
def let_ (x0 x1 x2 x3 : Nat) (k : Nat) : Prop := (1 < k → sec x0 x1 = true) ∧ (2 < k → cont x2 = true) ∧ (3 < k → cont x3 = true)

def xAt (x1 x2 x3 : Nat) : Nat → Nat
  | 1 => x1
  | 2 => x2
  | _ => x3
def okAt (x0 x1 x2 x3 : Nat) : Nat → Bool
  | 1 => sec x0 x1
  | 2 => cont x2
  | _ => cont x3
theorem nx_short {n x0 x1 x2 x3 k : Nat} (hk : 1 ≤ k) (hs : k < size1 x0) (hl : let_ x0 x1 x2 x3 k) (hn : n = k) : nextN n x0 x1 x2 x3 = (0, k, 7) := by
  have z := size_cases x0
  subst hn
  unfold nextN
  rw [if_neg (by omega), if_neg (by omega), if_neg (by omega)]
  by_cases h1 : n = 1
  · rw [if_pos h1, h1]
  · rw [if_neg h1, hl.1 (by omega), if_neg (by simp), if_neg (by omega)]
    by_cases h2 : n = 2
    · rw [if_pos h2, h2]
    · rw [if_neg h2, hl.2.1 (by omega), if_neg (by simp), if_neg (by omega)]
      rw [if_pos (by omega), show n = 3 by omega]
theorem nx_bad {n x0 x1 x2 x3 k : Nat} (hk : 1 ≤ k) (hs : k < size1 x0) (hl : let_ x0 x1 x2 x3 k) (hn : k < n) (hb : okAt x0 x1 x2 x3 k = false) : nextN n x0 x1 x2 x3 = (0, k, 8) := by
  have z := size_cases x0
  unfold nextN
  rw [if_neg (by omega), if_neg (by omega), if_neg (by omega), if_neg (by omega)]
  rcases (show k = 1 ∨ k = 2 ∨ k = 3 by omega) with rfl | rfl | rfl
  · rw [if_pos (show sec x0 x1 = false from hb)]
  · rw [hl.1 (by omega), if_neg (by simp), if_neg (by omega), if_neg (by omega), if_pos (show cont x2 = false from hb)]
  · rw [hl.1 (by omega), if_neg (by simp), if_neg (by omega), if_neg (by omega), hl.2.1 (by omega), if_neg (by simp), if_neg (by omega), if_neg (by omega), if_pos (show cont x3 = false from hb)]
theorem c_bd {m x0 x1 x2 x3 k : Nat} (hm : m = 32 ∨ m = 16 ∨ m = 8) (h1 : x1 < 256) (h2 : x2 < 256) (h3 : x3 < 256) (hl : let_ x0 x1 x2 x3 k) (hk : k ≤ 4) (hk1 : 1 ≤ k) :
    0 ≤ cAt m x0 x1 x2 x3 k ∧ cAt m x0 x1 x2 x3 k < 16777216 := by
  have hs := @sec_iff x0 x1
  have hlh := lo_hi x0
  have c2 := @cont_iff x2
  have c3 := @cont_iff x3
  have l1 : 1 < k → 128 ≤ x1 := fun h => by have := hs.1.1 (hl.1 h); omega
  have l2 : 2 < k → 128 ≤ x2 := fun h => by have := c2.1.1 (hl.2.1 h); omega
  have l3 : 3 < k → 128 ≤ x3 := fun h => by have := c3.1.1 (hl.2.2 h); omega
  rcases hm with rfl | rfl | rfl
  all_goals
    rcases (show k = 1 ∨ k = 2 ∨ k = 3 ∨ k = 4 by omega) with rfl | rfl | rfl | rfl
    all_goals simp only [cAt]
    all_goals omega
theorem nx_end {n x0 x1 x2 x3 z m : Nat} (hz : size1 x0 = z) (hm : (z = 2 ∧ m = 32) ∨ (z = 3 ∧ m = 16) ∨ (z = 4 ∧ m = 8)) (hl : let_ x0 x1 x2 x3 z) (hn : z ≤ n) :
    res3 (nextN n x0 x1 x2 x3) = .tuple #[.int .i64 (cAt m x0 x1 x2 x3 z), .int .i64 (z : Int), .int .i64 0] := by
  have hs := @sec_iff x0 x1
  have hlh := lo_hi x0
  have c2 := @cont_iff x2
  have c3 := @cont_iff x3
  have l1 : 1 < z → 128 ≤ x1 := fun h => by have := hs.1.1 (hl.1 h); omega
  have l2 : 2 < z → 128 ≤ x2 := fun h => by have := c2.1.1 (hl.2.1 h); omega
  have l3 : 3 < z → 128 ≤ x3 := fun h => by have := c3.1.1 (hl.2.2 h); omega
  clear hs c2 c3
  unfold nextN
  rw [hz, if_neg (by omega), if_neg (by omega), if_neg (by omega), if_neg (by omega), hl.1 (by omega), if_neg (by simp)]
  have key : ∀ (a : Nat) (b : Int), (a : Int) = b → res3 (a, z, 0) = .tuple #[.int .i64 b, .int .i64 (z : Int), .int .i64 0] := by rintro a b rfl; rfl
  rcases hm with ⟨rfl, rfl⟩ | ⟨rfl, rfl⟩ | ⟨rfl, rfl⟩
  · rw [if_pos rfl]
    refine key _ _ ?_
    have := l1 (by omega)
    simp only [cAt]; omega
  · rw [if_neg (by omega), if_neg (by omega), hl.2.1 (by omega), if_neg (by simp), if_pos rfl]
    refine key _ _ ?_
    have := l1 (by omega)
    have := l2 (by omega)
    simp only [cAt]; omega
  · rw [if_neg (by omega), if_neg (by omega), hl.2.1 (by omega), if_neg (by simp), if_neg (by omega), if_neg (by omega), hl.2.2 (by omega), if_neg (by simp)]
    refine key _ _ ?_
    have := l1 (by omega)
    have := l2 (by omega)
    have := l3 (by omega)
    simp only [cAt]; omega

end Go.Proofs.Ytbkpnffgihjikaa.Utf

/- The reference of layer 1: size, second, Next, walked. -/
import Derived.Test.YtbflcikfaoojmaaDoorHUtfN
set_option linter.unusedVariables false
namespace Go.Proofs.YtbflcikfaoojmaaDoor.Utf
open Go.RowKit Go.Lib Go.Shelf UtfP

set_option maxHeartbeats 1000000 in
theorem refSize (c : Nat) (w : World) (hc : c < 256) :
    Calls Tryd.prog 59 #[.int .u8 c] w fun e w' => e = .returned (.int .i64 (size1 c : Int)) ∧ w = w' := by
  by_cases h1 : c < 128
  · have h1' : (c : Int) < 128 := by omega
    rw [show size1 c = 1 by unfold size1; rw [if_pos h1]]
    clear h1
    go_enter Tryd.func59, Tryd.ntmps59
    go_wp2
    go_ret
    exact ⟨rfl, rfl⟩
  · have h1' : decide ((c : Int) < 128) = false := by simp; omega
    by_cases h2 : 194 ≤ c
    · have h2' : (194 : Int) ≤ (c : Int) := by omega
      by_cases h3 : c ≤ 223
      · have h3' : (c : Int) ≤ 223 := by omega
        rw [show size1 c = 2 by unfold size1; rw [if_neg h1, if_pos ⟨h2, h3⟩]]
        clear h1 h2 h3
        go_enter Tryd.func59, Tryd.ntmps59
        go_wp2
        go_ret
        exact ⟨rfl, rfl⟩
      · have h3' : decide ((c : Int) ≤ 223) = false := by simp; omega
        have h4' : (224 : Int) ≤ (c : Int) := by omega
        by_cases h5 : c ≤ 239
        · have h5' : (c : Int) ≤ 239 := by omega
          rw [show size1 c = 3 by unfold size1; rw [if_neg h1, if_neg (by omega), if_pos (by omega)]]
          clear h1 h2 h3 h5
          go_enter Tryd.func59, Tryd.ntmps59
          go_wp2
          go_ret
          exact ⟨rfl, rfl⟩
        · have h5' : decide ((c : Int) ≤ 239) = false := by simp; omega
          have h6' : (240 : Int) ≤ (c : Int) := by omega
          by_cases h7 : c ≤ 244
          · have h7' : (c : Int) ≤ 244 := by omega
            rw [show size1 c = 4 by unfold size1; rw [if_neg h1, if_neg (by omega), if_neg (by omega), if_pos (by omega)]]
            clear h1 h2 h3 h5 h7
            go_enter Tryd.func59, Tryd.ntmps59
            go_wp2
            go_ret
            exact ⟨rfl, rfl⟩
          · have h7' : decide ((c : Int) ≤ 244) = false := by simp; omega
            rw [show size1 c = 0 by unfold size1; rw [if_neg h1, if_neg (by omega), if_neg (by omega), if_neg (by omega)]]
            clear h1 h2 h3 h5 h7
            go_enter Tryd.func59, Tryd.ntmps59
            go_wp2
            go_ret
            exact ⟨rfl, rfl⟩
    · have h2' : decide ((194 : Int) ≤ (c : Int)) = false := by simp; omega
      have h4' : decide ((224 : Int) ≤ (c : Int)) = false := by simp; omega
      have h6' : decide ((240 : Int) ≤ (c : Int)) = false := by simp; omega
      rw [show size1 c = 0 by unfold size1; rw [if_neg h1, if_neg (by omega), if_neg (by omega), if_neg (by omega)]]
      clear h1 h2
      go_enter Tryd.func59, Tryd.ntmps59
      go_wp2
      go_ret
      exact ⟨rfl, rfl⟩

def secAt (lo hi c : Nat) : Bool := decide (lo ≤ c ∧ c ≤ hi)

set_option maxHeartbeats 4000000 in
theorem refSecond (a c : Nat) (w : World) (ha : a < 256) (hc : c < 256) :
    Calls Tryd.prog 60 #[.int .u8 a, .int .u8 c] w fun e w' => e = .returned (.bool (sec a c)) ∧ w = w' := by
  obtain ⟨v, hv⟩ : ∃ v, sec a c = v := ⟨_, rfl⟩
  have hs := @sec_iff a c
  have hl := lo_hi_at a
  rw [hv] at hs ⊢
  generalize lo2 a = lo at *
  generalize hi2 a = hi at *
  clear hv
  have key : ∀ (L H : Int), (lo : Int) = L → (hi : Int) = H → (v = true ∧ decide (L ≤ (c : Int)) = true ∧ decide ((c : Int) ≤ H) = true) ∨ (v = false ∧ decide (L ≤ (c : Int)) = true ∧ decide ((c : Int) ≤ H) = false) ∨ (v = false ∧ decide (L ≤ (c : Int)) = false) := by
    rintro L H rfl rfl
    cases v with
    | true => left; have := hs.1.1 rfl; simp; omega
    | false =>
      right
      have := hs.2.1 rfl
      by_cases h : lo ≤ c
      · left; simp; omega
      · right; simp; omega
  clear hs
  by_cases e1 : a = 224
  · subst e1
    have k := key 160 191 (by have := hl; omega) (by have := hl; omega)
    clear key hl
    rcases k with ⟨rfl, k1, k2⟩ | ⟨rfl, k1, k2⟩ | ⟨rfl, k1⟩
    all_goals
      go_enter Tryd.func60, Tryd.ntmps60
      go_wp2
      go_ret
      exact ⟨rfl, rfl⟩
  · by_cases e2 : a = 237
    · subst e2
      have k := key 128 159 (by have := hl; omega) (by have := hl; omega)
      clear key hl
      rcases k with ⟨rfl, k1, k2⟩ | ⟨rfl, k1, k2⟩ | ⟨rfl, k1⟩
      all_goals
        go_enter Tryd.func60, Tryd.ntmps60
        go_wp2
        go_ret
        exact ⟨rfl, rfl⟩
    · by_cases e3 : a = 240
      · subst e3
        have k := key 144 191 (by have := hl; omega) (by have := hl; omega)
        clear key hl
        rcases k with ⟨rfl, k1, k2⟩ | ⟨rfl, k1, k2⟩ | ⟨rfl, k1⟩
        all_goals
          go_enter Tryd.func60, Tryd.ntmps60
          go_wp2
          go_ret
          exact ⟨rfl, rfl⟩
      · by_cases e4 : a = 244
        · subst e4
          have k := key 128 143 (by have := hl; omega) (by have := hl; omega)
          clear key hl
          rcases k with ⟨rfl, k1, k2⟩ | ⟨rfl, k1, k2⟩ | ⟨rfl, k1⟩
          all_goals
            go_enter Tryd.func60, Tryd.ntmps60
            go_wp2
            go_ret
            exact ⟨rfl, rfl⟩
        · have k := key 128 191 (by have := hl; omega) (by have := hl; omega)
          have b1 : ((a : Int) == 224) = false := by simp; omega
          have b2 : ((a : Int) == 237) = false := by simp; omega
          have b3 : ((a : Int) == 240) = false := by simp; omega
          have b4 : ((a : Int) == 244) = false := by simp; omega
          clear key hl e1 e2 e3 e4
          rcases k with ⟨rfl, k1, k2⟩ | ⟨rfl, k1, k2⟩ | ⟨rfl, k1⟩
          all_goals
            go_enter Tryd.func60, Tryd.ntmps60
            go_wp2
            go_ret
            exact ⟨rfl, rfl⟩

end Go.Proofs.YtbflcikfaoojmaaDoor.Utf

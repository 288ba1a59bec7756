/- Texts joined: UtfR; UtfS. -/
import Derived.Test.YtbflcikfaoojmaaDoorGF
/- The reference of layer 1: size, second, Next, walked. -/
set_option linter.unusedVariables false
namespace Go.Proofs.YtbflcikfaoojmaaDoor.Utf
open Go.RowKit Go.Lib Go.Shelf UtfP

set_option maxHeartbeats 1000000 in
theorem refSize (c : Nat) (w : World) (hc : c < 256) :
    Calls Tryd.prog 59 #[.int .u8 c] w fun e w' => e = .returned (.int .i64 (size1 c : Int)) ∧ w = w' := by
  by_cases h1 : c < 128
  · have h1' : (c : Int) < 128 := by omega
    rw [show size1 c = 1 by unfold size1; rw [if_pos h1]]
    clear h1
    go_enter Tryd.func59, Tryd.ntmps59
    go_wp2
    go_ret
    exact ⟨rfl, rfl⟩
  · have h1' : decide ((c : Int) < 128) = false := by simp; omega
    by_cases h2 : 194 ≤ c
    · have h2' : (194 : Int) ≤ (c : Int) := by omega
      by_cases h3 : c ≤ 223
      · have h3' : (c : Int) ≤ 223 := by omega
        rw [show size1 c = 2 by unfold size1; rw [if_neg h1, if_pos ⟨h2, h3⟩]]
        clear h1 h2 h3
        go_enter Tryd.func59, Tryd.ntmps59
        go_wp2
        go_ret
        exact ⟨rfl, rfl⟩
      · have h3' : decide ((c : Int) ≤ 223) = false := by simp; omega
        have h4' : (224 : Int) ≤ (c : Int) := by omega
        by_cases h5 : c ≤ 239
        · have h5' : (c : Int) ≤ 239 := by omega
          rw [show size1 c = 3 by unfold size1; rw [if_neg h1, if_neg (by omega), if_pos (by omega)]]
          clear h1 h2 h3 h5
          go_enter Tryd.func59, Tryd.ntmps59
          go_wp2
          go_ret
          exact ⟨rfl, rfl⟩
        · have h5' : decide ((c : Int) ≤ 239) = false := by simp; omega
          have h6' : (240 : Int) ≤ (c : Int) := by omega
          by_cases h7 : c ≤ 244
          · have h7' : (c : Int) ≤ 244 := by omega
            rw [show size1 c = 4 by unfold size1; rw [if_neg h1, if_neg (by omega), if_neg (by omega), if_pos (by omega)]]
            clear h1 h2 h3 h5 h7
            go_enter Tryd.func59, Tryd.ntmps59
            go_wp2
            go_ret
            exact ⟨rfl, rfl⟩
          · have h7' : decide ((c : Int) ≤ 244) = false := by simp; omega
            rw [show size1 c = 0 by unfold size1; rw [if_neg h1, if_neg (by omega), if_neg (by omega), if_neg (by omega)]]
            clear h1 h2 h3 h5 h7
            go_enter Tryd.func59, Tryd.ntmps59
            go_wp2
            go_ret
            exact ⟨rfl, rfl⟩
    · have h2' : decide ((194 : Int) ≤ (c : Int)) = false := by simp; omega
      have h4' : decide ((224 : Int) ≤ (c : Int)) = false := by simp; omega
      have h6' : decide ((240 : Int) ≤ (c : Int)) = false := by simp; omega
      rw [show size1 c = 0 by unfold size1; rw [if_neg h1, if_neg (by omega), if_neg (by omega), if_neg (by omega)]]
      clear h1 h2
      go_enter Tryd.func59, Tryd.ntmps59
      go_wp2
      go_ret
      exact ⟨rfl, rfl⟩

def secAt (lo hi c : Nat) : Bool := decide (lo ≤ c ∧ c ≤ hi)

set_option maxHeartbeats 4000000 in
theorem refSecond (a c : Nat) (w : World) (ha : a < 256) (hc : c < 256) :
    Calls Tryd.prog 60 #[.int .u8 a, .int .u8 c] w fun e w' => e = .returned (.bool (sec a c)) ∧ w = w' := by
  obtain ⟨v, hv⟩ : ∃ v, sec a c = v := ⟨_, rfl⟩
  have hs := @sec_iff a c
  have hl := lo_hi_at a
  rw [hv] at hs ⊢
  generalize lo2 a = lo at *
  generalize hi2 a = hi at *
  clear hv
  have key : ∀ (L H : Int), (lo : Int) = L → (hi : Int) = H → (v = true ∧ decide (L ≤ (c : Int)) = true ∧ decide ((c : Int) ≤ H) = true) ∨ (v = false ∧ decide (L ≤ (c : Int)) = true ∧ decide ((c : Int) ≤ H) = false) ∨ (v = false ∧ decide (L ≤ (c : Int)) = false) := by
    rintro L H rfl rfl
    cases v with
    | true => left; have := hs.1.1 rfl; simp; omega
    | false =>
      right
      have := hs.2.1 rfl
      by_cases h : lo ≤ c
      · left; simp; omega
      · right; simp; omega
  clear hs
  by_cases e1 : a = 224
  · subst e1
    have k := key 160 191 (by have := hl; omega) (by have := hl; omega)
    clear key hl
    rcases k with ⟨rfl, k1, k2⟩ | ⟨rfl, k1, k2⟩ | ⟨rfl, k1⟩
    all_goals
      go_enter Tryd.func60, Tryd.ntmps60
      go_wp2
      go_ret
      exact ⟨rfl, rfl⟩
  · by_cases e2 : a = 237
    · subst e2
      have k := key 128 159 (by have := hl; omega) (by have := hl; omega)
      clear key hl
      rcases k with ⟨rfl, k1, k2⟩ | ⟨rfl, k1, k2⟩ | ⟨rfl, k1⟩
      all_goals
        go_enter Tryd.func60, Tryd.ntmps60
        go_wp2
        go_ret
        exact ⟨rfl, rfl⟩
    · by_cases e3 : a = 240
      · subst e3
        have k := key 144 191 (by have := hl; omega) (by have := hl; omega)
        clear key hl
        rcases k with ⟨rfl, k1, k2⟩ | ⟨rfl, k1, k2⟩ | ⟨rfl, k1⟩
        all_goals
          go_enter Tryd.func60, Tryd.ntmps60
          go_wp2
          go_ret
          exact ⟨rfl, rfl⟩
      · by_cases e4 : a = 244
        · subst e4
          have k := key 128 143 (by have := hl; omega) (by have := hl; omega)
          clear key hl
          rcases k with ⟨rfl, k1, k2⟩ | ⟨rfl, k1, k2⟩ | ⟨rfl, k1⟩
          all_goals
            go_enter Tryd.func60, Tryd.ntmps60
            go_wp2
            go_ret
            exact ⟨rfl, rfl⟩
        · have k := key 128 191 (by have := hl; omega) (by have := hl; omega)
          have b1 : ((a : Int) == 224) = false := by simp; omega
          have b2 : ((a : Int) == 237) = false := by simp; omega
          have b3 : ((a : Int) == 240) = false := by simp; omega
          have b4 : ((a : Int) == 244) = false := by simp; omega
          clear key hl e1 e2 e3 e4
          rcases k with ⟨rfl, k1, k2⟩ | ⟨rfl, k1, k2⟩ | ⟨rfl, k1⟩
          all_goals
            go_enter Tryd.func60, Tryd.ntmps60
            go_wp2
            go_ret
            exact ⟨rfl, rfl⟩

end Go.Proofs.YtbflcikfaoojmaaDoor.Utf

/- The reference's Next, walked. -/
set_option linter.unusedVariables false
namespace Go.Proofs.YtbflcikfaoojmaaDoor.Utf
open Go.RowKit Go.Lib Go.Shelf UtfP

set_option maxHeartbeats 1000000 in
theorem ref_empty (A : Option Addr) (cap : Nat) (w : World) :
    Calls Tryd.prog 46 #[.slice A 0 cap] w fun e w' => e = .returned (res3 (0, 0, 6)) ∧ Below w.heap.size w w' := by
  go_enter Tryd.func46, Tryd.ntmps46
  go_wp2
  go_ret3
  exact ⟨rfl, Below.refl _ _⟩

set_option maxHeartbeats 1000000 in
theorem ref_zero (b off n cap x0 : Nat) (w : World) (hn : (0 : Int) < n) (h0 : x0 < 256) (hc : w.cell? ⟨b, off, none⟩ = some (.int .u8 x0)) (hz : size1 x0 = 0) :
    Calls Tryd.prog 46 #[.slice (some ⟨b, off, none⟩) n cap] w fun e w' => e = .returned (res3 (0, 1, 8)) ∧ Below w.heap.size w w' := by
  have C := fun w => refSize x0 w h0
  rw [hz] at C
  have HC := Lib.hid C
  clear C hz
  have hn0 : (((n : Nat) : Int) == 0) = false := by simp; omega
  go_enter Tryd.func46, Tryd.ntmps46
  go_wp2_with (go_at_call 59; refine (HC.out _).mono ?_; rintro e w' ⟨rfl, rfl⟩)
  go_ret3
  exact ⟨rfl, Below.refl _ _⟩

set_option maxHeartbeats 1000000 in
theorem ref_one (b off n cap x0 : Nat) (w : World) (hn : (0 : Int) < n) (h0 : x0 < 256) (hc : w.cell? ⟨b, off, none⟩ = some (.int .u8 x0)) (hz : size1 x0 = 1) :
    Calls Tryd.prog 46 #[.slice (some ⟨b, off, none⟩) n cap] w fun e w' => e = .returned (res3 (x0, 1, 0)) ∧ Below w.heap.size w w' := by
  have C := fun w => refSize x0 w h0
  rw [hz] at C
  have HC := Lib.hid C
  clear C hz
  have hn0 : (((n : Nat) : Int) == 0) = false := by simp; omega
  have h0' : (x0 : Int) < 256 := by omega
  go_enter Tryd.func46, Tryd.ntmps46
  go_wp2_with (go_at_call 59; refine (HC.out _).mono ?_; rintro e w' ⟨rfl, rfl⟩)
  go_ret3
  exact ⟨by simp [res3], Below.refl _ _⟩

/-- the number read so far, at the head of round k -/
def cAt (m x0 x1 x2 x3 : Nat) : Nat → Int
  | 1 => (x0 : Int) % (m : Int)
  | 2 => 64 * ((x0 : Int) % (m : Int)) + (x1 : Int) - 128
  | 3 => 64 * (64 * ((x0 : Int) % (m : Int)) + (x1 : Int) - 128) + (x2 : Int) - 128
  | _ => 64 * (64 * (64 * ((x0 : Int) % (m : Int)) + (x1 : Int) - 128) + (x2 : Int) - 128) + (x3 : Int) - 128
/-- what the rounds ahead have let by -/
def let_ (x0 x1 x2 x3 : Nat) (k : Nat) : Prop := (1 < k → sec x0 x1 = true) ∧ (2 < k → cont x2 = true) ∧ (3 < k → cont x3 = true)

def xAt (x1 x2 x3 : Nat) : Nat → Nat
  | 1 => x1
  | 2 => x2
  | _ => x3
def okAt (x0 x1 x2 x3 : Nat) : Nat → Bool
  | 1 => sec x0 x1
  | 2 => cont x2
  | _ => cont x3
theorem nx_short {n x0 x1 x2 x3 k : Nat} (hk : 1 ≤ k) (hs : k < size1 x0) (hl : let_ x0 x1 x2 x3 k) (hn : n = k) : nextN n x0 x1 x2 x3 = (0, k, 7) := by
  have z := size_cases x0
  subst hn
  unfold nextN
  rw [if_neg (by omega), if_neg (by omega), if_neg (by omega)]
  by_cases h1 : n = 1
  · rw [if_pos h1, h1]
  · rw [if_neg h1, hl.1 (by omega), if_neg (by simp), if_neg (by omega)]
    by_cases h2 : n = 2
    · rw [if_pos h2, h2]
    · rw [if_neg h2, hl.2.1 (by omega), if_neg (by simp), if_neg (by omega)]
      rw [if_pos (by omega), show n = 3 by omega]
theorem nx_bad {n x0 x1 x2 x3 k : Nat} (hk : 1 ≤ k) (hs : k < size1 x0) (hl : let_ x0 x1 x2 x3 k) (hn : k < n) (hb : okAt x0 x1 x2 x3 k = false) : nextN n x0 x1 x2 x3 = (0, k, 8) := by
  have z := size_cases x0
  unfold nextN
  rw [if_neg (by omega), if_neg (by omega), if_neg (by omega), if_neg (by omega)]
  rcases (show k = 1 ∨ k = 2 ∨ k = 3 by omega) with rfl | rfl | rfl
  · rw [if_pos (show sec x0 x1 = false from hb)]
  · rw [hl.1 (by omega), if_neg (by simp), if_neg (by omega), if_neg (by omega), if_pos (show cont x2 = false from hb)]
  · rw [hl.1 (by omega), if_neg (by simp), if_neg (by omega), if_neg (by omega), hl.2.1 (by omega), if_neg (by simp), if_neg (by omega), if_neg (by omega), if_pos (show cont x3 = false from hb)]
theorem c_bd {m x0 x1 x2 x3 k : Nat} (hm : m = 32 ∨ m = 16 ∨ m = 8) (h1 : x1 < 256) (h2 : x2 < 256) (h3 : x3 < 256) (hl : let_ x0 x1 x2 x3 k) (hk : k ≤ 4) (hk1 : 1 ≤ k) :
    0 ≤ cAt m x0 x1 x2 x3 k ∧ cAt m x0 x1 x2 x3 k < 16777216 := by
  have hs := @sec_iff x0 x1
  have hlh := lo_hi x0
  have c2 := @cont_iff x2
  have c3 := @cont_iff x3
  have l1 : 1 < k → 128 ≤ x1 := fun h => by have := hs.1.1 (hl.1 h); omega
  have l2 : 2 < k → 128 ≤ x2 := fun h => by have := c2.1.1 (hl.2.1 h); omega
  have l3 : 3 < k → 128 ≤ x3 := fun h => by have := c3.1.1 (hl.2.2 h); omega
  rcases hm with rfl | rfl | rfl
  all_goals
    rcases (show k = 1 ∨ k = 2 ∨ k = 3 ∨ k = 4 by omega) with rfl | rfl | rfl | rfl
    all_goals simp only [cAt]
    all_goals omega
theorem nx_end {n x0 x1 x2 x3 z m : Nat} (hz : size1 x0 = z) (hm : (z = 2 ∧ m = 32) ∨ (z = 3 ∧ m = 16) ∨ (z = 4 ∧ m = 8)) (hl : let_ x0 x1 x2 x3 z) (hn : z ≤ n) :
    res3 (nextN n x0 x1 x2 x3) = .tuple #[.int .i64 (cAt m x0 x1 x2 x3 z), .int .i64 (z : Int), .int .i64 0] := by
  have hs := @sec_iff x0 x1
  have hlh := lo_hi x0
  have c2 := @cont_iff x2
  have c3 := @cont_iff x3
  have l1 : 1 < z → 128 ≤ x1 := fun h => by have := hs.1.1 (hl.1 h); omega
  have l2 : 2 < z → 128 ≤ x2 := fun h => by have := c2.1.1 (hl.2.1 h); omega
  have l3 : 3 < z → 128 ≤ x3 := fun h => by have := c3.1.1 (hl.2.2 h); omega
  clear hs c2 c3
  unfold nextN
  rw [hz, if_neg (by omega), if_neg (by omega), if_neg (by omega), if_neg (by omega), hl.1 (by omega), if_neg (by simp)]
  have key : ∀ (a : Nat) (b : Int), (a : Int) = b → res3 (a, z, 0) = .tuple #[.int .i64 b, .int .i64 (z : Int), .int .i64 0] := by rintro a b rfl; rfl
  rcases hm with ⟨rfl, rfl⟩ | ⟨rfl, rfl⟩ | ⟨rfl, rfl⟩
  · rw [if_pos rfl]
    refine key _ _ ?_
    have := l1 (by omega)
    simp only [cAt]; omega
  · rw [if_neg (by omega), if_neg (by omega), hl.2.1 (by omega), if_neg (by simp), if_pos rfl]
    refine key _ _ ?_
    have := l1 (by omega)
    have := l2 (by omega)
    simp only [cAt]; omega
  · rw [if_neg (by omega), if_neg (by omega), hl.2.1 (by omega), if_neg (by simp), if_neg (by omega), if_neg (by omega), hl.2.2 (by omega), if_neg (by simp)]
    refine key _ _ ?_
    have := l1 (by omega)
    have := l2 (by omega)
    have := l3 (by omega)
    simp only [cAt]; omega

set_option maxRecDepth 100000 in
set_option maxHeartbeats 8000000 in
theorem ref_of2 (b off n cap x0 x1 x2 x3 : Nat) (w : World) (hn : (0 : Int) < n) (h0 : x0 < 256) (hx1 : x1 < 256) (hx2 : x2 < 256) (hx3 : x3 < 256) (hm : n ≤ 140737488355328)
    (hc : w.cell? ⟨b, off, none⟩ = some (.int .u8 x0)) (hc1 : 1 < n → w.cell? ⟨b, off + 1, none⟩ = some (.int .u8 x1)) (hz : size1 x0 = 2) :
    Calls Tryd.prog 46 #[.slice (some ⟨b, off, none⟩) n cap] w fun e w' => e = .returned (res3 (nextN n x0 x1 x2 x3)) ∧ Below w.heap.size w w' := by
  have C := fun w => refSize x0 w h0
  have D := fun w => refSecond x0 x1 w h0 hx1
  rw [hz] at C
  have HC := Lib.hid C
  have HD := Lib.hid D
  have Hz := Lib.hid hz
  have HC1 := Lib.hid hc1
  clear C D hz hc1
  have hn0 : (((n : Nat) : Int) == 0) = false := by simp; omega
  have h0' : (x0 : Int) < 256 := by omega
  have h0'' : (0 : Int) ≤ (x0 : Int) := by omega
  have hx1' : (x1 : Int) < 256 := by omega
  have hx2' : (x2 : Int) < 256 := by omega
  have hx3' : (x3 : Int) < 256 := by omega
  have hb : b < w.heap.size := block_lt_of_cell hc
  go_enter Tryd.func46, Tryd.ntmps46
  go_wp2_with (go_at_call 59; refine (HC.out _).mono ?_; rintro e w' ⟨rfl, rfl⟩)
  clear hn0
  go_loopw [6, 7] (fun c i wr => ∃ k : Nat, 1 ≤ k ∧ k ≤ 2 ∧ k ≤ n ∧ i = .int .i64 k ∧ c = .int .i64 (cAt 32 x0 x1 x2 x3 k) ∧ let_ x0 x1 x2 x3 k ∧ Below w.heap.size w wr) (fun _ i _ => 5 - (RowKit.intOf i).toNat)
  case atStart => exact ⟨1, by omega, by omega, by omega, rfl, rfl, ⟨fun h => absurd h (by omega), fun h => absurd h (by omega), fun h => absurd h (by omega)⟩, Below.refl _ _⟩
  case round =>
    obtain ⟨k, hk1, hk2, hkn, rfl, rfl, hl, hbw⟩ := hrel
    rcases (show k = 1 ∨ k = 2 by omega) with rfl | rfl
    · -- round 1
      have HW := Lib.hid (c_bd (m := 32) (by omega) hx1 hx2 hx3 hl (by omega) (by omega))
      by_cases hnk : n = 1
      · have e := nx_short (x3 := x3) (by omega) (by rw [Hz.out]; omega) hl hnk
        subst hnk
        have He := Lib.hid e
        clear e
        go_wp2
        go_ret3
        exact ⟨by rw [He.out]; rfl, hbw⟩
      · have hkn : 1 < n := by omega
        have hne : (((1 : Int)) == ((n : Nat) : Int)) = false := by simp; omega
        have hne2 : (((1 : Nat)) == n) = false := by simp; omega
        have hlt : (1 : Int) < (n : Int) := by omega
        have cw : wr.cell? ⟨b, off + 1, none⟩ = some (.int .u8 x1) := by rw [hbw.cell (p := ⟨b, off + 1, none⟩) hb]; exact HC1.out hkn
        have cw0 : wr.cell? ⟨b, off, none⟩ = some (.int .u8 x0) := by rw [hbw.cell (p := ⟨b, off, none⟩) hb]; exact hc
        by_cases hok : okAt x0 x1 x2 x3 1 = true
        · have D := HD.out
          rw [show sec x0 x1 = true from hok] at D
          have HD' := Lib.hid D
          have Hok := Lib.hid hok
          have hcb := HW.out
          generalize hck : cAt 32 x0 x1 x2 x3 1 = ck at hcb ⊢
          have Hck := Lib.hid hck
          have hcb1 := hcb.1
          have hcb2 := hcb.2
          clear D hok hck hcb hnk
          go_wp2_with fail
          go_quiet ((go_at_call 60; exact quiet_left (HD'.out _)))
          go_wp2
          go_roundw
          case rel => exact ⟨2, by omega, by omega, by omega, rfl, by rw [← Hck.out]; rfl, ⟨fun _ => Hok.out, fun h => absurd h (by omega), fun h => absurd h (by omega)⟩, below_drewN hbw _⟩
          case measure => simp [RowKit.intOf]
        · have hok' : sec x0 x1 = false := by simpa [okAt] using hok
          have e := nx_bad (x3 := x3) (by omega) (by rw [Hz.out]; omega) hl hkn hok'
          have He := Lib.hid e
          have D := HD.out
          rw [hok'] at D
          have HD' := Lib.hid D
          clear D hok hok' e hnk
          go_wp2_with fail
          go_quiet ((go_at_call 60; exact quiet_left (HD'.out _)))
          go_wp2
          go_ret3
          exact ⟨by rw [He.out]; rfl, below_drewN hbw _⟩
    · have e := nx_end (n := n) (m := 32) Hz.out (by omega) hl hkn
      have He := Lib.hid e
      clear e
      go_wp2
      go_ret3
      exact ⟨by rw [He.out]; rfl, hbw⟩


set_option maxRecDepth 100000 in
set_option maxHeartbeats 8000000 in
theorem ref_of3 (b off n cap x0 x1 x2 x3 : Nat) (w : World) (hn : (0 : Int) < n) (h0 : x0 < 256) (hx1 : x1 < 256) (hx2 : x2 < 256) (hx3 : x3 < 256) (hm : n ≤ 140737488355328)
    (hc : w.cell? ⟨b, off, none⟩ = some (.int .u8 x0)) (hc1 : 1 < n → w.cell? ⟨b, off + 1, none⟩ = some (.int .u8 x1)) (hc2 : 2 < n → w.cell? ⟨b, off + 2, none⟩ = some (.int .u8 x2)) (hz : size1 x0 = 3) :
    Calls Tryd.prog 46 #[.slice (some ⟨b, off, none⟩) n cap] w fun e w' => e = .returned (res3 (nextN n x0 x1 x2 x3)) ∧ Below w.heap.size w w' := by
  have C := fun w => refSize x0 w h0
  have D := fun w => refSecond x0 x1 w h0 hx1
  rw [hz] at C
  have HC := Lib.hid C
  have HD := Lib.hid D
  have Hz := Lib.hid hz
  have HC1 := Lib.hid hc1
  have HC2 := Lib.hid hc2
  clear C D hz hc1 hc2
  have hn0 : (((n : Nat) : Int) == 0) = false := by simp; omega
  have h0' : (x0 : Int) < 256 := by omega
  have h0'' : (0 : Int) ≤ (x0 : Int) := by omega
  have hx1' : (x1 : Int) < 256 := by omega
  have hx2' : (x2 : Int) < 256 := by omega
  have hx3' : (x3 : Int) < 256 := by omega
  have hb : b < w.heap.size := block_lt_of_cell hc
  go_enter Tryd.func46, Tryd.ntmps46
  go_wp2_with (go_at_call 59; refine (HC.out _).mono ?_; rintro e w' ⟨rfl, rfl⟩)
  clear hn0
  go_loopw [6, 7] (fun c i wr => ∃ k : Nat, 1 ≤ k ∧ k ≤ 3 ∧ k ≤ n ∧ i = .int .i64 k ∧ c = .int .i64 (cAt 16 x0 x1 x2 x3 k) ∧ let_ x0 x1 x2 x3 k ∧ Below w.heap.size w wr) (fun _ i _ => 5 - (RowKit.intOf i).toNat)
  case atStart => exact ⟨1, by omega, by omega, by omega, rfl, rfl, ⟨fun h => absurd h (by omega), fun h => absurd h (by omega), fun h => absurd h (by omega)⟩, Below.refl _ _⟩
  case round =>
    obtain ⟨k, hk1, hk2, hkn, rfl, rfl, hl, hbw⟩ := hrel
    rcases (show k = 1 ∨ k = 2 ∨ k = 3 by omega) with rfl | rfl | rfl
    · -- round 1
      have HW := Lib.hid (c_bd (m := 16) (by omega) hx1 hx2 hx3 hl (by omega) (by omega))
      by_cases hnk : n = 1
      · have e := nx_short (x3 := x3) (by omega) (by rw [Hz.out]; omega) hl hnk
        subst hnk
        have He := Lib.hid e
        clear e
        go_wp2
        go_ret3
        exact ⟨by rw [He.out]; rfl, hbw⟩
      · have hkn : 1 < n := by omega
        have hne : (((1 : Int)) == ((n : Nat) : Int)) = false := by simp; omega
        have hne2 : (((1 : Nat)) == n) = false := by simp; omega
        have hlt : (1 : Int) < (n : Int) := by omega
        have cw : wr.cell? ⟨b, off + 1, none⟩ = some (.int .u8 x1) := by rw [hbw.cell (p := ⟨b, off + 1, none⟩) hb]; exact HC1.out hkn
        have cw0 : wr.cell? ⟨b, off, none⟩ = some (.int .u8 x0) := by rw [hbw.cell (p := ⟨b, off, none⟩) hb]; exact hc
        by_cases hok : okAt x0 x1 x2 x3 1 = true
        · have D := HD.out
          rw [show sec x0 x1 = true from hok] at D
          have HD' := Lib.hid D
          have Hok := Lib.hid hok
          have hcb := HW.out
          generalize hck : cAt 16 x0 x1 x2 x3 1 = ck at hcb ⊢
          have Hck := Lib.hid hck
          have hcb1 := hcb.1
          have hcb2 := hcb.2
          clear D hok hck hcb hnk
          go_wp2_with fail
          go_quiet ((go_at_call 60; exact quiet_left (HD'.out _)))
          go_wp2
          go_roundw
          case rel => exact ⟨2, by omega, by omega, by omega, rfl, by rw [← Hck.out]; rfl, ⟨fun _ => Hok.out, fun h => absurd h (by omega), fun h => absurd h (by omega)⟩, below_drewN hbw _⟩
          case measure => simp [RowKit.intOf]
        · have hok' : sec x0 x1 = false := by simpa [okAt] using hok
          have e := nx_bad (x3 := x3) (by omega) (by rw [Hz.out]; omega) hl hkn hok'
          have He := Lib.hid e
          have D := HD.out
          rw [hok'] at D
          have HD' := Lib.hid D
          clear D hok hok' e hnk
          go_wp2_with fail
          go_quiet ((go_at_call 60; exact quiet_left (HD'.out _)))
          go_wp2
          go_ret3
          exact ⟨by rw [He.out]; rfl, below_drewN hbw _⟩
    · -- round 2
      have HW := Lib.hid (c_bd (m := 16) (by omega) hx1 hx2 hx3 hl (by omega) (by omega))
      by_cases hnk : n = 2
      · have e := nx_short (x3 := x3) (by omega) (by rw [Hz.out]; omega) hl hnk
        subst hnk
        have He := Lib.hid e
        clear e
        go_wp2
        go_ret3
        exact ⟨by rw [He.out]; rfl, hbw⟩
      · have hkn : 2 < n := by omega
        have hne : (((2 : Int)) == ((n : Nat) : Int)) = false := by simp; omega
        have hne2 : (((2 : Nat)) == n) = false := by simp; omega
        have hlt : (2 : Int) < (n : Int) := by omega
        have cw : wr.cell? ⟨b, off + 2, none⟩ = some (.int .u8 x2) := by rw [hbw.cell (p := ⟨b, off + 2, none⟩) hb]; exact HC2.out hkn
        have cw0 : wr.cell? ⟨b, off, none⟩ = some (.int .u8 x0) := by rw [hbw.cell (p := ⟨b, off, none⟩) hb]; exact hc
        by_cases hok : okAt x0 x1 x2 x3 2 = true
        · have hcc := cont_iff.1.1 (show cont x2 = true from hok)
          have Hok := Lib.hid hok
          have hcb := HW.out
          generalize hck : cAt 16 x0 x1 x2 x3 2 = ck at hcb ⊢
          have Hck := Lib.hid hck
          have hcb1 := hcb.1
          have hcb2 := hcb.2
          have k1 : decide ((x2 : Int) < 128) = false := by simp; omega
          have k2 : decide ((191 : Int) < (x2 : Int)) = false := by simp; omega
          have HL := Lib.hid hl
          clear hok hck hcb hnk hcc hl
          go_wp2_with fail
          go_quiet (fail)
          go_wp2
          go_roundw
          case rel => have hl := HL.out; exact ⟨3, by omega, by omega, by omega, rfl, by rw [← Hck.out]; rfl, ⟨fun _ => hl.1 (by omega), fun _ => Hok.out, fun h => absurd h (by omega)⟩, below_drewN hbw _⟩
          case measure => simp [RowKit.intOf]
        · have hok' : cont x2 = false := by simpa [okAt] using hok
          have e := nx_bad (x3 := x3) (by omega) (by rw [Hz.out]; omega) hl hkn hok'
          have He := Lib.hid e
          have hcc := cont_iff.2.1 hok'
          by_cases hlo : x2 < 128
          · have k1 : ((x2 : Int) < 128) := by omega
            clear hok hok' e hnk hcc hlo hl
            go_wp2_with fail
            go_quiet (fail)
            go_wp2
            go_ret3
            exact ⟨by rw [He.out]; rfl, below_drewN hbw _⟩
          · have k1 : decide ((x2 : Int) < 128) = false := by simp; omega
            have k2 : (191 : Int) < (x2 : Int) := by omega
            clear hok hok' e hnk hcc hlo hl
            go_wp2_with fail
            go_quiet (fail)
            go_wp2
            go_ret3
            exact ⟨by rw [He.out]; rfl, below_drewN hbw _⟩
    · have e := nx_end (n := n) (m := 16) Hz.out (by omega) hl hkn
      have He := Lib.hid e
      clear e
      go_wp2
      go_ret3
      exact ⟨by rw [He.out]; rfl, hbw⟩

set_option maxRecDepth 100000 in
set_option maxHeartbeats 8000000 in
theorem ref_of4 (b off n cap x0 x1 x2 x3 : Nat) (w : World) (hn : (0 : Int) < n) (h0 : x0 < 256) (hx1 : x1 < 256) (hx2 : x2 < 256) (hx3 : x3 < 256) (hm : n ≤ 140737488355328)
    (hc : w.cell? ⟨b, off, none⟩ = some (.int .u8 x0)) (hc1 : 1 < n → w.cell? ⟨b, off + 1, none⟩ = some (.int .u8 x1)) (hc2 : 2 < n → w.cell? ⟨b, off + 2, none⟩ = some (.int .u8 x2)) (hc3 : 3 < n → w.cell? ⟨b, off + 3, none⟩ = some (.int .u8 x3)) (hz : size1 x0 = 4) :
    Calls Tryd.prog 46 #[.slice (some ⟨b, off, none⟩) n cap] w fun e w' => e = .returned (res3 (nextN n x0 x1 x2 x3)) ∧ Below w.heap.size w w' := by
  have C := fun w => refSize x0 w h0
  have D := fun w => refSecond x0 x1 w h0 hx1
  rw [hz] at C
  have HC := Lib.hid C
  have HD := Lib.hid D
  have Hz := Lib.hid hz
  have HC1 := Lib.hid hc1
  have HC2 := Lib.hid hc2
  have HC3 := Lib.hid hc3
  clear C D hz hc1 hc2 hc3
  have hn0 : (((n : Nat) : Int) == 0) = false := by simp; omega
  have h0' : (x0 : Int) < 256 := by omega
  have h0'' : (0 : Int) ≤ (x0 : Int) := by omega
  have hx1' : (x1 : Int) < 256 := by omega
  have hx2' : (x2 : Int) < 256 := by omega
  have hx3' : (x3 : Int) < 256 := by omega
  have hb : b < w.heap.size := block_lt_of_cell hc
  go_enter Tryd.func46, Tryd.ntmps46
  go_wp2_with (go_at_call 59; refine (HC.out _).mono ?_; rintro e w' ⟨rfl, rfl⟩)
  clear hn0
  go_loopw [6, 7] (fun c i wr => ∃ k : Nat, 1 ≤ k ∧ k ≤ 4 ∧ k ≤ n ∧ i = .int .i64 k ∧ c = .int .i64 (cAt 8 x0 x1 x2 x3 k) ∧ let_ x0 x1 x2 x3 k ∧ Below w.heap.size w wr) (fun _ i _ => 5 - (RowKit.intOf i).toNat)
  case atStart => exact ⟨1, by omega, by omega, by omega, rfl, rfl, ⟨fun h => absurd h (by omega), fun h => absurd h (by omega), fun h => absurd h (by omega)⟩, Below.refl _ _⟩
  case round =>
    obtain ⟨k, hk1, hk2, hkn, rfl, rfl, hl, hbw⟩ := hrel
    rcases (show k = 1 ∨ k = 2 ∨ k = 3 ∨ k = 4 by omega) with rfl | rfl | rfl | rfl
    · -- round 1
      have HW := Lib.hid (c_bd (m := 8) (by omega) hx1 hx2 hx3 hl (by omega) (by omega))
      by_cases hnk : n = 1
      · have e := nx_short (x3 := x3) (by omega) (by rw [Hz.out]; omega) hl hnk
        subst hnk
        have He := Lib.hid e
        clear e
        go_wp2
        go_ret3
        exact ⟨by rw [He.out]; rfl, hbw⟩
      · have hkn : 1 < n := by omega
        have hne : (((1 : Int)) == ((n : Nat) : Int)) = false := by simp; omega
        have hne2 : (((1 : Nat)) == n) = false := by simp; omega
        have hlt : (1 : Int) < (n : Int) := by omega
        have cw : wr.cell? ⟨b, off + 1, none⟩ = some (.int .u8 x1) := by rw [hbw.cell (p := ⟨b, off + 1, none⟩) hb]; exact HC1.out hkn
        have cw0 : wr.cell? ⟨b, off, none⟩ = some (.int .u8 x0) := by rw [hbw.cell (p := ⟨b, off, none⟩) hb]; exact hc
        by_cases hok : okAt x0 x1 x2 x3 1 = true
        · have D := HD.out
          rw [show sec x0 x1 = true from hok] at D
          have HD' := Lib.hid D
          have Hok := Lib.hid hok
          have hcb := HW.out
          generalize hck : cAt 8 x0 x1 x2 x3 1 = ck at hcb ⊢
          have Hck := Lib.hid hck
          have hcb1 := hcb.1
          have hcb2 := hcb.2
          clear D hok hck hcb hnk
          go_wp2_with fail
          go_quiet ((go_at_call 60; exact quiet_left (HD'.out _)))
          go_wp2
          go_roundw
          case rel => exact ⟨2, by omega, by omega, by omega, rfl, by rw [← Hck.out]; rfl, ⟨fun _ => Hok.out, fun h => absurd h (by omega), fun h => absurd h (by omega)⟩, below_drewN hbw _⟩
          case measure => simp [RowKit.intOf]
        · have hok' : sec x0 x1 = false := by simpa [okAt] using hok
          have e := nx_bad (x3 := x3) (by omega) (by rw [Hz.out]; omega) hl hkn hok'
          have He := Lib.hid e
          have D := HD.out
          rw [hok'] at D
          have HD' := Lib.hid D
          clear D hok hok' e hnk
          go_wp2_with fail
          go_quiet ((go_at_call 60; exact quiet_left (HD'.out _)))
          go_wp2
          go_ret3
          exact ⟨by rw [He.out]; rfl, below_drewN hbw _⟩
    · -- round 2
      have HW := Lib.hid (c_bd (m := 8) (by omega) hx1 hx2 hx3 hl (by omega) (by omega))
      by_cases hnk : n = 2
      · have e := nx_short (x3 := x3) (by omega) (by rw [Hz.out]; omega) hl hnk
        subst hnk
        have He := Lib.hid e
        clear e
        go_wp2
        go_ret3
        exact ⟨by rw [He.out]; rfl, hbw⟩
      · have hkn : 2 < n := by omega
        have hne : (((2 : Int)) == ((n : Nat) : Int)) = false := by simp; omega
        have hne2 : (((2 : Nat)) == n) = false := by simp; omega
        have hlt : (2 : Int) < (n : Int) := by omega
        have cw : wr.cell? ⟨b, off + 2, none⟩ = some (.int .u8 x2) := by rw [hbw.cell (p := ⟨b, off + 2, none⟩) hb]; exact HC2.out hkn
        have cw0 : wr.cell? ⟨b, off, none⟩ = some (.int .u8 x0) := by rw [hbw.cell (p := ⟨b, off, none⟩) hb]; exact hc
        by_cases hok : okAt x0 x1 x2 x3 2 = true
        · have hcc := cont_iff.1.1 (show cont x2 = true from hok)
          have Hok := Lib.hid hok
          have hcb := HW.out
          generalize hck : cAt 8 x0 x1 x2 x3 2 = ck at hcb ⊢
          have Hck := Lib.hid hck
          have hcb1 := hcb.1
          have hcb2 := hcb.2
          have k1 : decide ((x2 : Int) < 128) = false := by simp; omega
          have k2 : decide ((191 : Int) < (x2 : Int)) = false := by simp; omega
          have HL := Lib.hid hl
          clear hok hck hcb hnk hcc hl
          go_wp2_with fail
          go_quiet (fail)
          go_wp2
          go_roundw
          case rel => have hl := HL.out; exact ⟨3, by omega, by omega, by omega, rfl, by rw [← Hck.out]; rfl, ⟨fun _ => hl.1 (by omega), fun _ => Hok.out, fun h => absurd h (by omega)⟩, below_drewN hbw _⟩
          case measure => simp [RowKit.intOf]
        · have hok' : cont x2 = false := by simpa [okAt] using hok
          have e := nx_bad (x3 := x3) (by omega) (by rw [Hz.out]; omega) hl hkn hok'
          have He := Lib.hid e
          have hcc := cont_iff.2.1 hok'
          by_cases hlo : x2 < 128
          · have k1 : ((x2 : Int) < 128) := by omega
            clear hok hok' e hnk hcc hlo hl
            go_wp2_with fail
            go_quiet (fail)
            go_wp2
            go_ret3
            exact ⟨by rw [He.out]; rfl, below_drewN hbw _⟩
          · have k1 : decide ((x2 : Int) < 128) = false := by simp; omega
            have k2 : (191 : Int) < (x2 : Int) := by omega
            clear hok hok' e hnk hcc hlo hl
            go_wp2_with fail
            go_quiet (fail)
            go_wp2
            go_ret3
            exact ⟨by rw [He.out]; rfl, below_drewN hbw _⟩
    · -- round 3
      have HW := Lib.hid (c_bd (m := 8) (by omega) hx1 hx2 hx3 hl (by omega) (by omega))
      by_cases hnk : n = 3
      · have e := nx_short (x3 := x3) (by omega) (by rw [Hz.out]; omega) hl hnk
        subst hnk
        have He := Lib.hid e
        clear e
        go_wp2
        go_ret3
        exact ⟨by rw [He.out]; rfl, hbw⟩
      · have hkn : 3 < n := by omega
        have hne : (((3 : Int)) == ((n : Nat) : Int)) = false := by simp; omega
        have hne2 : (((3 : Nat)) == n) = false := by simp; omega
        have hlt : (3 : Int) < (n : Int) := by omega
        have cw : wr.cell? ⟨b, off + 3, none⟩ = some (.int .u8 x3) := by rw [hbw.cell (p := ⟨b, off + 3, none⟩) hb]; exact HC3.out hkn
        have cw0 : wr.cell? ⟨b, off, none⟩ = some (.int .u8 x0) := by rw [hbw.cell (p := ⟨b, off, none⟩) hb]; exact hc
        by_cases hok : okAt x0 x1 x2 x3 3 = true
        · have hcc := cont_iff.1.1 (show cont x3 = true from hok)
          have Hok := Lib.hid hok
          have hcb := HW.out
          generalize hck : cAt 8 x0 x1 x2 x3 3 = ck at hcb ⊢
          have Hck := Lib.hid hck
          have hcb1 := hcb.1
          have hcb2 := hcb.2
          have k1 : decide ((x3 : Int) < 128) = false := by simp; omega
          have k2 : decide ((191 : Int) < (x3 : Int)) = false := by simp; omega
          have HL := Lib.hid hl
          clear hok hck hcb hnk hcc hl
          go_wp2_with fail
          go_quiet (fail)
          go_wp2
          go_roundw
          case rel => have hl := HL.out; exact ⟨4, by omega, by omega, by omega, rfl, by rw [← Hck.out]; rfl, ⟨fun _ => hl.1 (by omega), fun _ => hl.2.1 (by omega), fun _ => Hok.out⟩, below_drewN hbw _⟩
          case measure => simp [RowKit.intOf]
        · have hok' : cont x3 = false := by simpa [okAt] using hok
          have e := nx_bad (x3 := x3) (by omega) (by rw [Hz.out]; omega) hl hkn hok'
          have He := Lib.hid e
          have hcc := cont_iff.2.1 hok'
          by_cases hlo : x3 < 128
          · have k1 : ((x3 : Int) < 128) := by omega
            clear hok hok' e hnk hcc hlo hl
            go_wp2_with fail
            go_quiet (fail)
            go_wp2
            go_ret3
            exact ⟨by rw [He.out]; rfl, below_drewN hbw _⟩
          · have k1 : decide ((x3 : Int) < 128) = false := by simp; omega
            have k2 : (191 : Int) < (x3 : Int) := by omega
            clear hok hok' e hnk hcc hlo hl
            go_wp2_with fail
            go_quiet (fail)
            go_wp2
            go_ret3
            exact ⟨by rw [He.out]; rfl, below_drewN hbw _⟩
    · have e := nx_end (n := n) (m := 8) Hz.out (by omega) hl hkn
      have He := Lib.hid e
      clear e
      go_wp2
      go_ret3
      exact ⟨by rw [He.out]; rfl, hbw⟩

/-- The reference's Next at every slice of bytes. -/
theorem nextRef (l : List UInt8) (A : Option Addr) (cap : Nat) (w : World) (hA : BytesAt w A l) (hm : l.length ≤ 140737488355328) :
    Calls Tryd.prog 46 #[.slice A l.length cap] w fun e w' => e = .returned (res3 (next l)) ∧ Below w.heap.size w w' := by
  by_cases h0 : l = []
  · subst h0; exact ref_empty A cap w
  · obtain ⟨b, off, rfl, _, hc⟩ := hA h0
    have hn : 0 < l.length := List.length_pos_iff.2 h0
    have c0 : w.cell? ⟨b, off, none⟩ = some (.int .u8 (bt l 0 : Int)) := hc 0 hn
    unfold next
    rcases size_cases (bt l 0) with h | h | h | h | h
    · have e : nextN l.length (bt l 0) (bt l 1) (bt l 2) (bt l 3) = (0, 1, 8) := by unfold nextN; rw [if_neg (by omega), if_pos h]
      rw [e]; exact ref_zero b off _ cap _ w (by omega) (bt_lt _ _) c0 h
    · have e : nextN l.length (bt l 0) (bt l 1) (bt l 2) (bt l 3) = (bt l 0, 1, 0) := by unfold nextN; rw [if_neg (by omega), if_neg (by omega), if_pos h]
      rw [e]; exact ref_one b off _ cap _ w (by omega) (bt_lt _ _) c0 h
    · exact ref_of2 b off _ cap _ _ _ _ w (by omega) (bt_lt _ _) (bt_lt _ _) (bt_lt _ _) (bt_lt _ _) hm c0 (hc 1) h
    · exact ref_of3 b off _ cap _ _ _ _ w (by omega) (bt_lt _ _) (bt_lt _ _) (bt_lt _ _) (bt_lt _ _) hm c0 (hc 1) (hc 2) h
    · exact ref_of4 b off _ cap _ _ _ _ w (by omega) (bt_lt _ _) (bt_lt _ _) (bt_lt _ _) (bt_lt _ _) hm c0 (hc 1) (hc 2) (hc 3) h

end Go.Proofs.YtbflcikfaoojmaaDoor.Utf

/- Texts joined: UtfF; UtfN. -/
import Derived.Test.YtcakeolnokninaaDoorGA
import Derived.Deep.QuietTactic
import Derived.BigQuiet
/- utf8.FullRune and the program's 'beginning', walked. -/
set_option linter.unusedVariables false
namespace Go.Proofs.YtcakeolnokninaaDoor.Utf
open Go.RowKit Go.Lib Go.Shelf UtfP

theorem fullRune_empty (A : Option Addr) (cap : Nat) (w : World) :
    Calls Tryd.prog 81 #[.slice A 0 cap] w fun e w' => e = .returned (.bool false) ∧ Below w.heap.size w w' := by
  go_enter Tryd.func81, Tryd.ntmps81
  go_wp2
  go_ret
  exact ⟨rfl, Below.refl _ _⟩

set_option maxRecDepth 100000 in
set_option maxHeartbeats 2000000 in
theorem fullRune_yes (b off n cap x0 x : Nat) (w : World) (hn : (0 : Int) < n) (hs0 : w.cell? ⟨b, off, none⟩ = some (.int .u8 x0))
    (hx : firstT x0 = x) (hT : Tabs w) (h0 : x0 < 256) (hz : (x : Int) % 8 ≤ n) :
    Calls Tryd.prog 81 #[.slice (some ⟨b, off, none⟩) n cap] w fun e w' => e = .returned (.bool true) ∧ Below w.heap.size w w' := by
  have hc0 := hT.1 x0 h0
  have hX := firstT_cases x0
  rw [hx] at hc0 hX
  clear hT hx
  have h0' : (x0 : Int) < 256 := by omega
  rcases hX with rfl | rfl | rfl | rfl | rfl | rfl | rfl | rfl | rfl
  all_goals
    simp only [Int.cast_ofNat_Int, Int.reduceMod] at hz hc0
    go_enter Tryd.func81, Tryd.ntmps81
    go_wp2
    go_ret
    exact ⟨rfl, Below.refl _ _⟩

set_option maxRecDepth 100000 in
set_option maxHeartbeats 4000000 in
/-- one byte, which asks for more -/
theorem fullRune_no1 (b off cap x0 x : Nat) (w : World) (hs0 : w.cell? ⟨b, off, none⟩ = some (.int .u8 x0))
    (hx : firstT x0 = x) (hT : Tabs w) (h0 : x0 < 256) (hz : 1 < x % 8) :
    Calls Tryd.prog 81 #[.slice (some ⟨b, off, none⟩) 1 cap] w fun e w' => e = .returned (.bool false) ∧ Below w.heap.size w w' := by
  have hc0 := hT.1 x0 h0
  have hX := firstT_cases x0
  rw [hx] at hc0 hX
  have ha := hT.2 (x / 16)
  have h0' : (x0 : Int) < 256 := by omega
  clear hT hx
  rcases hX with rfl | rfl | rfl | rfl | rfl | rfl | rfl | rfl | rfl
  all_goals first | (exfalso; omega) | skip
  all_goals
    replace ha := ha (by decide)
    simp only [Nat.reduceDiv, Nat.reduceMul, Nat.reduceAdd, accLo, accHi, Nat.reduceEqDiff, if_true, if_false, Int.cast_ofNat_Int] at ha hc0
    obtain ⟨ha0, ha1⟩ := ha
    clear hz
    go_enter Tryd.func81, Tryd.ntmps81
    go_wp2
    go_quiet (fail)
    go_wp2
    go_ret
    exact ⟨rfl, below_drewN ((Below.refl _ _).alloc (Nat.le_refl _) _) _⟩

set_option maxRecDepth 100000 in
set_option maxHeartbeats 8000000 in
/-- 2 bytes, the second too low -/
theorem fullRune_lo2 (b off cap x0 x1 x : Nat) (w : World) (hs0 : w.cell? ⟨b, off, none⟩ = some (.int .u8 x0)) (hs1 : w.cell? ⟨b, off + 1, none⟩ = some (.int .u8 x1))
    (hx : firstT x0 = x) (hT : Tabs w) (h0 : x0 < 256) (hz : 2 < x % 8) (c0 : decide ((x1 : Int) < (accLo (x / 16) : Int)) = true) :
    Calls Tryd.prog 81 #[.slice (some ⟨b, off, none⟩) 2 cap] w fun e w' => e = .returned (.bool true) ∧ Below w.heap.size w w' := by
  have hc0 := hT.1 x0 h0
  have hX := firstT_cases x0
  rw [hx] at hc0 hX
  have ha := hT.2 (x / 16)
  have h0' : (x0 : Int) < 256 := by omega
  have hb : b < w.heap.size := block_lt_of_cell hs0
  clear hT hx
  rcases hX with rfl | rfl | rfl | rfl | rfl | rfl | rfl | rfl | rfl
  all_goals first | (exfalso; omega) | skip
  all_goals
    replace ha := ha (by decide)
    simp only [Nat.reduceDiv, Nat.reduceMul, Nat.reduceAdd, accLo, accHi, Nat.reduceEqDiff, if_true, if_false, Int.cast_ofNat_Int] at ha hc0 c0
    obtain ⟨ha0, ha1⟩ := ha
    clear hz
    go_enter Tryd.func81, Tryd.ntmps81
    go_wp2
    go_quiet (fail)
    go_wp2
    go_ret
    exact ⟨rfl, by repeat (first | exact Below.refl _ _ | apply below_drewN | refine Below.alloc ?_ (Nat.le_refl _) _)⟩

set_option maxRecDepth 100000 in
set_option maxHeartbeats 8000000 in
/-- 2 bytes, the second too high -/
theorem fullRune_hi2 (b off cap x0 x1 x : Nat) (w : World) (hs0 : w.cell? ⟨b, off, none⟩ = some (.int .u8 x0)) (hs1 : w.cell? ⟨b, off + 1, none⟩ = some (.int .u8 x1))
    (hx : firstT x0 = x) (hT : Tabs w) (h0 : x0 < 256) (hz : 2 < x % 8) (c0 : decide ((x1 : Int) < (accLo (x / 16) : Int)) = false) (c1 : decide ((accHi (x / 16) : Int) < (x1 : Int)) = true) :
    Calls Tryd.prog 81 #[.slice (some ⟨b, off, none⟩) 2 cap] w fun e w' => e = .returned (.bool true) ∧ Below w.heap.size w w' := by
  have hc0 := hT.1 x0 h0
  have hX := firstT_cases x0
  rw [hx] at hc0 hX
  have ha := hT.2 (x / 16)
  have h0' : (x0 : Int) < 256 := by omega
  have hb : b < w.heap.size := block_lt_of_cell hs0
  clear hT hx
  rcases hX with rfl | rfl | rfl | rfl | rfl | rfl | rfl | rfl | rfl
  all_goals first | (exfalso; omega) | skip
  all_goals
    replace ha := ha (by decide)
    simp only [Nat.reduceDiv, Nat.reduceMul, Nat.reduceAdd, accLo, accHi, Nat.reduceEqDiff, if_true, if_false, Int.cast_ofNat_Int] at ha hc0 c0 c1
    obtain ⟨ha0, ha1⟩ := ha
    clear hz
    go_enter Tryd.func81, Tryd.ntmps81
    go_wp2
    go_quiet (fail)
    go_wp2
    go_ret
    exact ⟨rfl, by repeat (first | exact Below.refl _ _ | apply below_drewN | refine Below.alloc ?_ (Nat.le_refl _) _)⟩

set_option maxRecDepth 100000 in
set_option maxHeartbeats 8000000 in
/-- 3 bytes, the second too low -/
theorem fullRune_lo3 (b off cap x0 x1 x2 x : Nat) (w : World) (hs0 : w.cell? ⟨b, off, none⟩ = some (.int .u8 x0)) (hs1 : w.cell? ⟨b, off + 1, none⟩ = some (.int .u8 x1)) (hs2 : w.cell? ⟨b, off + 2, none⟩ = some (.int .u8 x2))
    (hx : firstT x0 = x) (hT : Tabs w) (h0 : x0 < 256) (hz : 3 < x % 8) (c0 : decide ((x1 : Int) < (accLo (x / 16) : Int)) = true) :
    Calls Tryd.prog 81 #[.slice (some ⟨b, off, none⟩) 3 cap] w fun e w' => e = .returned (.bool true) ∧ Below w.heap.size w w' := by
  have hc0 := hT.1 x0 h0
  have hX := firstT_cases x0
  rw [hx] at hc0 hX
  have ha := hT.2 (x / 16)
  have h0' : (x0 : Int) < 256 := by omega
  have hb : b < w.heap.size := block_lt_of_cell hs0
  clear hT hx
  rcases hX with rfl | rfl | rfl | rfl | rfl | rfl | rfl | rfl | rfl
  all_goals first | (exfalso; omega) | skip
  all_goals
    replace ha := ha (by decide)
    simp only [Nat.reduceDiv, Nat.reduceMul, Nat.reduceAdd, accLo, accHi, Nat.reduceEqDiff, if_true, if_false, Int.cast_ofNat_Int] at ha hc0 c0
    obtain ⟨ha0, ha1⟩ := ha
    clear hz
    go_enter Tryd.func81, Tryd.ntmps81
    go_wp2
    go_quiet (fail)
    go_wp2
    go_ret
    exact ⟨rfl, by repeat (first | exact Below.refl _ _ | apply below_drewN | refine Below.alloc ?_ (Nat.le_refl _) _)⟩

set_option maxRecDepth 100000 in
set_option maxHeartbeats 8000000 in
/-- 3 bytes, the second too high -/
theorem fullRune_hi3 (b off cap x0 x1 x2 x : Nat) (w : World) (hs0 : w.cell? ⟨b, off, none⟩ = some (.int .u8 x0)) (hs1 : w.cell? ⟨b, off + 1, none⟩ = some (.int .u8 x1)) (hs2 : w.cell? ⟨b, off + 2, none⟩ = some (.int .u8 x2))
    (hx : firstT x0 = x) (hT : Tabs w) (h0 : x0 < 256) (hz : 3 < x % 8) (c0 : decide ((x1 : Int) < (accLo (x / 16) : Int)) = false) (c1 : decide ((accHi (x / 16) : Int) < (x1 : Int)) = true) :
    Calls Tryd.prog 81 #[.slice (some ⟨b, off, none⟩) 3 cap] w fun e w' => e = .returned (.bool true) ∧ Below w.heap.size w w' := by
  have hc0 := hT.1 x0 h0
  have hX := firstT_cases x0
  rw [hx] at hc0 hX
  have ha := hT.2 (x / 16)
  have h0' : (x0 : Int) < 256 := by omega
  have hb : b < w.heap.size := block_lt_of_cell hs0
  clear hT hx
  rcases hX with rfl | rfl | rfl | rfl | rfl | rfl | rfl | rfl | rfl
  all_goals first | (exfalso; omega) | skip
  all_goals
    replace ha := ha (by decide)
    simp only [Nat.reduceDiv, Nat.reduceMul, Nat.reduceAdd, accLo, accHi, Nat.reduceEqDiff, if_true, if_false, Int.cast_ofNat_Int] at ha hc0 c0 c1
    obtain ⟨ha0, ha1⟩ := ha
    clear hz
    go_enter Tryd.func81, Tryd.ntmps81
    go_wp2
    go_quiet (fail)
    go_wp2
    go_ret
    exact ⟨rfl, by repeat (first | exact Below.refl _ _ | apply below_drewN | refine Below.alloc ?_ (Nat.le_refl _) _)⟩

set_option maxRecDepth 100000 in
set_option maxHeartbeats 8000000 in
/-- 2 bytes, a beginning -/
theorem fullRune_in2 (b off cap x0 x1 x : Nat) (w : World) (hs0 : w.cell? ⟨b, off, none⟩ = some (.int .u8 x0)) (hs1 : w.cell? ⟨b, off + 1, none⟩ = some (.int .u8 x1))
    (hx : firstT x0 = x) (hT : Tabs w) (h0 : x0 < 256) (hz : 2 < x % 8) (c0 : decide ((x1 : Int) < (accLo (x / 16) : Int)) = false) (c1 : decide ((accHi (x / 16) : Int) < (x1 : Int)) = false) :
    Calls Tryd.prog 81 #[.slice (some ⟨b, off, none⟩) 2 cap] w fun e w' => e = .returned (.bool false) ∧ Below w.heap.size w w' := by
  have hc0 := hT.1 x0 h0
  have hX := firstT_cases x0
  rw [hx] at hc0 hX
  have ha := hT.2 (x / 16)
  have h0' : (x0 : Int) < 256 := by omega
  have hb : b < w.heap.size := block_lt_of_cell hs0
  clear hT hx
  rcases hX with rfl | rfl | rfl | rfl | rfl | rfl | rfl | rfl | rfl
  all_goals first | (exfalso; omega) | skip
  all_goals
    replace ha := ha (by decide)
    simp only [Nat.reduceDiv, Nat.reduceMul, Nat.reduceAdd, accLo, accHi, Nat.reduceEqDiff, if_true, if_false, Int.cast_ofNat_Int] at ha hc0 c0 c1
    obtain ⟨ha0, ha1⟩ := ha
    clear hz
    go_enter Tryd.func81, Tryd.ntmps81
    go_wp2
    go_quiet (fail)
    go_wp2
    go_ret
    exact ⟨rfl, by repeat (first | exact Below.refl _ _ | apply below_drewN | refine Below.alloc ?_ (Nat.le_refl _) _)⟩

set_option maxRecDepth 100000 in
set_option maxHeartbeats 8000000 in
/-- 3 bytes, the third too low -/
theorem fullRune_lo33 (b off cap x0 x1 x2 x : Nat) (w : World) (hs0 : w.cell? ⟨b, off, none⟩ = some (.int .u8 x0)) (hs1 : w.cell? ⟨b, off + 1, none⟩ = some (.int .u8 x1)) (hs2 : w.cell? ⟨b, off + 2, none⟩ = some (.int .u8 x2))
    (hx : firstT x0 = x) (hT : Tabs w) (h0 : x0 < 256) (hz : 3 < x % 8) (c0 : decide ((x1 : Int) < (accLo (x / 16) : Int)) = false) (c1 : decide ((accHi (x / 16) : Int) < (x1 : Int)) = false) (c2 : decide ((x2 : Int) < 128) = true) :
    Calls Tryd.prog 81 #[.slice (some ⟨b, off, none⟩) 3 cap] w fun e w' => e = .returned (.bool true) ∧ Below w.heap.size w w' := by
  have hc0 := hT.1 x0 h0
  have hX := firstT_cases x0
  rw [hx] at hc0 hX
  have ha := hT.2 (x / 16)
  have h0' : (x0 : Int) < 256 := by omega
  have hb : b < w.heap.size := block_lt_of_cell hs0
  clear hT hx
  rcases hX with rfl | rfl | rfl | rfl | rfl | rfl | rfl | rfl | rfl
  all_goals first | (exfalso; omega) | skip
  all_goals
    replace ha := ha (by decide)
    simp only [Nat.reduceDiv, Nat.reduceMul, Nat.reduceAdd, accLo, accHi, Nat.reduceEqDiff, if_true, if_false, Int.cast_ofNat_Int] at ha hc0 c0 c1 c2
    obtain ⟨ha0, ha1⟩ := ha
    clear hz
    go_enter Tryd.func81, Tryd.ntmps81
    go_wp2
    go_quiet (fail)
    go_wp2
    go_ret
    exact ⟨rfl, by repeat (first | exact Below.refl _ _ | apply below_drewN | refine Below.alloc ?_ (Nat.le_refl _) _)⟩

set_option maxRecDepth 100000 in
set_option maxHeartbeats 8000000 in
/-- 3 bytes, the third too high -/
theorem fullRune_hi33 (b off cap x0 x1 x2 x : Nat) (w : World) (hs0 : w.cell? ⟨b, off, none⟩ = some (.int .u8 x0)) (hs1 : w.cell? ⟨b, off + 1, none⟩ = some (.int .u8 x1)) (hs2 : w.cell? ⟨b, off + 2, none⟩ = some (.int .u8 x2))
    (hx : firstT x0 = x) (hT : Tabs w) (h0 : x0 < 256) (hz : 3 < x % 8) (c0 : decide ((x1 : Int) < (accLo (x / 16) : Int)) = false) (c1 : decide ((accHi (x / 16) : Int) < (x1 : Int)) = false) (c2 : decide ((x2 : Int) < 128) = false) (c3 : decide ((191 : Int) < x2) = true) :
    Calls Tryd.prog 81 #[.slice (some ⟨b, off, none⟩) 3 cap] w fun e w' => e = .returned (.bool true) ∧ Below w.heap.size w w' := by
  have hc0 := hT.1 x0 h0
  have hX := firstT_cases x0
  rw [hx] at hc0 hX
  have ha := hT.2 (x / 16)
  have h0' : (x0 : Int) < 256 := by omega
  have hb : b < w.heap.size := block_lt_of_cell hs0
  clear hT hx
  rcases hX with rfl | rfl | rfl | rfl | rfl | rfl | rfl | rfl | rfl
  all_goals first | (exfalso; omega) | skip
  all_goals
    replace ha := ha (by decide)
    simp only [Nat.reduceDiv, Nat.reduceMul, Nat.reduceAdd, accLo, accHi, Nat.reduceEqDiff, if_true, if_false, Int.cast_ofNat_Int] at ha hc0 c0 c1 c2 c3
    obtain ⟨ha0, ha1⟩ := ha
    clear hz
    go_enter Tryd.func81, Tryd.ntmps81
    go_wp2
    go_quiet (fail)
    go_wp2
    go_ret
    exact ⟨rfl, by repeat (first | exact Below.refl _ _ | apply below_drewN | refine Below.alloc ?_ (Nat.le_refl _) _)⟩

set_option maxRecDepth 100000 in
set_option maxHeartbeats 8000000 in
/-- 3 bytes, a beginning -/
theorem fullRune_in3 (b off cap x0 x1 x2 x : Nat) (w : World) (hs0 : w.cell? ⟨b, off, none⟩ = some (.int .u8 x0)) (hs1 : w.cell? ⟨b, off + 1, none⟩ = some (.int .u8 x1)) (hs2 : w.cell? ⟨b, off + 2, none⟩ = some (.int .u8 x2))
    (hx : firstT x0 = x) (hT : Tabs w) (h0 : x0 < 256) (hz : 3 < x % 8) (c0 : decide ((x1 : Int) < (accLo (x / 16) : Int)) = false) (c1 : decide ((accHi (x / 16) : Int) < (x1 : Int)) = false) (c2 : decide ((x2 : Int) < 128) = false) (c3 : decide ((191 : Int) < x2) = false) :
    Calls Tryd.prog 81 #[.slice (some ⟨b, off, none⟩) 3 cap] w fun e w' => e = .returned (.bool false) ∧ Below w.heap.size w w' := by
  have hc0 := hT.1 x0 h0
  have hX := firstT_cases x0
  rw [hx] at hc0 hX
  have ha := hT.2 (x / 16)
  have h0' : (x0 : Int) < 256 := by omega
  have hb : b < w.heap.size := block_lt_of_cell hs0
  clear hT hx
  rcases hX with rfl | rfl | rfl | rfl | rfl | rfl | rfl | rfl | rfl
  all_goals first | (exfalso; omega) | skip
  all_goals
    replace ha := ha (by decide)
    simp only [Nat.reduceDiv, Nat.reduceMul, Nat.reduceAdd, accLo, accHi, Nat.reduceEqDiff, if_true, if_false, Int.cast_ofNat_Int] at ha hc0 c0 c1 c2 c3
    obtain ⟨ha0, ha1⟩ := ha
    clear hz
    go_enter Tryd.func81, Tryd.ntmps81
    go_wp2
    go_quiet (fail)
    go_wp2
    go_ret
    exact ⟨rfl, by repeat (first | exact Below.refl _ _ | apply below_drewN | refine Below.alloc ?_ (Nat.le_refl _) _)⟩

/-- utf8.FullRune at every slice of bytes. -/
theorem fullRune (l : List UInt8) (A : Option Addr) (cap : Nat) (w : World) (hT : Tabs w) (hA : BytesAt w A l) :
    Calls Tryd.prog 81 #[.slice A l.length cap] w fun e w' => e = .returned (.bool (fullN l.length (bt l 0) (bt l 1) (bt l 2))) ∧ Below w.heap.size w w' := by
  by_cases h0 : l = []
  · subst h0; exact fullRune_empty A cap w
  · obtain ⟨b, off, rfl, _, hc⟩ := hA h0
    have hn : 0 < l.length := List.length_pos_iff.2 h0
    have l0 := bt_lt l 0
    have c0 : w.cell? ⟨b, off, none⟩ = some (.int .u8 (bt l 0 : Int)) := hc 0 hn
    obtain ⟨x, hx⟩ : ∃ x, firstT (bt l 0) = x := ⟨_, rfl⟩
    have hX := firstT_cases (bt l 0)
    unfold fullN
    rw [if_neg (by omega), hx]
    by_cases hz : x % 8 ≤ l.length
    · rw [if_pos hz]
      exact fullRune_yes b off l.length cap (bt l 0) x w (by omega) c0 hx hT l0 (by omega)
    · rw [if_neg hz]
      have h4 : x % 8 ≤ 4 := by rw [hx] at hX; omega
      have hl : l.length = 1 ∨ l.length = 2 ∨ l.length = 3 := by omega
      rcases hl with hl | hl | hl
      · rw [hl] at hz ⊢
        rw [if_neg (by omega), if_neg (by omega)]
        exact fullRune_no1 b off cap (bt l 0) x w c0 hx hT l0 (by omega)
      · have c1 := hc 1 (by omega)
        rw [hl] at hz ⊢
        by_cases k1 : bt l 1 < accLo (x / 16)
        · rw [if_pos ⟨by omega, Or.inl k1⟩]
          exact fullRune_lo2 b off cap _ _ x w c0 c1 hx hT l0 (by omega) (by simp; omega)
        · by_cases k2 : accHi (x / 16) < bt l 1
          · rw [if_pos ⟨by omega, Or.inr k2⟩]
            exact fullRune_hi2 b off cap _ _ x w c0 c1 hx hT l0 (by omega) (by simp; omega) (by simp; omega)
          · rw [if_neg (by omega), if_neg (by omega)]
            exact fullRune_in2 b off cap _ _ x w c0 c1 hx hT l0 (by omega) (by simp; omega) (by simp; omega)
      · have c1 := hc 1 (by omega)
        have c2 := hc 2 (by omega)
        rw [hl] at hz ⊢
        by_cases k1 : bt l 1 < accLo (x / 16)
        · rw [if_pos ⟨by omega, Or.inl k1⟩]
          exact fullRune_lo3 b off cap _ _ _ x w c0 c1 c2 hx hT l0 (by omega) (by simp; omega)
        · by_cases k2 : accHi (x / 16) < bt l 1
          · rw [if_pos ⟨by omega, Or.inr k2⟩]
            exact fullRune_hi3 b off cap _ _ _ x w c0 c1 c2 hx hT l0 (by omega) (by simp; omega) (by simp; omega)
          · rw [if_neg (by omega)]
            by_cases k3 : bt l 2 < 128
            · rw [if_pos ⟨by omega, Or.inl k3⟩]
              exact fullRune_lo33 b off cap _ _ _ x w c0 c1 c2 hx hT l0 (by omega) (by simp; omega) (by simp; omega) (by simp; omega)
            · by_cases k4 : 191 < bt l 2
              · rw [if_pos ⟨by omega, Or.inr k4⟩]
                exact fullRune_hi33 b off cap _ _ _ x w c0 c1 c2 hx hT l0 (by omega) (by simp; omega) (by simp; omega) (by simp; omega) (by simp; omega)
              · rw [if_neg (by omega)]
                exact fullRune_in3 b off cap _ _ _ x w c0 c1 c2 hx hT l0 (by omega) (by simp; omega) (by simp; omega) (by simp; omega) (by simp; omega)

end Go.Proofs.YtcakeolnokninaaDoor.Utf

/- utf.Next, walked. -/
set_option linter.unusedVariables false
namespace Go.Proofs.YtcakeolnokninaaDoor.Utf
open Go.RowKit Go.Lib Go.Shelf UtfP

def beg (l : List UInt8) : Bool := begN l.length (bt l 0) (bt l 1) (bt l 2)

set_option maxHeartbeats 1000000 in
theorem beginning (l : List UInt8) (A : Option Addr) (cap : Nat) (w : World) (hT : Tabs w) (hA : BytesAt w A l) :
    Calls Tryd.prog 77 #[.slice A l.length cap] w fun e w' => e = .returned (.bool (beg l)) ∧ Below w.heap.size w w' := by
  have C := fullRune l A cap w hT hA
  unfold beg begN
  generalize fullN l.length (bt l 0) (bt l 1) (bt l 2) = f at C
  have HC := Lib.hid C
  clear C hT hA
  by_cases h0 : 0 < l.length
  · by_cases h4 : l.length < 4
    · have h0' : (0 : Int) < (l.length : Int) := by omega
      have h4' : (l.length : Int) < 4 := by omega
      rw [decide_eq_true ⟨h0, h4⟩]
      clear h0 h4
      generalize l.length = n at *
      go_enter Tryd.func77, Tryd.ntmps77
      go_wp2_with (go_at_call 81; refine HC.out.mono ?_; rintro e w' ⟨rfl, hb⟩)
      go_ret
      exact ⟨by simp, hb⟩
    · have h0' : (0 : Int) < (l.length : Int) := by omega
      have h4' : decide ((l.length : Int) < 4) = false := by simp; omega
      rw [decide_eq_false (by omega)]
      clear h0 h4
      generalize l.length = n at *
      go_enter Tryd.func77, Tryd.ntmps77
      go_wp2
      go_ret
      exact ⟨by simp, Below.refl _ _⟩
  · rw [decide_eq_false (by omega), show l.length = 0 by omega]
    clear h0
    go_enter Tryd.func77, Tryd.ntmps77
    go_wp2
    go_ret
    exact ⟨by simp, Below.refl _ _⟩

theorem Tabs.below {w w' : World} (h : Tabs w) (hb : Below w.heap.size w w') : Tabs w' := by
  have hs : ∀ b o v, w.cell? ⟨b, o, none⟩ = some v → w'.cell? ⟨b, o, none⟩ = some v := fun b o v hv => by
    rw [hb.cell (p := ⟨b, o, none⟩) (block_lt_of_cell hv)]; exact hv
  exact ⟨fun c hc => hs _ _ _ (h.1 c hc), fun i hi => ⟨hs _ _ _ (h.2 i hi).1, hs _ _ _ (h.2 i hi).2⟩⟩

theorem BytesAt.below {w w' : World} {A : Option Addr} {l : List UInt8} (h : BytesAt w A l) (hb : Below w.heap.size w w') : BytesAt w' A l := by
  intro hne
  obtain ⟨b, off, rfl, hlt, hc⟩ := h hne
  refine ⟨b, off, rfl, by have := hb.size; omega, fun j hj => ?_⟩
  rw [hb.cell (p := ⟨b, off + j, none⟩) hlt]
  exact hc j hj

theorem BytesAt.take {w : World} {A : Option Addr} {l : List UInt8} (h : BytesAt w A l) (k : Nat) : BytesAt w A (l.take k) := by
  intro hne
  have hl : l ≠ [] := by rintro rfl; simp at hne
  obtain ⟨b, off, rfl, hlt, hc⟩ := h hl
  refine ⟨b, off, rfl, hlt, fun j hj => ?_⟩
  have hj' : j < k ∧ j < l.length := by rw [List.length_take] at hj; omega
  rw [hc j hj'.2]
  have : bt (l.take k) j = bt l j := by
    unfold bt
    rw [List.getD_eq_getElem?_getD, List.getD_eq_getElem?_getD, List.getElem?_take_of_lt hj'.1]
  rw [this]

theorem bt_take {l : List UInt8} {k j : Nat} (h : j < k) : bt (l.take k) j = bt l j := by
  unfold bt
  rw [List.getD_eq_getElem?_getD, List.getD_eq_getElem?_getD, List.getElem?_take_of_lt h]

/-- what the loop's test asks of the first k + 1 bytes -/
theorem beg_take {l : List UInt8} {k : Nat} (hk : k < l.length) : beg (l.take (k + 1)) = begN (k + 1) (bt l 0) (bt l 1) (bt l 2) := by
  have hl : (l.take (k + 1)).length = k + 1 := by simp; omega
  unfold beg
  rw [hl, bt_take (show 0 < k + 1 by omega)]
  rcases Nat.lt_or_ge k 1 with h1 | h1
  · obtain rfl : k = 0 := by omega
    rw [begN_one (bt_lt _ _), begN_one (bt_lt _ _)]
  · rw [bt_take (show 1 < k + 1 by omega)]
    rcases Nat.lt_or_ge k 2 with h2 | h2
    · obtain rfl : k = 1 := by omega
      rw [begN_two (bt_lt _ _), begN_two (bt_lt _ _)]
    · rw [bt_take (show 2 < k + 1 by omega)]

def res3 (r : Nat × Nat × Nat) : Value := .tuple #[.int .i64 (r.1 : Int), .int .i64 (r.2.1 : Int), .int .i64 (r.2.2 : Int)]

theorem dec_lt (l : List UInt8) : (dec l).1 < 1114112 ∧ (dec l).2 ≤ 4 := by
  unfold dec decodeN
  have := bt_lt l 0
  repeat' split
  all_goals (constructor <;> simp only <;> omega)

set_option maxHeartbeats 1000000 in
theorem next_empty (A : Option Addr) (cap : Nat) (w : World) :
    Calls Tryd.prog 63 #[.slice A 0 cap] w fun e w' => e = .returned (res3 (0, 0, 6)) ∧ Below w.heap.size w w' := by
  go_enter Tryd.func63, Tryd.ntmps63
  go_wp2
  go_ret3
  exact ⟨rfl, Below.refl _ _⟩

set_option maxHeartbeats 1000000 in
theorem next_good (l : List UInt8) (A : Option Addr) (cap : Nat) (w : World) (hT : Tabs w) (hA : BytesAt w A l) (hne : l ≠ []) (hg : (dec l).1 ≠ 65533 ∨ 1 < (dec l).2) :
    Calls Tryd.prog 63 #[.slice A l.length cap] w fun e w' => e = .returned (res3 ((dec l).1, (dec l).2, 0)) ∧ Below w.heap.size w w' := by
  have C := decodeRune l A cap w hT hA hne
  have hl : l.length ≠ 0 := fun h => hne (List.eq_nil_of_length_eq_zero h)
  have hd := dec_lt l
  generalize (dec l).1 = c at *
  generalize (dec l).2 = k at *
  have HC := Lib.hid C
  clear C hT hA hne
  generalize l.length = n at *
  have hn0 : (((n : Nat) : Int) == 0) = false := by simp; omega
  have hc := hd.1
  have hk := hd.2
  clear hd hl
  by_cases h1 : c ≠ 65533
  · have hb : (((c : Nat) : Int) != 65533) = true := by rw [bne_iff_ne]; omega
    clear h1 hg
    go_enter Tryd.func63, Tryd.ntmps63
    go_wp2_with (go_at_call 76; refine HC.out.mono ?_; rintro e w' ⟨rfl, hb⟩)
    go_ret3
    exact ⟨by simp [res3], hb⟩
  · have hb : (((c : Nat) : Int) != 65533) = false := by simp; omega
    have hk1 : (1 : Int) < (k : Int) := by omega
    clear h1 hg
    go_enter Tryd.func63, Tryd.ntmps63
    go_wp2_with (go_at_call 76; refine HC.out.mono ?_; rintro e w' ⟨rfl, hb⟩)
    go_ret3
    exact ⟨by simp [res3], hb⟩

set_option maxHeartbeats 1000000 in
theorem next_short (l : List UInt8) (A : Option Addr) (cap : Nat) (w : World) (hT : Tabs w) (hA : BytesAt w A l) (hne : l ≠ []) (hg : dec l = (65533, 1)) (hs : beg l = true) :
    Calls Tryd.prog 63 #[.slice A l.length cap] w fun e w' => e = .returned (res3 (0, l.length, 7)) ∧ Below w.heap.size w w' := by
  have C := decodeRune l A cap w hT hA hne
  have D : ∀ w', Below w.heap.size w w' → Calls Tryd.prog 77 #[.slice A l.length cap] w' fun e w'' => e = .returned (.bool true) ∧ Below w'.heap.size w' w'' := fun w' hb => by
    have := beginning l A cap w' (hT.below hb) (hA.below hb)
    rwa [hs] at this
  have hl : l.length ≠ 0 := fun h => hne (List.eq_nil_of_length_eq_zero h)
  rw [hg] at C
  have HC := Lib.hid C
  have HD := Lib.hid D
  clear C D hT hA hne hg hs
  generalize l.length = n at *
  have hn0 : (((n : Nat) : Int) == 0) = false := by simp; omega
  clear hl
  go_enter Tryd.func63, Tryd.ntmps63
  go_wp2_with (go_at_call 76; refine HC.out.mono ?_; rintro e w' ⟨rfl, hb⟩)
  go_wp2_with (go_at_call 77; refine (HD.out _ hb).mono ?_; rintro e w'' ⟨rfl, hb'⟩)
  go_ret3
  exact ⟨by simp [res3], hb.trans (hb'.mono hb.size)⟩

theorem run_le (d : Nat) : ∀ k n b0 b1 b2, k ≤ runsN d k n b0 b1 b2 ∧ (k ≤ n → runsN d k n b0 b1 b2 ≤ n) := by
  induction d with
  | zero => intro k n _ _ _; exact ⟨Nat.le_refl _, fun h => h⟩
  | succ d ih =>
    intro k n b0 b1 b2
    unfold runsN
    split
    · have := ih (k + 1) n b0 b1 b2
      exact ⟨by omega, fun _ => this.2 (by omega)⟩
    · exact ⟨Nat.le_refl _, fun h => h⟩

set_option maxHeartbeats 1000000 in
theorem next_form (l : List UInt8) (A : Option Addr) (cap : Nat) (w : World) (hT : Tabs w) (hA : BytesAt w A l) (hne : l ≠ []) (hcap : l.length ≤ cap) (hm : l.length ≤ 140737488355328) (hg : dec l = (65533, 1)) (hs : beg l = false) :
    Calls Tryd.prog 63 #[.slice A l.length cap] w fun e w' => e = .returned (res3 (0, runsN 3 1 l.length (bt l 0) (bt l 1) (bt l 2), 8)) ∧ Below w.heap.size w w' := by
  have C := decodeRune l A cap w hT hA hne
  have D : ∀ w', Below w.heap.size w w' → Calls Tryd.prog 77 #[.slice A l.length cap] w' fun e w'' => e = .returned (.bool false) ∧ Below w'.heap.size w' w'' := fun w' hb => by
    have := beginning l A cap w' (hT.below hb) (hA.below hb)
    rwa [hs] at this
  have D2 : ∀ (k : Nat) w', Below w.heap.size w w' → k < l.length → Calls Tryd.prog 77 #[.slice A (k + 1) cap] w' fun e w'' => e = .returned (.bool (begN (k + 1) (bt l 0) (bt l 1) (bt l 2))) ∧ Below w'.heap.size w' w'' := fun k w' hb hk => by
    have := beginning (l.take (k + 1)) A cap w' (hT.below hb) ((hA.below hb).take (k + 1))
    rwa [beg_take hk, show (l.take (k + 1)).length = k + 1 by simp; omega] at this
  have hl : l.length ≠ 0 := fun h => hne (List.eq_nil_of_length_eq_zero h)
  rw [hg] at C
  have HC := Lib.hid C
  have HD := Lib.hid D
  have HD2 := Lib.hid D2
  clear C D D2 hT hA hne hg hs
  generalize bt l 0 = b0 at *
  generalize bt l 1 = b1 at *
  generalize bt l 2 = b2 at *
  generalize l.length = n at *
  have hn0 : (((n : Nat) : Int) == 0) = false := by simp; omega
  go_enter Tryd.func63, Tryd.ntmps63
  go_wp2_with (go_at_call 76; refine HC.out.mono ?_; rintro e w' ⟨rfl, hb⟩)
  go_wp2_with (go_at_call 77; refine (HD.out _ hb).mono ?_; rintro e w'' ⟨rfl, hb'⟩)
  have hB : Below w.heap.size w w'' := hb.trans (hb'.mono hb.size)
  clear hb hb'
  clear hn0
  go_loopw [6] (fun i wr => ∃ k d : Nat, 1 ≤ k ∧ k ≤ n ∧ d + k = 4 ∧ i = .int .i64 k ∧ runsN d k n b0 b1 b2 = runsN 3 1 n b0 b1 b2 ∧ Below w.heap.size w wr) (fun i _ => n - (RowKit.intOf i).toNat)
  case atStart => exact ⟨1, 3, by omega, by omega, by omega, rfl, rfl, hB⟩
  case round =>
    obtain ⟨k, d, h1, h2, h3, rfl, hr, hbw⟩ := hrel
    have Hr := Lib.hid hr
    clear hr
    by_cases hlt : k < n
    · have hlt' : (k : Int) < (n : Int) := by omega
      have hsum : IntKind.i64.wrap ((k : Int) + 1) = (k : Int) + 1 := IntWalk.i64_in _ (by omega)
      by_cases hbeg : begN (k + 1) b0 b1 b2 = true
      · have D3 := HD2.out k wr hbw hlt
        rw [hbeg] at D3
        have HD3 := Lib.hid D3
        clear D3
        have hk3 : k < 3 := by
          rcases Nat.lt_or_ge k 3 with h | h
          · exact h
          · rw [begN_more (by omega)] at hbeg; exact absurd hbeg Bool.false_ne_true
        have Hb := Lib.hid hbeg
        clear hbeg hsum
        go_wp2_with (go_at_call 77; refine HD3.out.mono ?_; rintro e w3 ⟨rfl, hb3⟩)
        go_roundw
        case rel =>
          refine ⟨k + 1, d - 1, by omega, by omega, by omega, by go_num, ?_, hbw.trans (hb3.mono hbw.size)⟩
          rw [← Hr.out]
          obtain ⟨d, rfl⟩ : ∃ d', d = d' + 1 := ⟨d - 1, by omega⟩
          conv => rhs; unfold runsN
          rw [if_pos ⟨hlt, Hb.out⟩]; rfl
        case measure => simp [RowKit.intOf]; omega
      · have hbeg' : begN (k + 1) b0 b1 b2 = false := by simpa using hbeg
        have D3 := HD2.out k wr hbw hlt
        rw [hbeg'] at D3
        have HD3 := Lib.hid D3
        have Hb := Lib.hid hbeg'
        clear D3 hbeg hsum hbeg'
        go_wp2_with (go_at_call 77; refine HD3.out.mono ?_; rintro e w3 ⟨rfl, hb3⟩)
        go_ret3
        refine ⟨?_, hbw.trans (hb3.mono hbw.size)⟩
        rw [← Hr.out]
        have : runsN d k n b0 b1 b2 = k := by
          cases d with
          | zero => rfl
          | succ d => unfold runsN; rw [if_neg (fun h => by rw [Hb.out] at h; exact Bool.false_ne_true h.2)]
        rw [this]; simp [res3]
    · have hge : decide ((k : Int) < (n : Int)) = false := by simp; omega
      have hge' : decide (k < n) = false := by simp; omega
      go_wp2
      go_ret3
      refine ⟨?_, hbw⟩
      rw [← Hr.out]
      have : runsN d k n b0 b1 b2 = k := by
        cases d with
        | zero => rfl
        | succ d => unfold runsN; rw [if_neg (fun h => hlt h.1)]
      rw [this]; simp [res3]

/-- utf.Next at every slice of bytes. -/
theorem nextGo (l : List UInt8) (A : Option Addr) (cap : Nat) (w : World) (hT : Tabs w) (hA : BytesAt w A l) (hcap : l.length ≤ cap) (hm : l.length ≤ 140737488355328) :
    Calls Tryd.prog 63 #[.slice A l.length cap] w fun e w' => e = .returned (res3 (next l)) ∧ Below w.heap.size w w' := by
  have e : next l = goNext l.length (bt l 0) (bt l 1) (bt l 2) (bt l 3) := (goNext_eq (bt_lt _ _) (bt_lt _ _) (bt_lt _ _) (bt_lt _ _)).symm
  rw [e]
  by_cases h0 : l = []
  · subst h0; exact next_empty A cap w
  · have hl : l.length ≠ 0 := fun h => h0 (List.eq_nil_of_length_eq_zero h)
    unfold goNext
    rw [if_neg hl]
    by_cases hg : (dec l).1 ≠ 65533 ∨ 1 < (dec l).2
    · have hg' := hg
      unfold dec at hg'
      rw [if_pos hg']
      exact next_good l A cap w hT hA h0 hg
    · have hd : dec l = (65533, 1) := by
        have h := decode_ok (n := l.length) (by omega) (bt_lt l 0) (bt_lt l 1) (bt_lt l 2) (bt_lt l 3)
        have h' := @next_ok l.length (bt l 0) (bt l 1) (bt l 2) (bt l 3)
        unfold dec at hg ⊢
        rw [h] at hg ⊢
        unfold decOf at hg ⊢
        by_cases he : (nextN l.length (bt l 0) (bt l 1) (bt l 2) (bt l 3)).2.2 = 0
        · rw [if_pos he] at hg; exact absurd (h' he) hg
        · rw [if_neg he]
      have hg' := hg
      unfold dec at hg'
      rw [if_neg hg']
      by_cases hb : begN l.length (bt l 0) (bt l 1) (bt l 2) = true
      · rw [if_pos hb]
        exact next_short l A cap w hT hA h0 hd hb
      · rw [if_neg hb]
        exact next_form l A cap w hT hA h0 hcap hm hd (by unfold beg; simpa using hb)

end Go.Proofs.YtcakeolnokninaaDoor.Utf

/- utf8.FullRune and the program's 'beginning', walked. -/
import Derived.Test.YtbflcikfaoojmaaDoorGA
import Derived.Deep.QuietTactic
import Derived.BigQuiet
set_option linter.unusedVariables false
namespace Go.Proofs.YtbflcikfaoojmaaDoor.Utf
open Go.RowKit Go.Lib Go.Shelf UtfP

theorem fullRune_empty (A : Option Addr) (cap : Nat) (w : World) :
    Calls Tryd.prog 57 #[.slice A 0 cap] w fun e w' => e = .returned (.bool false) ∧ Below w.heap.size w w' := by
  go_enter Tryd.func57, Tryd.ntmps57
  go_wp2
  go_ret
  exact ⟨rfl, Below.refl _ _⟩

set_option maxRecDepth 100000 in
set_option maxHeartbeats 2000000 in
theorem fullRune_yes (b off n cap x0 x : Nat) (w : World) (hn : (0 : Int) < n) (hs0 : w.cell? ⟨b, off, none⟩ = some (.int .u8 x0))
    (hx : firstT x0 = x) (hT : Tabs w) (h0 : x0 < 256) (hz : (x : Int) % 8 ≤ n) :
    Calls Tryd.prog 57 #[.slice (some ⟨b, off, none⟩) n cap] w fun e w' => e = .returned (.bool true) ∧ Below w.heap.size w w' := by
  have hc0 := hT.1 x0 h0
  have hX := firstT_cases x0
  rw [hx] at hc0 hX
  clear hT hx
  have h0' : (x0 : Int) < 256 := by omega
  rcases hX with rfl | rfl | rfl | rfl | rfl | rfl | rfl | rfl | rfl
  all_goals
    simp only [Int.cast_ofNat_Int, Int.reduceMod] at hz hc0
    go_enter Tryd.func57, Tryd.ntmps57
    go_wp2
    go_ret
    exact ⟨rfl, Below.refl _ _⟩

set_option maxRecDepth 100000 in
set_option maxHeartbeats 4000000 in
/-- one byte, which asks for more -/
theorem fullRune_no1 (b off cap x0 x : Nat) (w : World) (hs0 : w.cell? ⟨b, off, none⟩ = some (.int .u8 x0))
    (hx : firstT x0 = x) (hT : Tabs w) (h0 : x0 < 256) (hz : 1 < x % 8) :
    Calls Tryd.prog 57 #[.slice (some ⟨b, off, none⟩) 1 cap] w fun e w' => e = .returned (.bool false) ∧ Below w.heap.size w w' := by
  have hc0 := hT.1 x0 h0
  have hX := firstT_cases x0
  rw [hx] at hc0 hX
  have ha := hT.2 (x / 16)
  have h0' : (x0 : Int) < 256 := by omega
  clear hT hx
  rcases hX with rfl | rfl | rfl | rfl | rfl | rfl | rfl | rfl | rfl
  all_goals first | (exfalso; omega) | skip
  all_goals
    replace ha := ha (by decide)
    simp only [Nat.reduceDiv, Nat.reduceMul, Nat.reduceAdd, accLo, accHi, Nat.reduceEqDiff, if_true, if_false, Int.cast_ofNat_Int] at ha hc0
    obtain ⟨ha0, ha1⟩ := ha
    clear hz
    go_enter Tryd.func57, Tryd.ntmps57
    go_wp2
    go_quiet (fail)
    go_wp2
    go_ret
    exact ⟨rfl, below_drewN ((Below.refl _ _).alloc (Nat.le_refl _) _) _⟩

set_option maxRecDepth 100000 in
set_option maxHeartbeats 8000000 in
/-- 2 bytes, the second too low -/
theorem fullRune_lo2 (b off cap x0 x1 x : Nat) (w : World) (hs0 : w.cell? ⟨b, off, none⟩ = some (.int .u8 x0)) (hs1 : w.cell? ⟨b, off + 1, none⟩ = some (.int .u8 x1))
    (hx : firstT x0 = x) (hT : Tabs w) (h0 : x0 < 256) (hz : 2 < x % 8) (c0 : decide ((x1 : Int) < (accLo (x / 16) : Int)) = true) :
    Calls Tryd.prog 57 #[.slice (some ⟨b, off, none⟩) 2 cap] w fun e w' => e = .returned (.bool true) ∧ Below w.heap.size w w' := by
  have hc0 := hT.1 x0 h0
  have hX := firstT_cases x0
  rw [hx] at hc0 hX
  have ha := hT.2 (x / 16)
  have h0' : (x0 : Int) < 256 := by omega
  have hb : b < w.heap.size := block_lt_of_cell hs0
  clear hT hx
  rcases hX with rfl | rfl | rfl | rfl | rfl | rfl | rfl | rfl | rfl
  all_goals first | (exfalso; omega) | skip
  all_goals
    replace ha := ha (by decide)
    simp only [Nat.reduceDiv, Nat.reduceMul, Nat.reduceAdd, accLo, accHi, Nat.reduceEqDiff, if_true, if_false, Int.cast_ofNat_Int] at ha hc0 c0
    obtain ⟨ha0, ha1⟩ := ha
    clear hz
    go_enter Tryd.func57, Tryd.ntmps57
    go_wp2
    go_quiet (fail)
    go_wp2
    go_ret
    exact ⟨rfl, by repeat (first | exact Below.refl _ _ | apply below_drewN | refine Below.alloc ?_ (Nat.le_refl _) _)⟩

set_option maxRecDepth 100000 in
set_option maxHeartbeats 8000000 in
/-- 2 bytes, the second too high -/
theorem fullRune_hi2 (b off cap x0 x1 x : Nat) (w : World) (hs0 : w.cell? ⟨b, off, none⟩ = some (.int .u8 x0)) (hs1 : w.cell? ⟨b, off + 1, none⟩ = some (.int .u8 x1))
    (hx : firstT x0 = x) (hT : Tabs w) (h0 : x0 < 256) (hz : 2 < x % 8) (c0 : decide ((x1 : Int) < (accLo (x / 16) : Int)) = false) (c1 : decide ((accHi (x / 16) : Int) < (x1 : Int)) = true) :
    Calls Tryd.prog 57 #[.slice (some ⟨b, off, none⟩) 2 cap] w fun e w' => e = .returned (.bool true) ∧ Below w.heap.size w w' := by
  have hc0 := hT.1 x0 h0
  have hX := firstT_cases x0
  rw [hx] at hc0 hX
  have ha := hT.2 (x / 16)
  have h0' : (x0 : Int) < 256 := by omega
  have hb : b < w.heap.size := block_lt_of_cell hs0
  clear hT hx
  rcases hX with rfl | rfl | rfl | rfl | rfl | rfl | rfl | rfl | rfl
  all_goals first | (exfalso; omega) | skip
  all_goals
    replace ha := ha (by decide)
    simp only [Nat.reduceDiv, Nat.reduceMul, Nat.reduceAdd, accLo, accHi, Nat.reduceEqDiff, if_true, if_false, Int.cast_ofNat_Int] at ha hc0 c0 c1
    obtain ⟨ha0, ha1⟩ := ha
    clear hz
    go_enter Tryd.func57, Tryd.ntmps57
    go_wp2
    go_quiet (fail)
    go_wp2
    go_ret
    exact ⟨rfl, by repeat (first | exact Below.refl _ _ | apply below_drewN | refine Below.alloc ?_ (Nat.le_refl _) _)⟩

set_option maxRecDepth 100000 in
set_option maxHeartbeats 8000000 in
/-- 3 bytes, the second too low -/
theorem fullRune_lo3 (b off cap x0 x1 x2 x : Nat) (w : World) (hs0 : w.cell? ⟨b, off, none⟩ = some (.int .u8 x0)) (hs1 : w.cell? ⟨b, off + 1, none⟩ = some (.int .u8 x1)) (hs2 : w.cell? ⟨b, off + 2, none⟩ = some (.int .u8 x2))
    (hx : firstT x0 = x) (hT : Tabs w) (h0 : x0 < 256) (hz : 3 < x % 8) (c0 : decide ((x1 : Int) < (accLo (x / 16) : Int)) = true) :
    Calls Tryd.prog 57 #[.slice (some ⟨b, off, none⟩) 3 cap] w fun e w' => e = .returned (.bool true) ∧ Below w.heap.size w w' := by
  have hc0 := hT.1 x0 h0
  have hX := firstT_cases x0
  rw [hx] at hc0 hX
  have ha := hT.2 (x / 16)
  have h0' : (x0 : Int) < 256 := by omega
  have hb : b < w.heap.size := block_lt_of_cell hs0
  clear hT hx
  rcases hX with rfl | rfl | rfl | rfl | rfl | rfl | rfl | rfl | rfl
  all_goals first | (exfalso; omega) | skip
  all_goals
    replace ha := ha (by decide)
    simp only [Nat.reduceDiv, Nat.reduceMul, Nat.reduceAdd, accLo, accHi, Nat.reduceEqDiff, if_true, if_false, Int.cast_ofNat_Int] at ha hc0 c0
    obtain ⟨ha0, ha1⟩ := ha
    clear hz
    go_enter Tryd.func57, Tryd.ntmps57
    go_wp2
    go_quiet (fail)
    go_wp2
    go_ret
    exact ⟨rfl, by repeat (first | exact Below.refl _ _ | apply below_drewN | refine Below.alloc ?_ (Nat.le_refl _) _)⟩

set_option maxRecDepth 100000 in
set_option maxHeartbeats 8000000 in
/-- 3 bytes, the second too high -/
theorem fullRune_hi3 (b off cap x0 x1 x2 x : Nat) (w : World) (hs0 : w.cell? ⟨b, off, none⟩ = some (.int .u8 x0)) (hs1 : w.cell? ⟨b, off + 1, none⟩ = some (.int .u8 x1)) (hs2 : w.cell? ⟨b, off + 2, none⟩ = some (.int .u8 x2))
    (hx : firstT x0 = x) (hT : Tabs w) (h0 : x0 < 256) (hz : 3 < x % 8) (c0 : decide ((x1 : Int) < (accLo (x / 16) : Int)) = false) (c1 : decide ((accHi (x / 16) : Int) < (x1 : Int)) = true) :
    Calls Tryd.prog 57 #[.slice (some ⟨b, off, none⟩) 3 cap] w fun e w' => e = .returned (.bool true) ∧ Below w.heap.size w w' := by
  have hc0 := hT.1 x0 h0
  have hX := firstT_cases x0
  rw [hx] at hc0 hX
  have ha := hT.2 (x / 16)
  have h0' : (x0 : Int) < 256 := by omega
  have hb : b < w.heap.size := block_lt_of_cell hs0
  clear hT hx
  rcases hX with rfl | rfl | rfl | rfl | rfl | rfl | rfl | rfl | rfl
  all_goals first | (exfalso; omega) | skip
  all_goals
    replace ha := ha (by decide)
    simp only [Nat.reduceDiv, Nat.reduceMul, Nat.reduceAdd, accLo, accHi, Nat.reduceEqDiff, if_true, if_false, Int.cast_ofNat_Int] at ha hc0 c0 c1
    obtain ⟨ha0, ha1⟩ := ha
    clear hz
    go_enter Tryd.func57, Tryd.ntmps57
    go_wp2
    go_quiet (fail)
    go_wp2
    go_ret
    exact ⟨rfl, by repeat (first | exact Below.refl _ _ | apply below_drewN | refine Below.alloc ?_ (Nat.le_refl _) _)⟩

set_option maxRecDepth 100000 in
set_option maxHeartbeats 8000000 in
/-- 2 bytes, a beginning -/
theorem fullRune_in2 (b off cap x0 x1 x : Nat) (w : World) (hs0 : w.cell? ⟨b, off, none⟩ = some (.int .u8 x0)) (hs1 : w.cell? ⟨b, off + 1, none⟩ = some (.int .u8 x1))
    (hx : firstT x0 = x) (hT : Tabs w) (h0 : x0 < 256) (hz : 2 < x % 8) (c0 : decide ((x1 : Int) < (accLo (x / 16) : Int)) = false) (c1 : decide ((accHi (x / 16) : Int) < (x1 : Int)) = false) :
    Calls Tryd.prog 57 #[.slice (some ⟨b, off, none⟩) 2 cap] w fun e w' => e = .returned (.bool false) ∧ Below w.heap.size w w' := by
  have hc0 := hT.1 x0 h0
  have hX := firstT_cases x0
  rw [hx] at hc0 hX
  have ha := hT.2 (x / 16)
  have h0' : (x0 : Int) < 256 := by omega
  have hb : b < w.heap.size := block_lt_of_cell hs0
  clear hT hx
  rcases hX with rfl | rfl | rfl | rfl | rfl | rfl | rfl | rfl | rfl
  all_goals first | (exfalso; omega) | skip
  all_goals
    replace ha := ha (by decide)
    simp only [Nat.reduceDiv, Nat.reduceMul, Nat.reduceAdd, accLo, accHi, Nat.reduceEqDiff, if_true, if_false, Int.cast_ofNat_Int] at ha hc0 c0 c1
    obtain ⟨ha0, ha1⟩ := ha
    clear hz
    go_enter Tryd.func57, Tryd.ntmps57
    go_wp2
    go_quiet (fail)
    go_wp2
    go_ret
    exact ⟨rfl, by repeat (first | exact Below.refl _ _ | apply below_drewN | refine Below.alloc ?_ (Nat.le_refl _) _)⟩

set_option maxRecDepth 100000 in
set_option maxHeartbeats 8000000 in
/-- 3 bytes, the third too low -/
theorem fullRune_lo33 (b off cap x0 x1 x2 x : Nat) (w : World) (hs0 : w.cell? ⟨b, off, none⟩ = some (.int .u8 x0)) (hs1 : w.cell? ⟨b, off + 1, none⟩ = some (.int .u8 x1)) (hs2 : w.cell? ⟨b, off + 2, none⟩ = some (.int .u8 x2))
    (hx : firstT x0 = x) (hT : Tabs w) (h0 : x0 < 256) (hz : 3 < x % 8) (c0 : decide ((x1 : Int) < (accLo (x / 16) : Int)) = false) (c1 : decide ((accHi (x / 16) : Int) < (x1 : Int)) = false) (c2 : decide ((x2 : Int) < 128) = true) :
    Calls Tryd.prog 57 #[.slice (some ⟨b, off, none⟩) 3 cap] w fun e w' => e = .returned (.bool true) ∧ Below w.heap.size w w' := by
  have hc0 := hT.1 x0 h0
  have hX := firstT_cases x0
  rw [hx] at hc0 hX
  have ha := hT.2 (x / 16)
  have h0' : (x0 : Int) < 256 := by omega
  have hb : b < w.heap.size := block_lt_of_cell hs0
  clear hT hx
  rcases hX with rfl | rfl | rfl | rfl | rfl | rfl | rfl | rfl | rfl
  all_goals first | (exfalso; omega) | skip
  all_goals
    replace ha := ha (by decide)
    simp only [Nat.reduceDiv, Nat.reduceMul, Nat.reduceAdd, accLo, accHi, Nat.reduceEqDiff, if_true, if_false, Int.cast_ofNat_Int] at ha hc0 c0 c1 c2
    obtain ⟨ha0, ha1⟩ := ha
    clear hz
    go_enter Tryd.func57, Tryd.ntmps57
    go_wp2
    go_quiet (fail)
    go_wp2
    go_ret
    exact ⟨rfl, by repeat (first | exact Below.refl _ _ | apply below_drewN | refine Below.alloc ?_ (Nat.le_refl _) _)⟩

set_option maxRecDepth 100000 in
set_option maxHeartbeats 8000000 in
/-- 3 bytes, the third too high -/
theorem fullRune_hi33 (b off cap x0 x1 x2 x : Nat) (w : World) (hs0 : w.cell? ⟨b, off, none⟩ = some (.int .u8 x0)) (hs1 : w.cell? ⟨b, off + 1, none⟩ = some (.int .u8 x1)) (hs2 : w.cell? ⟨b, off + 2, none⟩ = some (.int .u8 x2))
    (hx : firstT x0 = x) (hT : Tabs w) (h0 : x0 < 256) (hz : 3 < x % 8) (c0 : decide ((x1 : Int) < (accLo (x / 16) : Int)) = false) (c1 : decide ((accHi (x / 16) : Int) < (x1 : Int)) = false) (c2 : decide ((x2 : Int) < 128) = false) (c3 : decide ((191 : Int) < x2) = true) :
    Calls Tryd.prog 57 #[.slice (some ⟨b, off, none⟩) 3 cap] w fun e w' => e = .returned (.bool true) ∧ Below w.heap.size w w' := by
  have hc0 := hT.1 x0 h0
  have hX := firstT_cases x0
  rw [hx] at hc0 hX
  have ha := hT.2 (x / 16)
  have h0' : (x0 : Int) < 256 := by omega
  have hb : b < w.heap.size := block_lt_of_cell hs0
  clear hT hx
  rcases hX with rfl | rfl | rfl | rfl | rfl | rfl | rfl | rfl | rfl
  all_goals first | (exfalso; omega) | skip
  all_goals
    replace ha := ha (by decide)
    simp only [Nat.reduceDiv, Nat.reduceMul, Nat.reduceAdd, accLo, accHi, Nat.reduceEqDiff, if_true, if_false, Int.cast_ofNat_Int] at ha hc0 c0 c1 c2 c3
    obtain ⟨ha0, ha1⟩ := ha
    clear hz
    go_enter Tryd.func57, Tryd.ntmps57
    go_wp2
    go_quiet (fail)
    go_wp2
    go_ret
    exact ⟨rfl, by repeat (first | exact Below.refl _ _ | apply below_drewN | refine Below.alloc ?_ (Nat.le_refl _) _)⟩

set_option maxRecDepth 100000 in
set_option maxHeartbeats 8000000 in
/-- 3 bytes, a beginning -/
theorem fullRune_in3 (b off cap x0 x1 x2 x : Nat) (w : World) (hs0 : w.cell? ⟨b, off, none⟩ = some (.int .u8 x0)) (hs1 : w.cell? ⟨b, off + 1, none⟩ = some (.int .u8 x1)) (hs2 : w.cell? ⟨b, off + 2, none⟩ = some (.int .u8 x2))
    (hx : firstT x0 = x) (hT : Tabs w) (h0 : x0 < 256) (hz : 3 < x % 8) (c0 : decide ((x1 : Int) < (accLo (x / 16) : Int)) = false) (c1 : decide ((accHi (x / 16) : Int) < (x1 : Int)) = false) (c2 : decide ((x2 : Int) < 128) = false) (c3 : decide ((191 : Int) < x2) = false) :
    Calls Tryd.prog 57 #[.slice (some ⟨b, off, none⟩) 3 cap] w fun e w' => e = .returned (.bool false) ∧ Below w.heap.size w w' := by
  have hc0 := hT.1 x0 h0
  have hX := firstT_cases x0
  rw [hx] at hc0 hX
  have ha := hT.2 (x / 16)
  have h0' : (x0 : Int) < 256 := by omega
  have hb : b < w.heap.size := block_lt_of_cell hs0
  clear hT hx
  rcases hX with rfl | rfl | rfl | rfl | rfl | rfl | rfl | rfl | rfl
  all_goals first | (exfalso; omega) | skip
  all_goals
    replace ha := ha (by decide)
    simp only [Nat.reduceDiv, Nat.reduceMul, Nat.reduceAdd, accLo, accHi, Nat.reduceEqDiff, if_true, if_false, Int.cast_ofNat_Int] at ha hc0 c0 c1 c2 c3
    obtain ⟨ha0, ha1⟩ := ha
    clear hz
    go_enter Tryd.func57, Tryd.ntmps57
    go_wp2
    go_quiet (fail)
    go_wp2
    go_ret
    exact ⟨rfl, by repeat (first | exact Below.refl _ _ | apply below_drewN | refine Below.alloc ?_ (Nat.le_refl _) _)⟩

/-- utf8.FullRune at every slice of bytes. -/
theorem fullRune (l : List UInt8) (A : Option Addr) (cap : Nat) (w : World) (hT : Tabs w) (hA : BytesAt w A l) :
    Calls Tryd.prog 57 #[.slice A l.length cap] w fun e w' => e = .returned (.bool (fullN l.length (bt l 0) (bt l 1) (bt l 2))) ∧ Below w.heap.size w w' := by
  by_cases h0 : l = []
  · subst h0; exact fullRune_empty A cap w
  · obtain ⟨b, off, rfl, _, hc⟩ := hA h0
    have hn : 0 < l.length := List.length_pos_iff.2 h0
    have l0 := bt_lt l 0
    have c0 : w.cell? ⟨b, off, none⟩ = some (.int .u8 (bt l 0 : Int)) := hc 0 hn
    obtain ⟨x, hx⟩ : ∃ x, firstT (bt l 0) = x := ⟨_, rfl⟩
    have hX := firstT_cases (bt l 0)
    unfold fullN
    rw [if_neg (by omega), hx]
    by_cases hz : x % 8 ≤ l.length
    · rw [if_pos hz]
      exact fullRune_yes b off l.length cap (bt l 0) x w (by omega) c0 hx hT l0 (by omega)
    · rw [if_neg hz]
      have h4 : x % 8 ≤ 4 := by rw [hx] at hX; omega
      have hl : l.length = 1 ∨ l.length = 2 ∨ l.length = 3 := by omega
      rcases hl with hl | hl | hl
      · rw [hl] at hz ⊢
        rw [if_neg (by omega), if_neg (by omega)]
        exact fullRune_no1 b off cap (bt l 0) x w c0 hx hT l0 (by omega)
      · have c1 := hc 1 (by omega)
        rw [hl] at hz ⊢
        by_cases k1 : bt l 1 < accLo (x / 16)
        · rw [if_pos ⟨by omega, Or.inl k1⟩]
          exact fullRune_lo2 b off cap _ _ x w c0 c1 hx hT l0 (by omega) (by simp; omega)
        · by_cases k2 : accHi (x / 16) < bt l 1
          · rw [if_pos ⟨by omega, Or.inr k2⟩]
            exact fullRune_hi2 b off cap _ _ x w c0 c1 hx hT l0 (by omega) (by simp; omega) (by simp; omega)
          · rw [if_neg (by omega), if_neg (by omega)]
            exact fullRune_in2 b off cap _ _ x w c0 c1 hx hT l0 (by omega) (by simp; omega) (by simp; omega)
      · have c1 := hc 1 (by omega)
        have c2 := hc 2 (by omega)
        rw [hl] at hz ⊢
        by_cases k1 : bt l 1 < accLo (x / 16)
        · rw [if_pos ⟨by omega, Or.inl k1⟩]
          exact fullRune_lo3 b off cap _ _ _ x w c0 c1 c2 hx hT l0 (by omega) (by simp; omega)
        · by_cases k2 : accHi (x / 16) < bt l 1
          · rw [if_pos ⟨by omega, Or.inr k2⟩]
            exact fullRune_hi3 b off cap _ _ _ x w c0 c1 c2 hx hT l0 (by omega) (by simp; omega) (by simp; omega)
          · rw [if_neg (by omega)]
            by_cases k3 : bt l 2 < 128
            · rw [if_pos ⟨by omega, Or.inl k3⟩]
              exact fullRune_lo33 b off cap _ _ _ x w c0 c1 c2 hx hT l0 (by omega) (by simp; omega) (by simp; omega) (by simp; omega)
            · by_cases k4 : 191 < bt l 2
              · rw [if_pos ⟨by omega, Or.inr k4⟩]
                exact fullRune_hi33 b off cap _ _ _ x w c0 c1 c2 hx hT l0 (by omega) (by simp; omega) (by simp; omega) (by simp; omega) (by simp; omega)
              · rw [if_neg (by omega)]
                exact fullRune_in3 b off cap _ _ _ x w c0 c1 c2 hx hT l0 (by omega) (by simp; omega) (by simp; omega) (by simp; omega) (by simp; omega)

end Go.Proofs.YtbflcikfaoojmaaDoor.Utf

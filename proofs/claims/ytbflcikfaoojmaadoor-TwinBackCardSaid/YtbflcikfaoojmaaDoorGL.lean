/- Texts joined: Fl1; Fl2. -/
import GoSem.Core.Float
import Derived.Test.YtbflcikfaoojmaaDoorGT4
import Derived.Laws.Externs
/- Moments in order: plain. -/
set_option linter.unusedVariables false
set_option linter.unusedSimpArgs false
namespace Go.Proofs.YtbflcikfaoojmaaDoor.Edit
namespace Fl
open Ieee

/-- a rung's magnitude, by the least place -/
def mg (r : Nat) : Nat := if r < 4503599627370496 then r else 4503599627370496 + r % 4503599627370496
def pl (r : Nat) : Nat := if r < 4503599627370496 then 0 else r / 4503599627370496 - 1
def vl (r : Nat) : Nat := mg r * 2 ^ pl r

theorem vl_lt {r s : Nat} (h : r < s) : vl r < vl s := by
  unfold vl
  by_cases h1 : s < 4503599627370496
  · have e1 : mg r = r := by unfold mg; rw [if_pos (by omega)]
    have e2 : mg s = s := by unfold mg; rw [if_pos h1]
    have e3 : pl r = 0 := by unfold pl; rw [if_pos (by omega)]
    have e4 : pl s = 0 := by unfold pl; rw [if_pos h1]
    rw [e1, e2, e3, e4]; omega
  · have m2 : mg s = 4503599627370496 + s % 4503599627370496 := by unfold mg; rw [if_neg h1]
    have p2 : pl s = s / 4503599627370496 - 1 := by unfold pl; rw [if_neg h1]
    by_cases h2 : r < 4503599627370496
    · have e1 : mg r = r := by unfold mg; rw [if_pos h2]
      have e3 : pl r = 0 := by unfold pl; rw [if_pos h2]
      rw [e1, e3, m2]
      have : 1 ≤ 2 ^ pl s := Nat.one_le_two_pow
      calc r * 2 ^ 0 = r := by simp
        _ < 4503599627370496 := h2
        _ ≤ (4503599627370496 + s % 4503599627370496) * 1 := by omega
        _ ≤ _ := Nat.mul_le_mul_left _ this
    · have m1 : mg r = 4503599627370496 + r % 4503599627370496 := by unfold mg; rw [if_neg h2]
      have p1 : pl r = r / 4503599627370496 - 1 := by unfold pl; rw [if_neg h2]
      by_cases h3 : r / 4503599627370496 = s / 4503599627370496
      · rw [m1, m2, p1, p2, h3]
        exact Nat.mul_lt_mul_of_pos_right (by omega) (Nat.pow_pos (by decide))
      · have hlt : r / 4503599627370496 < s / 4503599627370496 := by omega
        have x1 : pl r + 1 ≤ pl s := by omega
        rw [m1, m2]
        calc (4503599627370496 + r % 4503599627370496) * 2 ^ pl r < (4503599627370496 * 2) * 2 ^ pl r := Nat.mul_lt_mul_of_pos_right (by omega) (Nat.pow_pos (by decide))
          _ = 4503599627370496 * 2 ^ (pl r + 1) := by rw [Nat.pow_succ, Nat.mul_assoc, Nat.mul_comm 2]
          _ ≤ 4503599627370496 * 2 ^ pl s := Nat.mul_le_mul_left _ (Nat.pow_le_pow_right (by decide) x1)
          _ ≤ _ := Nat.mul_le_mul_right _ (by omega)
theorem vl_iff {r s : Nat} : vl r < vl s ↔ r < s := by
  constructor
  · intro h
    apply Classical.byContradiction
    intro hn
    rcases Nat.lt_or_eq_of_le (Nat.le_of_not_lt hn) with h2 | h2
    · have := vl_lt h2; omega
    · subst h2; omega
  · exact vl_lt
theorem vl_eq {r s : Nat} : vl r = vl s ↔ r = s := by
  constructor
  · intro h
    rcases Nat.lt_trichotomy r s with h2 | h2 | h2
    · have := vl_lt h2; omega
    · exact h2
    · have := vl_lt h2; omega
  · rintro rfl; rfl

def neg (b : Nat) : Bool := decide (9223372036854775808 ≤ b)
def rg (b : Nat) : Nat := b % 9223372036854775808
def isN (b : Nat) : Bool := decide (9218868437227405312 < rg b)
/-- signed -/
def sr (b : Nat) : Int := if neg b then -(rg b : Int) else (rg b : Int)
def sv (b : Nat) : Int := if neg b then -(vl (rg b) : Int) else (vl (rg b) : Int)

theorem sv_lt {a b : Nat} : sv a < sv b ↔ sr a < sr b := by
  have h1 := @vl_iff (rg a) (rg b)
  have h2 := @vl_iff (rg b) (rg a)
  have z : vl 0 = 0 := rfl
  have p1 := @vl_iff 0 (rg a)
  have p2 := @vl_iff 0 (rg b)
  unfold sv sr
  cases neg a <;> cases neg b <;> simp <;> omega
theorem sv_eq {a b : Nat} : sv a = sv b ↔ sr a = sr b := by
  have h1 := @sv_lt a b
  have h2 := @sv_lt b a
  omega

theorem read_of (b : Nat) (hb : b < 18446744073709551616) : double.read b = (if rg b < 9218868437227405312 then .number (neg b) (mg (rg b)) (double.leastPlace + (pl (rg b) : Nat)) else if rg b = 9218868437227405312 then .infinity (neg b) else .nan (neg b) (rg b - 9218868437227405312)) := by
  have e1 : double.signWeight = 9223372036854775808 := by decide
  have e2 : double.binade = 4503599627370496 := by decide
  have e3 : double.infRung = 9218868437227405312 := by decide
  have hn : (b / 9223372036854775808 % 2 == 1) = neg b := by
    unfold neg
    rw [Bool.eq_iff_iff]
    simp
    omega
  unfold Format.read
  rw [e1, e2, e3, hn]
  show (if rg b < 4503599627370496 then _ else _) = _
  by_cases h1 : rg b < 4503599627370496
  · rw [if_pos h1, if_pos (by omega)]
    unfold mg pl
    rw [if_pos h1, if_pos h1]
    simp; rfl
  · rw [if_neg h1]
    by_cases h2 : rg b < 9218868437227405312
    · rw [if_pos h2]
      show (if rg b < 9218868437227405312 then _ else _) = _
      rw [if_pos h2]
      unfold mg pl
      rw [if_neg h1, if_neg h1]
      rfl
    · rw [if_neg h2]
      show (if rg b < 9218868437227405312 then _ else _) = _
      rw [if_neg h2]
      rfl

theorem signed_of (s : Bool) (m u : Nat) : signed s m u = if s then -((m * 2 ^ u : Nat) : Int) else ((m * 2 ^ u : Nat) : Int) := by
  unfold signed
  rw [Nat.shiftLeft_eq]
theorem compare_lt_iff_lt {x y : Int} : compare x y = .lt ↔ x < y := by
  show compareOfLessAndEq x y = .lt ↔ _
  unfold compareOfLessAndEq
  split
  · simp [*]
  · split <;> simp [*]
theorem compare_eq_iff_eq {x y : Int} : compare x y = .eq ↔ x = y := by
  show compareOfLessAndEq x y = .eq ↔ _
  unfold compareOfLessAndEq
  split
  · simp; omega
  · split <;> simp [*]
theorem compare_gt_iff_gt {x y : Int} : compare x y = .gt ↔ y < x := by
  show compareOfLessAndEq x y = .gt ↔ _
  unfold compareOfLessAndEq
  split
  · simp; omega
  · split
    · simp; omega
    · simp; omega
theorem cmp_scale (x y : Int) (k : Nat) (hk : 0 < k) : compare x y = compare (x * (k : Int)) (y * (k : Int)) := by
  have hk' : (0 : Int) < (k : Int) := by omega
  rcases Int.lt_trichotomy x y with h | h | h
  · rw [compare_lt_iff_lt.2 h, compare_lt_iff_lt.2 (Int.mul_lt_mul_of_pos_right h hk')]
  · subst h; rw [compare_eq_iff_eq.2 rfl, compare_eq_iff_eq.2 rfl]
  · rw [compare_gt_iff_gt.2 h, compare_gt_iff_gt.2 (Int.mul_lt_mul_of_pos_right h hk')]
theorem sg_scale (s : Bool) (m u k : Nat) : signed s m u * ((2 ^ k : Nat) : Int) = if s then -((m * 2 ^ (u + k) : Nat) : Int) else ((m * 2 ^ (u + k) : Nat) : Int) := by
  rw [signed_of, Nat.pow_add, ← Nat.mul_assoc]
  cases s
  · simp
  · simp [Int.neg_mul]

theorem order_of {a b : Nat} (ha : a < 18446744073709551616) (hb : b < 18446744073709551616) (na : isN a = false) (nb : isN b = false) : double.order a b = some (compare (sv a) (sv b)) := by
  have na' : rg a ≤ 9218868437227405312 := by unfold isN at na; simpa using na
  have nb' : rg b ≤ 9218868437227405312 := by unfold isN at nb; simpa using nb
  have hz : vl 0 = 0 := rfl
  unfold Format.order
  rw [read_of a ha, read_of b hb]
  by_cases h1 : rg a < 9218868437227405312
  · rw [if_pos h1]
    by_cases h2 : rg b < 9218868437227405312
    · rw [if_pos h2]
      show some (compare (signed (neg a) (mg (rg a)) _) (signed (neg b) (mg (rg b)) _)) = _
      congr 1
      obtain ⟨k, hk⟩ : ∃ k : Nat, k = min (pl (rg a)) (pl (rg b)) := ⟨_, rfl⟩
      have e1 : ((double.leastPlace + (pl (rg a) : Nat)) - min (double.leastPlace + (pl (rg a) : Nat)) (double.leastPlace + (pl (rg b) : Nat))).toNat = pl (rg a) - k := by omega
      have e2 : ((double.leastPlace + (pl (rg b) : Nat)) - min (double.leastPlace + (pl (rg a) : Nat)) (double.leastPlace + (pl (rg b) : Nat))).toNat = pl (rg b) - k := by omega
      rw [e1, e2, cmp_scale _ _ (2 ^ k) (Nat.pow_pos (by decide)), sg_scale, sg_scale, show pl (rg a) - k + k = pl (rg a) by omega, show pl (rg b) - k + k = pl (rg b) by omega]
      rfl
    · have h3 : rg b = 9218868437227405312 := by omega
      rw [if_neg h2, if_pos h3]
      show some (if neg b then Ordering.gt else .lt) = _
      congr 1
      have hlt := @vl_lt (rg a) (rg b) (by omega)
      unfold sv
      cases hnb : neg b
      · simp only [Bool.false_eq_true, if_false]
        symm
        rw [compare_lt_iff_lt]
        cases neg a <;> simp <;> omega
      · simp only [if_true]
        symm
        rw [compare_gt_iff_gt]
        cases neg a <;> simp <;> omega
  · have h3 : rg a = 9218868437227405312 := by omega
    rw [if_neg h1, if_pos h3]
    by_cases h2 : rg b < 9218868437227405312
    · rw [if_pos h2]
      show some (if neg a then Ordering.lt else .gt) = _
      congr 1
      have hlt := @vl_lt (rg b) (rg a) (by omega)
      unfold sv
      cases hna : neg a
      · simp only [Bool.false_eq_true, if_false]
        symm
        rw [compare_gt_iff_gt]
        cases neg b <;> simp <;> omega
      · simp only [if_true]
        symm
        rw [compare_lt_iff_lt]
        cases neg b <;> simp <;> omega
    · have h4 : rg b = 9218868437227405312 := by omega
      rw [if_neg h2, if_pos h4]
      show some (compare (neg b).toNat (neg a).toNat) = _
      congr 1
      have hp : 0 < vl 9218868437227405312 := by have := @vl_lt 0 9218868437227405312 (by omega); omega
      unfold sv
      rw [h3, h4]
      cases neg a <;> cases neg b
      · simp only [Bool.false_eq_true, if_false]; rw [compare_eq_iff_eq.2 rfl]; decide
      · simp only [Bool.false_eq_true, if_false, if_true]
        symm
        show _ = compare 1 0
        rw [show compare 1 0 = Ordering.gt by decide, compare_gt_iff_gt]; omega
      · simp only [Bool.false_eq_true, if_false, if_true]
        symm
        show _ = compare 0 1
        rw [show compare 0 1 = Ordering.lt by decide, compare_lt_iff_lt]; omega
      · simp only [if_true]; rw [compare_eq_iff_eq.2 rfl]; decide
theorem order_nan {a b : Nat} (ha : a < 18446744073709551616) (na : isN a = true) : double.order a b = none := by
  have na' : ¬ rg a < 9218868437227405312 ∧ ¬ rg a = 9218868437227405312 := by unfold isN at na; simp at na; omega
  unfold Format.order
  rw [read_of a ha, if_neg na'.1, if_neg na'.2]
  rfl

theorem lt_iff {a b : Nat} (ha : a < 18446744073709551616) (hb : b < 18446744073709551616) (na : isN a = false) (nb : isN b = false) : (double.order a b == some .lt) = decide (sr a < sr b) := by
  rw [order_of ha hb na nb, Bool.eq_iff_iff]
  simp only [beq_iff_eq, Option.some.injEq, decide_eq_true_eq, compare_lt_iff_lt]
  exact sv_lt
theorem gt_iff {a b : Nat} (ha : a < 18446744073709551616) (hb : b < 18446744073709551616) (na : isN a = false) (nb : isN b = false) : (double.order a b == some .gt) = decide (sr b < sr a) := by
  rw [order_of ha hb na nb, Bool.eq_iff_iff]
  simp only [beq_iff_eq, Option.some.injEq, decide_eq_true_eq, compare_gt_iff_gt]
  exact sv_lt
theorem eq_iff {a b : Nat} (ha : a < 18446744073709551616) (hb : b < 18446744073709551616) (na : isN a = false) (nb : isN b = false) : (double.order a b == some .eq) = decide (sr a = sr b) := by
  rw [order_of ha hb na nb, Bool.eq_iff_iff]
  simp only [beq_iff_eq, Option.some.injEq, decide_eq_true_eq, compare_eq_iff_eq]
  exact sv_eq
theorem self_iff {a : Nat} (ha : a < 18446744073709551616) : (double.order a a != some .eq) = isN a := by
  cases h : isN a
  · have := eq_iff ha ha h h
    rw [bne, this]; simp
  · rw [order_nan ha h]; rfl
theorem zero_iff {a : Nat} (ha : a < 18446744073709551616) (h : isN a = false) : (double.order a 0 == some .eq) = decide (rg a = 0) := by
  rw [eq_iff ha (by decide) h (by decide), Bool.eq_iff_iff]
  simp only [decide_eq_true_eq]
  unfold sr
  have : rg 0 = 0 := rfl
  have : neg 0 = false := rfl
  simp only [*]
  cases neg a <;> simp <;> omega

/-- a moment's key -/
def mkey (b : Nat) : Nat := if isN b then 18446744073709551615 else if 9223372036854775808 ≤ b then 18446744073709551615 - b else b + 9223372036854775808
/-- a moment's kind -/
def kd (b : Nat) : Nat := if isN b then 6 else if rg b = 0 then (if neg b then 2 else 3) else if neg b then (if b = 18442240474082181120 then 0 else 1) else (if b = 9218868437227405312 then 5 else 4)
theorem kd_key {a b : Nat} (ha : a < 18446744073709551616) (hb : b < 18446744073709551616) : (kd a < kd b ∨ (kd a = kd b ∧ kd a ≠ 6 ∧ sr a < sr b)) ↔ mkey a < mkey b := by
  unfold kd mkey sr isN neg
  have x1 : rg a = a % 9223372036854775808 := rfl
  have x2 : rg b = b % 9223372036854775808 := rfl
  simp only [decide_eq_true_eq]
  by_cases a1 : 9218868437227405312 < rg a <;> by_cases b1 : 9218868437227405312 < rg b <;> by_cases a2 : 9223372036854775808 ≤ a <;> by_cases b2 : 9223372036854775808 ≤ b <;> simp only [a1, b1, a2, b2, if_true, if_false] <;> (repeat' split) <;> (first | omega | (simp; done) | (simp; omega))
end Fl

end Go.Proofs.YtbflcikfaoojmaaDoor.Edit

/- Moments in order: walked. -/
set_option linter.unusedVariables false
set_option linter.unusedSimpArgs false
namespace Go.Proofs.YtbflcikfaoojmaaDoor.Edit
open Go.RowKit Go.Lib Go.Shelf ChangeShapes Mem Utf UtfP

theorem fl_bits (b : Nat) (w : World) : (callFunc 37 #[.float .f64 b]).run Tryd.prog w = .ok (.value (.int .u64 (b : Int))) w := by
  rw [run_callFunc_extern Tryd.func37 (by kernel_rfl) (by kernel_rfl) (by kernel_rfl) (e := Extern.MathFloatBits.float64bits) (by kernel_rfl)]
  rfl
theorem xor_max (b : Nat) (hb : b < 18446744073709551616) : bits .xor .u64 IntKind.u64.max (b : Int) = ((18446744073709551615 - b : Nat) : Int) := by
  have e1 : BitVec.ofInt 64 IntKind.u64.max = BitVec.allOnes 64 := by decide
  have e2 : (BitVec.ofInt 64 (b : Int)).toNat = b := by rw [BitVec.toNat_ofInt]; simp; omega
  unfold bits
  show IntKind.u64.wrap (((BitVec.ofInt 64 IntKind.u64.max) ^^^ (BitVec.ofInt 64 (b : Int))).toNat : Int) = _
  rw [e1, BitVec.allOnes_xor, BitVec.toNat_not, e2, show 2 ^ 64 - 1 - b = 18446744073709551615 - b by omega, IntKind.wrap_u64]
  omega
theorem or_sign (b : Nat) (hb : b < 9223372036854775808) : bits .or .u64 (b : Int) 9223372036854775808 = ((b + 9223372036854775808 : Nat) : Int) := by
  have e2 : (BitVec.ofInt 64 (b : Int)).toNat = b := by rw [BitVec.toNat_ofInt]; simp; omega
  have e3 : (BitVec.ofInt 64 (9223372036854775808 : Int)).toNat = 9223372036854775808 := by decide
  have e4 : b ||| 9223372036854775808 = b + 9223372036854775808 := by
    have := @Nat.two_pow_add_eq_or_of_lt 63 b (by omega) 1
    rw [Nat.mul_one, show 2 ^ 63 = 9223372036854775808 by decide] at this
    rw [Nat.or_comm, ← this, Nat.add_comm]
  unfold bits
  show IntKind.u64.wrap (((BitVec.ofInt 64 (b : Int)) ||| (BitVec.ofInt 64 (9223372036854775808 : Int))).toNat : Int) = _
  rw [BitVec.toNat_or, e2, e3, e4, IntKind.wrap_u64]
  omega

section
attribute [local go_sem ↓] fl_bits
set_option maxRecDepth 100000 in
set_option maxHeartbeats 1000000 in
theorem isnan_c (b : Nat) (hb : b < 18446744073709551616) (w : World) : Calls Tryd.prog 70 #[.float .f64 b] w fun e w' => e = .returned (.bool (Fl.isN b)) ∧ w' = w := by
  have h : (FloatKind.f64.format.order b b != some .eq) = Fl.isN b := Fl.self_iff hb
  clear hb
  go_enter Tryd.func70, Tryd.ntmps70
  go_wp2
  go_ret
  exact ⟨rfl, rfl⟩

set_option maxRecDepth 100000 in
set_option maxHeartbeats 1000000 in
theorem signbit_c (b : Nat) (hb : b < 18446744073709551616) (w : World) : Calls Tryd.prog 71 #[.float .f64 b] w fun e w' => e = .returned (.bool (Fl.neg b)) ∧ w' = w := by
  have h1 : decide (wrap64 (b : Int) < 0) = Fl.neg b := by
    unfold Fl.neg wrap64
    rw [Bool.eq_iff_iff, decide_eq_true_eq, decide_eq_true_eq]
    omega
  clear hb
  go_enter Tryd.func71, Tryd.ntmps71
  go_wp2
  go_ret
  exact ⟨by rw [← h1]; rfl, rfl⟩

set_option maxRecDepth 100000 in
set_option maxHeartbeats 1000000 in
theorem mkey_c (b : Nat) (hb : b < 18446744073709551616) (w : World) : Calls Tryd.prog 65 #[.float .f64 b] w fun e w' => e = .returned (.int .u64 (Fl.mkey b : Int)) ∧ w' = w := by
  have H1 := Lib.hid (isnan_c b hb w)
  have H2 := Lib.hid (signbit_c b hb w)
  go_enter Tryd.func65, Tryd.ntmps65
  go_wp2_with fail
  refine (H1.out).mono ?_
  rintro e w1 ⟨rfl, rfl⟩
  cases hN : Fl.isN b
  · go_wp2_with fail
    refine (H2.out).mono ?_
    rintro e w2 ⟨rfl, rfl⟩
    have hsg : IntKind.u64.signed = false := rfl
    cases hs : Fl.neg b
    · have hlt : ¬ 9223372036854775808 ≤ b := by unfold Fl.neg at hs; simpa using hs
      have hx : bits .or .u64 (b : Int) 9223372036854775808 = ((Fl.mkey b : Nat) : Int) := by rw [or_sign b (by omega)]; unfold Fl.mkey; rw [hN, if_neg (by simp), if_neg hlt]
      clear hlt hs hN hb
      go_wp2_with fail
      go_ret
      exact ⟨rfl, rfl⟩
    · have hlt : 9223372036854775808 ≤ b := by unfold Fl.neg at hs; simpa using hs
      have hx : bits .xor .u64 IntKind.u64.max (b : Int) = ((Fl.mkey b : Nat) : Int) := by rw [xor_max b hb]; unfold Fl.mkey; rw [hN, if_neg (by simp), if_pos hlt]
      clear hlt hs hN hb
      go_wp2_with fail
      go_ret
      exact ⟨rfl, rfl⟩
  · go_wp2_with fail
    go_ret
    exact ⟨by unfold Fl.mkey; rw [hN]; rfl, rfl⟩

end

/-- cmp.Compare's answer -/
def cv (a b : Int) : Int := if a < b then -1 else if b < a then 1 else 0
theorem cv_lt (a b : Int) : cv a b < 0 ↔ a < b := by
  unfold cv
  by_cases h : a < b
  · rw [if_pos h]; omega
  · rw [if_neg h]
    by_cases h2 : b < a
    · rw [if_pos h2]; omega
    · rw [if_neg h2]; omega

set_option maxRecDepth 100000 in
set_option maxHeartbeats 1000000 in
theorem cmpu_c (a b : Int) (w : World) : Calls Tryd.prog 64 #[.int .u64 a, .int .u64 b] w fun e w' => e = .returned (.int .i64 (cv a b)) ∧ w' = w := by
  go_enter Tryd.func64, Tryd.ntmps64
  rcases Int.lt_trichotomy a b with h | h | h
  · have t1 : decide (a < b) = true := by simp; omega
    have e1 : cv a b = -1 := by unfold cv; rw [if_pos h]
    rw [e1]
    clear e1
    go_wp2
    go_ret
    exact ⟨rfl, rfl⟩
  · subst h
    have e1 : cv a a = 0 := by unfold cv; simp
    rw [e1]
    clear e1
    go_wp2
    go_ret
    exact ⟨rfl, rfl⟩
  · have t1 : decide (a < b) = false := by simp; omega
    have t2 : decide (b < a) = true := by simp; omega
    have e1 : cv a b = 1 := by unfold cv; rw [if_neg (by omega), if_pos h]
    rw [e1]
    clear e1
    go_wp2
    go_ret
    exact ⟨rfl, rfl⟩

set_option maxRecDepth 100000 in
set_option maxHeartbeats 1000000 in
theorem mcmp_c (a b : Nat) (ha : a < 18446744073709551616) (hb : b < 18446744073709551616) (w : World) : Calls Tryd.prog 53 #[.float .f64 a, .float .f64 b] w fun e w' => e = .returned (.int .i64 (cv (Fl.mkey a) (Fl.mkey b))) ∧ w' = w := by
  have H1 := Lib.hid (mkey_c a ha w)
  have H2 := Lib.hid (mkey_c b hb w)
  have H3 := Lib.hid (cmpu_c (Fl.mkey a) (Fl.mkey b) w)
  go_enter Tryd.func53, Tryd.ntmps53
  go_wp2_with fail
  refine (H1.out).mono ?_
  rintro e w1 ⟨rfl, rfl⟩
  go_wp2_with fail
  refine (H2.out).mono ?_
  rintro e w1 ⟨rfl, rfl⟩
  go_wp2_with fail
  refine (H3.out).mono ?_
  rintro e w1 ⟨rfl, rfl⟩
  go_wp2_with fail
  go_ret
  exact ⟨rfl, rfl⟩

theorem fl_cases (b : Nat) (hb : b < 18446744073709551616) : (Fl.isN b = true ∧ FloatKind.f64.format.order b b = none) ∨ (Fl.isN b = false ∧ FloatKind.f64.format.order b b = some .eq ∧ ((Fl.rg b = 0 ∧ FloatKind.f64.format.order b 0 = some .eq) ∨ (¬ Fl.rg b = 0 ∧ (FloatKind.f64.format.order b 0 = some .lt ∨ FloatKind.f64.format.order b 0 = some .gt)))) := by
  cases h : Fl.isN b
  · right
    refine ⟨rfl, ?_, ?_⟩
    · have := Fl.self_iff hb
      rw [h] at this
      exact (by simpa using this : Ieee.double.order b b = some .eq)
    · have hz := Fl.zero_iff hb h
      have ho := Fl.order_of hb (show 0 < 18446744073709551616 by decide) h (by decide)
      by_cases h0 : Fl.rg b = 0
      · left
        rw [decide_eq_true h0] at hz
        exact ⟨h0, (by simpa using hz : Ieee.double.order b 0 = some .eq)⟩
      · right
        rw [decide_eq_false h0] at hz
        refine ⟨h0, ?_⟩
        show Ieee.double.order b 0 = _ ∨ Ieee.double.order b 0 = _
        rw [ho] at hz ⊢
        cases hc : compare (Fl.sv b) (Fl.sv 0)
        · exact .inl rfl
        · rw [hc] at hz; cases hz
        · exact .inr rfl
  · exact .inl ⟨rfl, Fl.order_nan hb h⟩

set_option maxRecDepth 100000 in
set_option maxHeartbeats 2000000 in
theorem kind_c (b : Nat) (hb : b < 18446744073709551616) (w : World) : Calls Tryd.prog 66 #[.float .f64 b] w fun e w' => e = .returned (.int .i64 (Fl.kd b : Int)) ∧ w' = w := by
  obtain ⟨z, hzz⟩ : ∃ z : Int, z = (b : Int) := ⟨_, rfl⟩
  have hbits : ∀ W : World, (callFunc 37 #[.float .f64 b]).run Tryd.prog W = .ok (.value (.int .u64 z)) W := by intro W; rw [hzz]; exact fl_bits b W
  go_enter Tryd.func66, Tryd.ntmps66
  rcases fl_cases b hb with ⟨hn, ho⟩ | ⟨hn, ho, ⟨hz, h0⟩ | ⟨hz, h0⟩⟩
  · have e1 : Fl.kd b = 6 := by unfold Fl.kd; rw [hn]; rfl
    rw [e1]
    clear hn e1 hzz hb
    go_wp2
    go_ret
    exact ⟨rfl, rfl⟩
  · by_cases hs : 9223372036854775808 ≤ b
    · have e1 : Fl.kd b = 2 := by unfold Fl.kd Fl.neg; rw [hn, if_neg (by simp), if_pos hz, if_pos (by simpa using hs)]
      rw [e1]
      have t1 : decide ((9223372036854775808 : Int) ≤ z) = true := by simp; omega
      clear hn e1 hzz hb hz hs
      go_wp2
      go_ret
      exact ⟨rfl, rfl⟩
    · have e1 : Fl.kd b = 3 := by unfold Fl.kd Fl.neg; rw [hn, if_neg (by simp), if_pos hz, if_neg (by simpa using hs)]
      rw [e1]
      have t1 : decide ((9223372036854775808 : Int) ≤ z) = false := by simp; omega
      clear hn e1 hzz hb hz hs
      go_wp2
      go_ret
      exact ⟨rfl, rfl⟩
  · by_cases hs : 9223372036854775808 ≤ b
    · by_cases hi : b = 18442240474082181120
      · have e1 : Fl.kd b = 0 := by unfold Fl.kd Fl.neg; rw [hn, if_neg (by simp), if_neg hz, if_pos (by simpa using hs), if_pos hi]
        rw [e1]
        have t1 : decide ((9223372036854775808 : Int) ≤ z) = true := by simp; omega
        have t2 : (z == 18442240474082181120) = true := by simp; omega
        clear hn e1 hzz hb hz hs hi
        rcases h0 with h0 | h0
        all_goals
          go_wp2
          go_ret
          exact ⟨rfl, rfl⟩
      · have e1 : Fl.kd b = 1 := by unfold Fl.kd Fl.neg; rw [hn, if_neg (by simp), if_neg hz, if_pos (by simpa using hs), if_neg hi]
        rw [e1]
        have t1 : decide ((9223372036854775808 : Int) ≤ z) = true := by simp; omega
        have t2 : (z == 18442240474082181120) = false := by simp; omega
        clear hn e1 hzz hb hz hs hi
        rcases h0 with h0 | h0
        all_goals
          go_wp2
          go_ret
          exact ⟨rfl, rfl⟩
    · by_cases hi : b = 9218868437227405312
      · have e1 : Fl.kd b = 5 := by unfold Fl.kd Fl.neg; rw [hn, if_neg (by simp), if_neg hz, if_neg (by simpa using hs), if_pos hi]
        rw [e1]
        have t1 : decide ((9223372036854775808 : Int) ≤ z) = false := by simp; omega
        have t2 : (z == 9218868437227405312) = true := by simp; omega
        clear hn e1 hzz hb hz hs hi
        rcases h0 with h0 | h0
        all_goals
          go_wp2
          go_ret
          exact ⟨rfl, rfl⟩
      · have e1 : Fl.kd b = 4 := by unfold Fl.kd Fl.neg; rw [hn, if_neg (by simp), if_neg hz, if_neg (by simpa using hs), if_neg hi]
        rw [e1]
        have t1 : decide ((9223372036854775808 : Int) ≤ z) = false := by simp; omega
        have t2 : (z == 9218868437227405312) = false := by simp; omega
        clear hn e1 hzz hb hz hs hi
        rcases h0 with h0 | h0
        all_goals
          go_wp2
          go_ret
          exact ⟨rfl, rfl⟩
end Go.Proofs.YtbflcikfaoojmaaDoor.Edit

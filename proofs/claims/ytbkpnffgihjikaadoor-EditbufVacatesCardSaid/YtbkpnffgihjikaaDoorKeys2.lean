/- A buffer: how many characters there are, where the one ahead of the place begins, and the one behind it ends. -/
import Derived.Test.YtbkpnffgihjikaaDoorKeys1
set_option linter.unusedVariables false
namespace Go.Proofs.YtbkpnffgihjikaaDoor.Edit
open Go.RowKit Go.Lib Go.Shelf ChangeShapes Mem Utf UtfP

theorem countB_le (t : List UInt8) : ∀ n, countB t n ≤ n
  | 0 => Nat.le_refl _
  | n + 1 => by
    show countB t n + _ ≤ n + 1
    have := countB_le t n
    split <;> omega

set_option maxHeartbeats 1000000 in
theorem chars_c {b a c N p : Nat} {t : List UInt8} (to : Nat) (hto : to ≤ 1099511627776) (w : World) (h : Buf w b a c N t p) :
    Calls Tryd.prog 66 #[.pointer (some ⟨b, 0, none⟩), .int .i64 (to : Int)] w fun e w' => e = .returned (.int .i64 (countB t to : Int)) ∧ w' = w := by
  have H1 := Lib.hid (fun i => first_c i w h)
  clear h
  obtain ⟨R, hR⟩ : ∃ R, countB t to = R := ⟨_, rfl⟩
  rw [hR]
  have HR := Lib.hid hR
  clear hR
  go_enter Tryd.func66, Tryd.ntmps66
  go_wp2
  go_loopw [5, 8] (fun n i wr => ∃ j : Nat, i = .int .i64 (j : Int) ∧ n = .int .i64 (countB t j : Int) ∧ j ≤ to ∧ wr = w) (fun _ i _ => to - (RowKit.intOf i).toNat)
  case atStart => exact ⟨0, rfl, rfl, by omega, rfl⟩
  case round =>
    obtain ⟨j, rfl, rfl, hj, hq⟩ := hrel
    obtain rfl := hq.symm
    have hcl := countB_le t j
    by_cases hlt : j < to
    · have k0 : (j : Int) < (to : Int) := by omega
      have H2 := Lib.hid (H1.out j)
      have hstep : countB t (j + 1) = countB t j + (if firstB t j then 1 else 0) := rfl
      generalize countB t j = n at *
      cases hf : firstB t j
      · rw [hf] at H2 hstep
        have HS := Lib.hid hstep
        clear hf hstep
        go_wp2_with (go_at_call 75; refine (H2.out).mono ?_; rintro e w1 ⟨rfl, hq⟩; obtain rfl := hq.symm)
        go_roundw
        case rel => exact ⟨j + 1, by go_num, by rw [HS.out]; rfl, by omega, by first | rfl | trivial⟩
        case measure => simp [RowKit.intOf]; omega
      · rw [hf] at H2 hstep
        have HS := Lib.hid hstep
        clear hf hstep
        go_wp2_with (go_at_call 75; refine (H2.out).mono ?_; rintro e w1 ⟨rfl, hq⟩; obtain rfl := hq.symm)
        go_roundw
        case rel => exact ⟨j + 1, by go_num, by rw [HS.out]; go_num, by omega, by first | rfl | trivial⟩
        case measure => simp [RowKit.intOf]; omega
    · have hge : decide ((j : Int) < (to : Int)) = false := by simp; omega
      have hge' : decide (j < to) = false := by simp; omega
      have HJ : Hid (countB t j = R) := by rw [← HR.out, show j = to by omega]; rfl
      clear hlt
      go_wp2
      go_ret
      exact ⟨by rw [HJ.out]; rfl, rfl⟩

theorem countB_none (w : World) : Calls Tryd.prog 33 #[.pointer none] w fun e w' => e = .returned (.int .i64 0) ∧ w' = w := by
  go_enter Tryd.func33, Tryd.ntmps33
  go_wp2
  go_ret
  exact ⟨rfl, rfl⟩
theorem atB_none (w : World) : Calls Tryd.prog 36 #[.pointer none] w fun e w' => e = .returned (.int .i64 0) ∧ w' = w := by
  go_enter Tryd.func36, Tryd.ntmps36
  go_wp2
  go_ret
  exact ⟨rfl, rfl⟩

theorem count_c {b a c N p : Nat} {t : List UInt8} (w : World) (h : Buf w b a c N t p) :
    Calls Tryd.prog 33 #[.pointer (some ⟨b, 0, none⟩)] w fun e w' => e = .returned (.int .i64 (countB t t.length : Int)) ∧ w' = w := by
  have c0 := h.head.cell (j := 0) (v := .pointer (some ⟨a, 0, none⟩)) rfl
  have H1 := Lib.hid (len w h.ar)
  have H2 := Lib.hid (chars_c t.length (by have := h.ar.fit; have := h.ar.max; omega) w h)
  clear h
  go_enter Tryd.func33, Tryd.ntmps33
  go_wp2_with (first
    | (go_at_call 45; refine (H1.out).mono ?_; rintro e w1 ⟨rfl, hq⟩; obtain rfl := hq.symm)
    | (go_at_call 66; refine (H2.out).mono ?_; rintro e w1 ⟨rfl, hq⟩; obtain rfl := hq.symm))
  go_ret
  exact ⟨rfl, rfl⟩

theorem atB {b a c N p : Nat} {t : List UInt8} (w : World) (h : Buf w b a c N t p) :
    Calls Tryd.prog 36 #[.pointer (some ⟨b, 0, none⟩)] w fun e w' => e = .returned (.int .i64 (countB t p : Int)) ∧ w' = w := by
  have c1 := h.head.cell (j := 1) (v := .int .i64 (p : Int)) rfl
  have H2 := Lib.hid (chars_c p (by have := h.ar.fit; have := h.ar.max; have := h.le; omega) w h)
  clear h
  go_enter Tryd.func36, Tryd.ntmps36
  go_wp2_with (go_at_call 66; refine (H2.out).mono ?_; rintro e w1 ⟨rfl, hq⟩; obtain rfl := hq.symm)
  go_ret
  exact ⟨rfl, rfl⟩

def aheadV (t : List UInt8) : Nat → Nat
  | 0 => 0
  | i + 1 => if firstB t (i + 1) then i + 1 else aheadV t i

set_option maxHeartbeats 1000000 in
theorem ahead_c {b a c N p : Nat} {t : List UInt8} (w : World) (h : Buf w b a c N t p) (h0 : firstB t 0 = true) :
    Calls Tryd.prog 92 #[.pointer (some ⟨b, 0, none⟩)] w fun e w' => e = .returned (.int .i64 (aheadV t (p - 1) : Int)) ∧ w' = w := by
  have c1 := h.head.cell (j := 1) (v := .int .i64 (p : Int)) rfl
  have hpm : p ≤ 4096 := by have := h.ar.fit; have := h.ar.max; have := h.le; omega
  have H1 := Lib.hid (fun i => first_c i w h)
  have H0 := Lib.hid h0
  clear h h0
  obtain ⟨R, hR⟩ : ∃ R, aheadV t (p - 1) = R := ⟨_, rfl⟩
  rw [hR]
  have HR := Lib.hid hR
  clear hR
  have C0 := Lib.hid c1
  clear c1
  have main : ∀ q : Nat, q = p - 1 → ((p = 0 ∧ q = 0) ∨ (p = q + 1)) → Calls Tryd.prog 92 #[.pointer (some ⟨b, 0, none⟩)] w fun e w' => e = .returned (.int .i64 (R : Int)) ∧ w' = w := by
    intro q hq hp
    have HQ : Hid (aheadV t q = R) := by rw [hq]; exact HR.out
    have c1 := C0.out
    have hqm : q ≤ 4096 := by omega
    clear hq
    go_enter Tryd.func92, Tryd.ntmps92
    rcases hp with ⟨rfl, rfl⟩ | rfl
    all_goals
      go_wp2
      go_loopw [3] (fun i wr => ∃ j : Nat, i = .int .i64 (j : Int) ∧ Hid (aheadV t j = R) ∧ j ≤ 4096 ∧ wr = w) (fun i _ => (RowKit.intOf i).toNat)
      case atStart => first | exact ⟨0, rfl, HQ, by omega, rfl⟩ | exact ⟨q, by go_num, HQ, hqm, rfl⟩
      case round =>
        obtain ⟨j, rfl, HJ, hj, hw⟩ := hrel
        obtain rfl := hw.symm
        clear c1
        have H2 := Lib.hid (H1.out j)
        cases hf : firstB t j
        · have hj0 : j ≠ 0 := by
            intro e
            rw [e, H0.out] at hf
            cases hf
          obtain ⟨d, rfl⟩ : ∃ d, j = d + 1 := ⟨j - 1, by omega⟩
          clear hj0
          have HD : Hid (aheadV t d = R) := by
            have := HJ.out
            unfold aheadV at this
            rw [hf] at this
            exact this
          rw [hf] at H2
          clear hf
          go_wp2_with (go_at_call 75; refine (H2.out).mono ?_; rintro e w1 ⟨rfl, hq⟩; obtain rfl := hq.symm)
          go_roundw
          case rel => exact ⟨d, by go_num, HD, by omega, by first | rfl | trivial⟩
          case measure => simp [RowKit.intOf]
        · have HD : Hid (j = R) := by
            have := HJ.out
            cases j with
            | zero => exact this
            | succ d => unfold aheadV at this; rw [hf] at this; exact this
          rw [hf] at H2
          clear hf
          go_wp2_with (go_at_call 75; refine (H2.out).mono ?_; rintro e w1 ⟨rfl, hq⟩; obtain rfl := hq.symm)
          go_ret
          exact ⟨by rw [HD.out]; rfl, rfl⟩
  rcases Nat.eq_zero_or_pos p with h0 | h0
  · exact main 0 (by omega) (Or.inl ⟨h0, rfl⟩)
  · exact main (p - 1) rfl (Or.inr (by omega))

end Go.Proofs.YtbkpnffgihjikaaDoor.Edit

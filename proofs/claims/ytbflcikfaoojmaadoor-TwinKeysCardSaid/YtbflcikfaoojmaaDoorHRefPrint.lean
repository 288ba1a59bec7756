/- (the document's tests) The reference's Fine, Printable, Put, walked. -/
import Derived.Test.YtbflcikfaoojmaaDoorHPut
set_option linter.unusedVariables false
namespace Go.Proofs.YtbflcikfaoojmaaDoor.Utf
open Go.RowKit Go.Lib Go.Shelf UtfP

set_option maxHeartbeats 1000000 in
theorem refFine (c : Int) (w : World) : Calls Tryd.prog 28 #[.int .i64 c] w fun e w' => e = .returned (.bool (fineC c)) ∧ w = w' := by
  have hi := @fineC_iff c
  generalize fineC c = v at *
  by_cases h1 : 0 ≤ c
  · by_cases h2 : c ≤ 1114111
    · by_cases h3 : 55296 ≤ c
      · by_cases h4 : c ≤ 57343
        · obtain rfl : v = false := hi.2.2 (by omega)
          clear hi
          go_enter Tryd.func28, Tryd.ntmps28
          go_wp2
          go_ret
          exact ⟨rfl, rfl⟩
        · obtain rfl : v = true := hi.1.2 (by omega)
          have k4 : decide (c ≤ 57343) = false := by simp; omega
          clear hi h4
          go_enter Tryd.func28, Tryd.ntmps28
          go_wp2
          go_ret
          exact ⟨rfl, rfl⟩
      · obtain rfl : v = true := hi.1.2 (by omega)
        have k3 : decide (55296 ≤ c) = false := by simp; omega
        clear hi h3
        go_enter Tryd.func28, Tryd.ntmps28
        go_wp2
        go_ret
        exact ⟨rfl, rfl⟩
    · obtain rfl : v = false := hi.2.2 (by omega)
      have k2 : decide (c ≤ 1114111) = false := by simp; omega
      clear hi h2
      go_enter Tryd.func28, Tryd.ntmps28
      go_wp2
      go_ret
      exact ⟨rfl, rfl⟩
  · obtain rfl : v = false := hi.2.2 (by omega)
    have k1 : decide (0 ≤ c) = false := by simp; omega
    clear hi h1
    go_enter Tryd.func28, Tryd.ntmps28
    go_wp2
    go_ret
    exact ⟨rfl, rfl⟩

set_option maxHeartbeats 1000000 in
theorem refPrintable (c : Int) (w : World) : Calls Tryd.prog 10 #[.int .i64 c] w fun e w' => e = .returned (.bool (printC c)) ∧ w = w' := by
  have H1 := Lib.hid (refFine c)
  have hp : printC c = (fineC c && decide (32 ≤ c ∧ ¬ (127 ≤ c ∧ c ≤ 159))) := rfl
  generalize fineC c = f at *
  generalize printC c = v at *
  cases f with
  | false =>
    obtain rfl : v = false := by simpa using hp
    clear hp
    go_enter Tryd.func10, Tryd.ntmps10
    go_wp2_with (go_at_call 28; refine (H1.out _).mono ?_; rintro e w1 ⟨rfl, rfl⟩)
    go_ret
    exact ⟨rfl, rfl⟩
  | true =>
    by_cases h1 : 32 ≤ c
    · by_cases h2 : 127 ≤ c
      · by_cases h3 : c ≤ 159
        · obtain rfl : v = false := by rw [hp]; simp; omega
          clear hp
          go_enter Tryd.func10, Tryd.ntmps10
          go_wp2_with (go_at_call 28; refine (H1.out _).mono ?_; rintro e w1 ⟨rfl, rfl⟩)
          go_ret
          exact ⟨rfl, rfl⟩
        · obtain rfl : v = true := by rw [hp]; simp; omega
          have k3 : decide (c ≤ 159) = false := by simp; omega
          clear hp h3
          go_enter Tryd.func10, Tryd.ntmps10
          go_wp2_with (go_at_call 28; refine (H1.out _).mono ?_; rintro e w1 ⟨rfl, rfl⟩)
          go_ret
          exact ⟨rfl, rfl⟩
      · obtain rfl : v = true := by rw [hp]; simp; omega
        have k2 : decide (127 ≤ c) = false := by simp; omega
        clear hp h2
        go_enter Tryd.func10, Tryd.ntmps10
        go_wp2_with (go_at_call 28; refine (H1.out _).mono ?_; rintro e w1 ⟨rfl, rfl⟩)
        go_ret
        exact ⟨rfl, rfl⟩
    · obtain rfl : v = false := by rw [hp]; simp; omega
      have k1 : decide (32 ≤ c) = false := by simp; omega
      clear hp h1
      go_enter Tryd.func10, Tryd.ntmps10
      go_wp2_with (go_at_call 28; refine (H1.out _).mono ?_; rintro e w1 ⟨rfl, rfl⟩)
      go_ret
      exact ⟨rfl, rfl⟩

end Go.Proofs.YtbflcikfaoojmaaDoor.Utf

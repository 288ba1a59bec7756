/- How many calls a prompt may need: the program's number, and the document's. -/
import Derived.Test.YtbkdmceefefiaaaAudA
import Derived.IntWalk
set_option linter.unusedVariables false
namespace Go.Proofs.Ytbkdmceefefiaaa.Aud
open Go.RowKit Go.Lib Mem Byt

def Inside (b i p : Int) : Prop := 0 ≤ b ∧ 0 ≤ i ∧ 0 ≤ p ∧ b ≤ 1048576 ∧ i ≤ 1048576 ∧ p ≤ 1048576
instance (b i p : Int) : Decidable (Inside b i p) := by unfold Inside; infer_instance
def stepsV (b i p : Int) : Int := if Inside b i p then 10 + i + 2 * b + 30 + (b + 2) * (p + 1044) else 0

theorem prod_in {b p : Int} (hb : 0 ≤ b ∧ b ≤ 1048576) (hp : 0 ≤ p ∧ p ≤ 1048576) : 0 ≤ (b + 2) * (p + 1044) ∧ (b + 2) * (p + 1044) ≤ 1100610452360 := by
  refine ⟨Int.mul_nonneg (by omega) (by omega), ?_⟩
  have := Int.mul_le_mul (a := b + 2) (b := p + 1044) (c := 1048578) (d := 1049620) (by omega) (by omega) (by omega) (by omega)
  omega

theorem sum_in (b i p : Int) (h : Inside b i p) : wrap64 (10 + i + 2 * b + 30 + wrap64 ((b + 2) * (p + 1024 + 20))) = stepsV b i p := by
  unfold stepsV
  rw [if_pos h]
  obtain ⟨h1, h2, h3, h4, h5, h6⟩ := h
  have hp := prod_in ⟨h1, h4⟩ ⟨h3, h6⟩
  rw [show p + 1024 + 20 = p + 1044 by omega]
  generalize (b + 2) * (p + 1044) = m at *
  rw [IntWalk.wrap64_in m (by omega), IntWalk.wrap64_in _ (by omega)]

set_option maxHeartbeats 1000000 in
theorem refsteps (b i p : Int) (w : World) : Calls Try.prog 11 #[.int .i64 b, .int .i64 i, .int .i64 p] w fun e w' => e = .returned (.int .i64 (stepsV b i p)) ∧ w' = w := by
  by_cases h : Inside b i p
  · have HV := Lib.hid (sum_in b i p h)
    generalize stepsV b i p = V at *
    unfold Inside at h
    go_enter Try.func11, Try.ntmps11
    go_wp2
    all_goals
      go_ret
      exact ⟨congrArg (fun z => Ending.returned (.int .i64 z)) HV.out, rfl⟩
  · rw [show stepsV b i p = 0 from if_neg h]
    unfold Inside at h
    go_enter Try.func11, Try.ntmps11
    go_wp2
    all_goals
      go_ret
      exact ⟨rfl, rfl⟩

set_option maxHeartbeats 1000000 in
theorem steps (b i p : Int) (w : World) : Calls Try.prog 10 #[.int .i64 b, .int .i64 i, .int .i64 p] w fun e w' => e = .returned (.int .i64 (stepsV b i p)) ∧ w' = w := by
  by_cases h : Inside b i p
  · have HV := Lib.hid (sum_in b i p h)
    generalize stepsV b i p = V at *
    unfold Inside at h
    go_enter Try.func10, Try.ntmps10
    go_wp2
    all_goals
      go_ret
      exact ⟨congrArg (fun z => Ending.returned (.int .i64 z)) HV.out, rfl⟩
  · rw [show stepsV b i p = 0 from if_neg h]
    unfold Inside at h
    go_enter Try.func10, Try.ntmps10
    go_wp2
    all_goals
      go_ret
      exact ⟨rfl, rfl⟩

end Go.Proofs.Ytbkdmceefefiaaa.Aud

/- How many cells a law's number asks for; the characters of a text that is fine, counted. -/
import Derived.Test.YtbkpnffgihjikaaDoorZero
import Derived.Test.YtbkpnffgihjikaaDoorCount
import Derived.Test.YtbkpnffgihjikaaDoorListIn
import Derived.Laws.Bits64
set_option linter.unusedVariables false
namespace Go.Proofs.YtbkpnffgihjikaaDoor.Edit
open Go.RowKit Go.Lib Go.Shelf ChangeShapes Mem Utf UtfP

def szE (m : Int) (x : Int) : Nat := 1 + ((IntKind.u64.wrap x) % m).toNat

theorem size_c (x : Int) (w : World) : Calls Tryd.prog 37 #[.int .i64 x] w fun e w' => e = .returned (.int .i64 (szE 200 x : Int)) ∧ w' = w := by
  obtain ⟨u, hu⟩ : ∃ u, IntKind.u64.wrap x = u := ⟨_, rfl⟩
  have hu0 : 0 ≤ u := by rw [← hu]; rw [IntKind.wrap_u64]; omega
  obtain ⟨k, hk⟩ : ∃ k : Nat, u.tmod 200 = (k : Int) := ⟨(u.tmod 200).toNat, by
    rw [Int.tmod_eq_emod_of_nonneg hu0]; omega⟩
  have hk200 : k < 200 := by
    rw [Int.tmod_eq_emod_of_nonneg hu0] at hk
    omega
  have e2 : IntKind.i64.wrap (k : Int) = (k : Int) := by rw [IntKind.wrap_i64]; omega
  have hs : Hid ((szE 200 x : Int) = 1 + (k : Int)) := by
    unfold Hid szE
    rw [hu]
    rw [Int.tmod_eq_emod_of_nonneg hu0] at hk
    omega
  go_enter Tryd.func37, Tryd.ntmps37
  go_wp2
  go_ret
  exact ⟨by rw [hs.out]; rfl, rfl⟩
theorem szE_bd {m : Int} (x : Int) (h : 0 < m) (h2 : m ≤ 4095) : 1 ≤ szE m x ∧ szE m x ≤ 4096 := by
  unfold szE
  have := Int.emod_nonneg (IntKind.u64.wrap x) (show m ≠ 0 by omega)
  have := Int.emod_lt_of_pos (IntKind.u64.wrap x) h
  omega

theorem chars_fine' {l : List UInt8} (hf : fineT l = true) : chars l = charsOf l := by
  obtain ⟨h1, h2⟩ := charsOf_spec hf
  conv => lhs; rw [h1]
  have := chars_encs [] (charsOf l) (AllPrint.fine h2)
  rw [List.append_nil, chars_nil, List.append_nil] at this
  exact this

end Go.Proofs.YtbkpnffgihjikaaDoor.Edit

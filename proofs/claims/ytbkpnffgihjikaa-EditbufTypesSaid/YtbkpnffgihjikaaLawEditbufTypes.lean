/- Characters that may be shown are in a buffer as they were typed; that many Backs take all of them; typed ahead of one another, by Home each time, they are there the other way about. Proved for every input that the statement lets in, with no condition of ours. -/
import Derived.Test.YtbkpnffgihjikaaWalkEditbufTypes
import Derived.Test.YtbkpnffgihjikaaLaw
import Derived.HandedShaped
set_option linter.unusedVariables false
namespace Go.Proofs.Ytbkpnffgihjikaa.EditbufTypes
open Go.ChangeShapes Go.WideShapes Go.ChangeAt Go.RowKit Go.Lib Law

theorem own : ownKnob Try.prog.godebug = none := by kernel_rfl
theorem laidOut : laidOutB Try.prog = true := by kernel_rfl
set_option maxRecDepth 100000 in
theorem lifted (os : Os) (started : os.Started) (H : Type) (enc : TypeId × Value → H) :
    ReturnsInHanded {} Try.checked os 3 .any (Rows.editbufTypesSpec.pre6 enc Try.prog Try.f3 Rows.editbufTypesRow.domain false) (Rows.editbufTypesSpec.post enc Try.prog Try.f3 false true false false) := by
  refine returnsInHanded_of_change_shaped (C := Try.checked) own started (by kernel_rfl) Try.func3
    (ChangeSpec.witness6 (enc := enc) (C := Try.checked) false ⟨#[], #[.slice none 0 0], []⟩ 8 (by kernel_rfl) (by kernel_rfl) (by kernel_rfl) (by kernel_rfl)) ?_
  intro W base args ds gs before hval hW _ hsz _ _
  have hW' := hW
  obtain ⟨p, q, hA0, hV, rfl, hfz, hnd⟩ := hW
  have hA : DataW.TrodAll enc Try.prog W 0 (fun _ => true) true Try.f3.params.toList args.toList ds p := hA0
  rw [Try.params3] at hA hval hsz
  obtain ⟨v0, vs0, d0, ds0, p0, q0, hargs0, rfl, rfl, h0, r0⟩ := trodAll_cons hA
  obtain ⟨rfl, rfl, rfl⟩ := trodAll_nil r0
  obtain rfl : args = #[v0] := by cases args; simp_all
  obtain ⟨rfl, rfl⟩ := trodVars_none hV
  obtain ⟨A0, l0, cap0, rfl, hcap0, hmax0, hA0', hn0, hd0⟩ := open_nums (k := .i64) Try.underlying22 Try.underlying3 (by kernel_rfl) (hval 0 22 _ rfl rfl) h0
  have hm0 : 8 * cap0 ≤ 140737488351232 := by
    rcases hd0 with ⟨_, h⟩ | ⟨elems, spare, hd, h⟩
    · omega
    · have := sized_slice hsz (j := 0) (t := 22) (e := 3) (elems := elems) (spare := spare) rfl (by simp [hd]) Try.underlying22
      rw [show Try.checked.prog.bytesOf 3 = 8 by kernel_rfl] at this
      unfold reachBytes at this
      omega
  refine (walk l0 A0 cap0 W hA0' hcap0 (by omega) hn0).mono fun e W' ⟨he, hb⟩ => ?_
  subst he
  exact ⟨_, rfl, Law.post_law laidOut (by kernel_rfl) hW' rfl rfl rfl rfl rfl Try.underlying4 hb⟩

theorem holds : Rows.EditbufTypesSaid :=
  OpenClaim.holds_of_wide 3 Try.f3 rfl rfl rfl rfl rfl rfl rfl ⟨rfl, rfl, rfl, rfl, rfl⟩ rfl rfl rfl rfl rfl (by kernel_rfl) Try.func3 (by kernel_rfl)
    (of_decide_eq_true (by kernel_rfl)) (by unfold Func.isWrapper; first | (rw [if_pos (by decide +kernel)]; kernel_rfl) | (rw [if_neg (by decide +kernel)]; exact ⟨rfl, rfl⟩))
    (fun os started H enc _ => lifted os started H enc)
#print axioms holds

end Go.Proofs.Ytbkpnffgihjikaa.EditbufTypes

/- The reference's bytes of characters, and its Text, walked. -/
import Derived.Test.YtbkdmceefefiaabDoorChars
import Derived.Test.YtbkdmceefefiaabDoorRefPut
set_option linter.unusedVariables false
namespace Go.Proofs.YtbkdmceefefiaabDoor.Utf
open Go.RowKit Go.Lib Go.Shelf UtfP

theorem flatMap_le : ∀ (cs : List Int), (cs.flatMap enc).length ≤ 4 * cs.length
  | [] => by simp
  | c :: cs => by
    rw [List.flatMap_cons, List.length_append, List.length_cons]
    have := (enc_length c).2
    have := flatMap_le cs
    omega

set_option maxHeartbeats 2000000 in
theorem refText (l : List UInt8) (A0 : Option Addr) (cap : Nat) (w : World) (hA : BytesAt w A0 l) (hcap : l.length ≤ cap) (hm : l.length ≤ 1099511627776) :
    Calls Tryd.prog 15 #[.slice A0 l.length cap] w fun e w' => ∃ v, e = .returned v ∧ OwnB w' w.heap.size v (text l) ∧ Below w.heap.size w w' := by
  have C := (refChars l A0 cap w hA hcap hm).mono (R' := fun e w' => ∃ A cap', e = .returned (.slice A (chars l).length cap') ∧ Hid (CellsAt w' A (cellsI (chars l))) ∧ Hid (Below w.heap.size w w')) (fun e w' ⟨v, he, hown, hb⟩ => by
    obtain ⟨A, cap', rfl, _, hc, _⟩ := hown.form
    exact ⟨A, cap', he, hc, hb⟩)
  have H0 := Lib.hid C
  have hcl := chars_length_le l
  have Hf := Lib.hid (chars_fine l)
  have Ht : Hid (text l = (chars l).flatMap enc) := Lib.hid rfl
  clear C hA
  generalize text l = t at *
  generalize chars l = cs at *
  generalize l.length = n at *
  go_enter Tryd.func15, Tryd.ntmps15
  go_wp2_with (go_at_call 17; refine (H0.out).mono ?_; rintro e W0 ⟨A, cap', rfl, HA, HbW⟩)
  obtain ⟨B0, hB0⟩ : ∃ B0, B0 = W0.heap.size := ⟨_, rfl⟩
  have HB0 := Lib.hid hB0
  clear hB0
  go_loopw [3, 5] (fun out i wr => ∃ (j : Nat), i = .int .i64 (j : Int) ∧ j ≤ cs.length ∧ Hid (OwnB wr B0 out ((cs.take j).flatMap enc)) ∧ Below B0 W0 wr) (fun _ i _ => cs.length - (RowKit.intOf i).toNat)
  case atStart => exact ⟨0, rfl, by omega, OwnB.nil _ _, Below.refl _ _⟩
  case round =>
    obtain ⟨j, rfl, hj, Hown, hbw⟩ := hrel
    by_cases hlt : j < cs.length
    · have hcj : cs[j]? = some cs[j] := List.getElem?_eq_getElem hlt
      obtain ⟨c, hc⟩ : ∃ c, cs[j] = c := ⟨_, rfl⟩
      rw [hc] at hcj
      have hfc : fineC c = true := Hf.out c (by rw [← hc]; exact List.getElem_mem hlt)
      obtain ⟨b, off, rfl, hblt0, hcell⟩ := HA.out (by intro h; have := congrArg List.length h; rw [cellsI_length, List.length_nil] at this; omega)
      have hblt : b < B0 := by rw [HB0.out]; exact hblt0
      have hcw : wr.cell? ⟨b, off + j, none⟩ = some (.int .i64 c) := by
        rw [hbw.cell (p := ⟨b, off + j, none⟩) hblt]
        refine hcell j _ ?_
        unfold cellsI
        rw [List.getElem?_map, hcj]; rfl
      have C1 : Calls Tryd.prog 13 #[.int .i64 c] wr fun e w2 => ∃ A2 cap2, e = .returned (.slice A2 (enc c).length cap2) ∧ Hid (BytesAt w2 A2 (enc c)) ∧ Hid (Below wr.heap.size wr w2) :=
        (refPut c wr hfc).mono fun e w2 ⟨v, he, hown, hb⟩ => by obtain ⟨A2, cap2, rfl, _, hba, _⟩ := hown.form; exact ⟨A2, cap2, he, hba, hb⟩
      have H1 := Lib.hid C1
      have htk : cs.take (j + 1) = cs.take j ++ [c] := by rw [List.take_succ_eq_append_getElem hlt, hc]
      have Htk := Lib.hid htk
      have hl4 : ((cs.take j).flatMap enc).length ≤ 4 * j := by
        have := flatMap_le (cs.take j)
        rw [List.length_take] at this
        omega
      have he4 := (enc_length c).2
      have Hl := Lib.hid hl4
      have He := Lib.hid he4
      have k0 : (j : Int) < (cs.length : Int) := by omega
      clear C1 hcj hc hfc hcell hblt0 htk hl4 he4
      go_wp2_with (first | (go_at_call 13; refine (H1.out).mono ?_; rintro e w2 ⟨A2, cap2, rfl, hb2, hbl2⟩) | (at_builtin; refine wpList_append_bytes rfl _ _ rfl rfl (Hown.out.below hbl2.out) rfl rfl hb2.out ?_ ?_ ?_))
      · have := Hl.out; have := He.out; omega
      · have := hbw.size; have := hbl2.out.size; have := HB0.out; omega
      intro v' w3 hown3 hg3
      have hb3 : Below B0 W0 w3 := by
        have hs := hbw.size
        have hs2 := hbl2.out.size
        have hs0 := HB0.out
        exact (hbw.trans (hbl2.out.mono (by omega))).grown hg3 (by omega) (fun k hk => ((Hown.out.below hbl2.out).lt hk).1)
      have Hown3 : Hid (OwnB w3 B0 v' ((cs.take (j + 1)).flatMap enc)) := by
        unfold Hid; rw [Htk.out, List.flatMap_append, List.flatMap_singleton]; exact hown3
      clear hg3 hown3
      go_wp2
      go_roundw
      case rel => exact ⟨j + 1, by go_num, by omega, Hown3, hb3⟩
      case measure => simp [RowKit.intOf]; omega
    · have hge : decide ((j : Int) < (cs.length : Int)) = false := by simp; omega
      have hge' : decide (j < cs.length) = false := by simp; omega
      have Hb := Lib.hid hbw
      have Hj := Lib.hid (show j = cs.length by omega)
      clear hbw hlt
      go_wp2
      go_ret
      refine ⟨_, rfl, ?_, ?_⟩
      · have := Hown.out
        rw [Hj.out, List.take_length] at this
        rw [Ht.out]; exact this.base (by rw [HB0.out]; exact HbW.out.size)
      · exact HbW.out.trans (Hb.out.mono (by rw [HB0.out]; exact HbW.out.size))


end Go.Proofs.YtbkdmceefefiaabDoor.Utf

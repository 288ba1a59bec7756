/- UtfPuts: of every number the program's bytes are the document's, or that there are none, and whether it may be shown. No condition but that the two tables of unicode/utf8 hold what their initialisers lay (the card ties that). -/
import Derived.Test.YtbkdmceefefiaabDoorTabs
import Derived.Test.YtbkdmceefefiaabDoorUtfA
import Derived.Test.YtbkdmceefefiaabDoorRefPut
import Derived.Test.YtbkdmceefefiaabDoorStr
import Derived.Deep.RegionWith
set_option linter.unusedVariables false
namespace Go.Proofs.YtbkdmceefefiaabDoor.UtfPuts
open Go.ChangeShapes Go.WideShapes Go.ChangeAt Go.RowKit Utf UtfP Law

theorem alive_at {w : World} (hT : Tabs w) (w0 : World) (h0 : Below w.heap.size w w0) : Calls Tryd.prog 8 #[] w0 fun e w' => e = .returned (.bool true) ∧ Below w.heap.size w w' :=
  (alive w0 (hT.below h0)).mono fun _ _ ⟨he, hb⟩ => ⟨he, h0.trans (hb.mono h0.size)⟩
theorem printable_at {w : World} (c : Int) (w0 : World) (h0 : Below w.heap.size w w0) : Calls Tryd.prog 10 #[.int .i64 c] w0 fun e w' => e = .returned (.bool (printC c)) ∧ Below w.heap.size w w' :=
  (printable c w0).mono fun _ _ ⟨he, hb⟩ => ⟨he, h0.trans (hb.mono h0.size)⟩

set_option maxHeartbeats 1000000 in
theorem walk_bad (c : Int) (w : World) (hT : Tabs w) (h : fineC c = false) :
    Calls Tryd.prog 4 #[.int .i64 c] w fun e w' => e = .returned (.bool true) ∧ Below w.heap.size w w' := by
  have C4 := refFine c
  rw [h] at C4
  have H1 := Lib.hid (put_bad c w h)
  have H2 := Lib.hid (alive_at hT)
  have H3 := Lib.hid (printable_at (w := w) c)
  have H4 := Lib.hid (refPrintable c)
  have H5 := Lib.hid C4
  clear hT h C4
  generalize printC c = p at *
  go_enter Tryd.func4, Tryd.ntmps4
  go_wp2_with (first | (go_at_call 7; refine (H1.out).mono ?_; rintro e w1 ⟨rfl, rfl⟩) | (go_at_call 8; refine (H2.out _ (Below.refl _ _)).mono ?_; rintro e w2 ⟨rfl, hb2⟩) | (go_at_call 10; refine (H3.out _ hb2).mono ?_; rintro e w3 ⟨rfl, hb3⟩) | (go_at_call 11; refine (H4.out _).mono ?_; rintro e w4 ⟨rfl, rfl⟩) | (go_at_call 12; refine (H5.out _).mono ?_; rintro e w5 ⟨rfl, rfl⟩))
  all_goals go_ret
  all_goals exact ⟨rfl, hb3⟩

attribute [local go_sem ↓] conv_str
attribute [local go_sem] strOf_toList bytesAt_drew bytesAt_drewN
set_option maxHeartbeats 1000000 in
theorem walk_ok (c : Int) (w : World) (hT : Tabs w) (h : fineC c = true) :
    Calls Tryd.prog 4 #[.int .i64 c] w fun e w' => e = .returned (.bool true) ∧ Below w.heap.size w w' := by
  have C4 := refFine c
  rw [h] at C4
  have C1 : Calls Tryd.prog 7 #[.int .i64 c] w fun e w' => ∃ A cap, e = .returned (.tuple #[.slice A (enc c).length cap, .int .i64 0]) ∧ BytesAt w' A (enc c) ∧ Below w.heap.size w w' :=
    (put_ok c w h).mono fun e w' ⟨v, he, hown, hb⟩ => by obtain ⟨A, cap, rfl, _, hba, _⟩ := hown.form; exact ⟨A, cap, he, hba, hb⟩
  have C6 : ∀ A W, Below w.heap.size w W → BytesAt W A (enc c) → Calls Tryd.prog 13 #[.int .i64 c] W fun e w' => ∃ A' cap, e = .returned (.slice A' (enc c).length cap) ∧ BytesAt w' A' (enc c) ∧ BytesAt w' A (enc c) ∧ Below w.heap.size w w' := fun A W hW hA =>
    (refPut c W h).mono fun e w' ⟨v, he, hown, hb⟩ => by obtain ⟨A', cap, rfl, _, hba, _⟩ := hown.form; exact ⟨A', cap, he, hba, hA.below hb, hW.trans (hb.mono hW.size)⟩
  have H1 := Lib.hid C1
  have H2 := Lib.hid (fun A W (hA : BytesAt W A (enc c)) (h0 : Below w.heap.size w W) => (alive W (hT.below h0)).mono (R' := fun e w' => e = .returned (.bool true) ∧ BytesAt w' A (enc c) ∧ Below w.heap.size w w') fun e w' ⟨he, hb⟩ => ⟨he, hA.below hb, h0.trans (hb.mono h0.size)⟩)
  have H3 := Lib.hid (fun A W (hA : BytesAt W A (enc c)) (h0 : Below w.heap.size w W) => (printable c W).mono (R' := fun e w' => e = .returned (.bool (printC c)) ∧ BytesAt w' A (enc c) ∧ Below w.heap.size w w') fun e w' ⟨he, hb⟩ => ⟨he, hA.below hb, h0.trans (hb.mono h0.size)⟩)
  have H4 := Lib.hid (refPrintable c)
  have H5 := Lib.hid C4
  have H6 := Lib.hid C6
  clear hT h C4 C1 C6
  generalize printC c = p at *
  generalize enc c = l at *
  go_enter Tryd.func4, Tryd.ntmps4
  go_wp2_with (first | (go_at_call 7; refine (H1.out).mono ?_; rintro e w1 ⟨A1, cap1, rfl, hA1, hb1⟩) | (go_at_call 8; refine (H2.out _ _ hA1 hb1).mono ?_; rintro e w2 ⟨rfl, hA2, hb2⟩) | (go_at_call 10; refine (H3.out _ _ hA2 hb2).mono ?_; rintro e w3 ⟨rfl, hA3, hb3⟩) | (go_at_call 11; refine (H4.out _).mono ?_; rintro e w4 ⟨rfl, rfl⟩) | (go_at_call 12; refine (H5.out _).mono ?_; rintro e w5 ⟨rfl, rfl⟩))
  have hA3d : BytesAt w3.drew A1 l := hA3
  go_region_with (go_at_call 13; refine (H6.out A1 _ ?_ ?_).mono ?_; exact hb3.drew; exact hA3; rintro e w7 ⟨A7, cap7, rfl, hA7, hA7', hb7⟩)
  all_goals go_wp2
  all_goals go_ret
  all_goals exact ⟨rfl, hb7⟩

theorem walk (c : Int) (w : World) (hT : Tabs w) (_ : (Lit.int .i64 c).wf = true) :
    Calls Tryd.prog 4 #[.int .i64 c] w fun e w' => e = .returned (.bool true) ∧ Below w.heap.size w w' := by
  cases h : fineC c with
  | false => exact walk_bad c w hT h
  | true => exact walk_ok c w hT h

set_option maxRecDepth 100000 in
theorem contract (H : Type) (enc : TypeId × Value → H) (W : World) (base : Nat) (args : Array Value) (ds gs : List (DataW H)) (before : List MemPlace)
    (hval : ∀ (j : Nat) t v, Tryd.f4.params[j]? = some t → args[j]? = some v → Value.okWide Tryd.prog W .any base t v)
    (hW : DataW.Whole enc Tryd.prog Tryd.f4.params.toList Rows.utfPutsSpec.vars false W args.toList ds gs before)
    (hsz : (DataW.weightsEach Tryd.prog (Tryd.f4.params.toList ++ Rows.utfPutsSpec.plain.varTypes Tryd.prog) (ds ++ gs)).all (· ≤ reachBytes) = true)
    (hL : laidMetH Tryd.prog Rows.utfPutsRow.laid W) :
    Calls Tryd.prog 4 args W fun e W' => ∃ v, e = .returned v ∧ Rows.utfPutsSpec.post enc Tryd.prog Tryd.f4 false true false false W args v W' := by
  have hL' : laidMet Tryd.prog Rows.utfPutsRow.laid W := hL
  have hT : Tabs W := tabs_of hL' (by simp [Rows.utfPutsRow]) (by simp [Rows.utfPutsRow])
  clear hL hL'
  have hW' := hW
  obtain ⟨p, q, hA0, hV, rfl, hfz, hnd⟩ := hW
  have hA : DataW.TrodAll enc Tryd.prog W 0 (fun _ => true) true Tryd.f4.params.toList args.toList ds p := hA0
  rw [Tryd.params4] at hA hval hsz
  obtain ⟨v0, vs0, d0, ds0, p0, q0, hargs0, rfl, rfl, h0, r0⟩ := trodAll_cons hA
  obtain ⟨rfl, rfl, rfl⟩ := trodAll_nil r0
  obtain rfl : args = #[v0] := by cases args; simp_all
  obtain ⟨rfl, rfl⟩ := trodVars_none hV
  obtain ⟨x0, rfl, rfl, rfl, wx0⟩ := open_int Tryd.underlying3 (hval 0 3 _ rfl rfl) h0
  refine (walk x0 W hT wx0).mono fun e W' ⟨he, hb⟩ => ?_
  subst he
  exact ⟨_, rfl, post_law laidOut (by kernel_rfl) hW' rfl rfl rfl rfl rfl Tryd.underlying4 hb⟩

theorem laid_met (os : Os) : laidMet Tryd.prog Rows.utfPutsRow.laid ((laidWorld os).forCall (fun _ _ => 0) ⟨#[], #[.int .i64 0], []⟩).memory :=
  laidMet_of_run' 8 (by kernel_rfl) (by kernel_rfl)
theorem reads (os : Os) {H : Type} (enc : TypeId × Value → H) : ∃ places, DataW.whole enc Tryd.prog ((laidWorld os).forCall (fun _ _ => 0) ⟨#[], #[.int .i64 0], []⟩).memory Tryd.f4.params.toList Rows.utfPutsSpec.vars false (#[.int .i64 0] : Array Value).toList 8 = some ([.lit (.int .i64 0)], [], places) :=
  ⟨[], by kernel_rfl⟩

set_option maxRecDepth 100000 in
theorem lifted (os : Os) (started : os.Started) (H : Type) (enc : TypeId × Value → H) (F : Stop.Interp) :
    ReturnsInHanded {} Tryd.checked os 4 .any ((OpenSpec.ofChange Rows.utfPutsSpec).preRow enc Tryd.prog Tryd.f4 Rows.utfPutsRow.domain false Rows.utfPutsRow.laid) (((OpenSpec.ofChange Rows.utfPutsSpec).at F).post enc Tryd.prog Tryd.f4 false true false false) := by
  obtain ⟨places, hx⟩ := reads os enc
  refine returnsInHanded_of_row (C := Tryd.checked) (s := OpenSpec.ofChange Rows.utfPutsSpec) own started (by kernel_rfl) Tryd.func4
    (witness_row_at (enc := enc) (C := Tryd.checked) false (laidWorld os) #[.int .i64 0] rfl (by kernel_rfl) (by kernel_rfl) (by kernel_rfl)
      (OpenSpec.preRow_of_cond 8 hx (by kernel_rfl) (fun k hk => by cases hk) (by kernel_rfl) (laid_met os))) ?_
  intro W base args ds gs before hval hW _ _ hsz hL _ _
  exact contract H enc W base args ds gs before hval hW hsz hL

theorem said : Rows.UtfPutsSaid :=
  OpenClaim.holds_of_cond 4 Tryd.f4 rfl rfl rfl rfl rfl rfl rfl ⟨rfl, rfl, rfl, rfl, rfl⟩ rfl rfl rfl rfl rfl (by kernel_rfl) Tryd.func4 (by kernel_rfl)
    (of_decide_eq_true (by kernel_rfl)) (by unfold Func.isWrapper; first | (rw [if_pos (by decide +kernel)]; kernel_rfl) | (rw [if_neg (by decide +kernel)]; exact ⟨rfl, rfl⟩))
    (fun os started H enc _ F => by rw [OpenClaim.pre_eq_preRow]; exact lifted os started H enc F)

theorem plain (f : FuncId) (fn : Func) (hf : Tryd.pinned.checked.prog.funcNamed "whisperer/whispererlaw01.UtfPuts" = some f) (hfn : Tryd.pinned.checked.prog.funcs[f]? = some fn) :
    false = Tryd.pinned.checked.prog.looks [] ∧ ∀ (j : Nat) t, fn.params[j]? = some t → Tryd.pinned.checked.prog.wantsStandIn t = false := by
  obtain rfl : f = 4 := Option.some.inj ((show Tryd.prog.funcNamed "whisperer/whispererlaw01.UtfPuts" = some 4 by kernel_rfl).symm.trans hf) |>.symm
  obtain rfl : fn = Tryd.f4 := (Option.some.inj (Tryd.func4.symm.trans hfn)).symm
  refine ⟨by kernel_rfl, fun j t ht => ?_⟩
  have hmem : t ∈ Tryd.f4.params.toList := by have := Array.mem_of_getElem? ht; simpa using this
  have hall : (Tryd.f4.params.toList.all fun t => Tryd.pinned.checked.prog.wantsStandIn t == false) = true := by kernel_rfl
  simpa using List.all_eq_true.1 hall t hmem

theorem card : Rows.UtfPutsCardSaid :=
  Claim7.holds_tied_plain_at .later [] _ _ _ _ said (fun _ h => by cases h) (by kernel_rfl) (fun _ h => by cases h) utfPuts_row_tie rfl ⟨rfl, rfl⟩ (by kernel_rfl) rfl plain (by kernel_rfl)
#print axioms card
end Go.Proofs.YtbkdmceefefiaabDoor.UtfPuts

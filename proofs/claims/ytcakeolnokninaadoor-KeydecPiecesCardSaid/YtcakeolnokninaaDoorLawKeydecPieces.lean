/- KeydecPieces: in whatever pieces bytes come, the keys and what is held are the same: at every slice of bytes and every slice of cuts. No condition but that the two tables of unicode/utf8 hold what their initialisers lay (the card ties that). -/
import Derived.Test.YtcakeolnokninaaDoorHWalkKeydecPieces
set_option linter.unusedVariables false
namespace Go.Proofs.YtcakeolnokninaaDoor.KeydecPieces
open Go.ChangeShapes Go.WideShapes Go.ChangeAt Go.RowKit Utf UtfP Law

set_option maxRecDepth 100000 in
theorem contract (H : Type) (enc : TypeId × Value → H) (W : World) (base : Nat) (args : Array Value) (ds gs : List (DataW H)) (before : List MemPlace)
    (hval : ∀ (j : Nat) t v, Tryd.f5.params[j]? = some t → args[j]? = some v → Value.okWide Tryd.prog W .any base t v)
    (hW : DataW.Whole enc Tryd.prog Tryd.f5.params.toList Rows.keydecPiecesSpec.vars false W args.toList ds gs before)
    (hsz : (DataW.weightsEach Tryd.prog (Tryd.f5.params.toList ++ Rows.keydecPiecesSpec.plain.varTypes Tryd.prog) (ds ++ gs)).all (· ≤ reachBytes) = true)
    (hL : laidMetH Tryd.prog Rows.keydecPiecesRow.laid W) :
    Calls Tryd.prog 5 args W fun e W' => ∃ v, e = .returned v ∧ Rows.keydecPiecesSpec.post enc Tryd.prog Tryd.f5 false true false false W args v W' := by
  have hL' : laidMet Tryd.prog Rows.keydecPiecesRow.laid W := hL
  have hT : Tabs W := tabs_of hL' (by simp [Rows.keydecPiecesRow]) (by simp [Rows.keydecPiecesRow])
  clear hL hL'
  have hW' := hW
  obtain ⟨p, q, hA0, hV, rfl, hfz, hnd⟩ := hW
  have hA : DataW.TrodAll enc Tryd.prog W 0 (fun _ => true) true Tryd.f5.params.toList args.toList ds p := hA0
  rw [Tryd.params5] at hA hval hsz
  obtain ⟨v0, vs0, d0, ds0, p0, q0, hargs0, rfl, rfl, h0, r0⟩ := trodAll_cons hA
  obtain ⟨v1, vs1, d1, ds1, p1, q1, hargs1, rfl, rfl, h1, r1⟩ := trodAll_cons r0
  obtain ⟨rfl, rfl, rfl⟩ := trodAll_nil r1
  subst hargs1
  obtain rfl : args = #[v0, v1] := by cases args; simp_all
  obtain ⟨rfl, rfl⟩ := trodVars_none hV
  obtain ⟨A0, l0, cap0, rfl, hcap0, hmax0, hA0', hd0⟩ := open_bytes Tryd.underlying22 Tryd.underlying5 (by kernel_rfl) (hval 0 22 _ rfl rfl) h0
  have hm0 : cap0 ≤ 140737488351232 := by
    rcases hd0 with ⟨_, h⟩ | ⟨elems, spare, hd, h⟩
    · omega
    · have := sized_slice hsz (j := 0) (t := 22) (e := 5) (elems := elems) (spare := spare) rfl (by simp [hd]) Tryd.underlying22
      rw [show Tryd.prog.bytesOf 5 = 1 by kernel_rfl] at this
      unfold reachBytes at this
      omega
  obtain ⟨A1, l1, cap1, rfl, hcap1, hmax1, hA1', hn1, hd1⟩ := open_nums (k := .i64) Tryd.underlying37 Tryd.underlying3 (by kernel_rfl) (hval 1 37 _ rfl rfl) h1
  have hm1 : 8 * cap1 ≤ 140737488351232 := by
    rcases hd1 with ⟨_, h⟩ | ⟨elems, spare, hd, h⟩
    · omega
    · have := sized_slice hsz (j := 1) (t := 37) (e := 3) (elems := elems) (spare := spare) rfl (by simp [hd]) Tryd.underlying37
      rw [show Tryd.prog.bytesOf 3 = 8 by kernel_rfl] at this
      unfold reachBytes at this
      omega
  refine (walk l0 A0 cap0 l1 A1 cap1 W hT hA0' hcap0 (by omega) hA1' hcap1 (by omega) hn1).mono fun e W' ⟨he, hb⟩ => ?_
  subst he
  exact ⟨_, rfl, post_law laidOut (by kernel_rfl) hW' rfl rfl rfl rfl rfl Tryd.underlying4 hb⟩

theorem laid_met (os : Os) : laidMet Tryd.prog Rows.keydecPiecesRow.laid ((laidWorld os).forCall (fun _ _ => 0) ⟨#[], #[.slice none 0 0, .slice none 0 0], []⟩).memory :=
  laidMet_of_run' 8 (by kernel_rfl) (by kernel_rfl)
theorem reads (os : Os) {H : Type} (enc : TypeId × Value → H) : ∃ places, DataW.whole enc Tryd.prog ((laidWorld os).forCall (fun _ _ => 0) ⟨#[], #[.slice none 0 0, .slice none 0 0], []⟩).memory Tryd.f5.params.toList Rows.keydecPiecesSpec.vars false (#[.slice none 0 0, .slice none 0 0] : Array Value).toList 8 = some ([.nil, .nil], [], places) :=
  ⟨[], by kernel_rfl⟩

set_option maxRecDepth 100000 in
theorem lifted (os : Os) (started : os.Started) (H : Type) (enc : TypeId × Value → H) (F : Stop.Interp) :
    ReturnsInHanded {} Tryd.checked os 5 .any ((OpenSpec.ofChange Rows.keydecPiecesSpec).preRow enc Tryd.prog Tryd.f5 Rows.keydecPiecesRow.domain false Rows.keydecPiecesRow.laid) (((OpenSpec.ofChange Rows.keydecPiecesSpec).at F).post enc Tryd.prog Tryd.f5 false true false false) := by
  obtain ⟨places, hx⟩ := reads os enc
  refine returnsInHanded_of_row (C := Tryd.checked) (s := OpenSpec.ofChange Rows.keydecPiecesSpec) own started (by kernel_rfl) Tryd.func5
    (witness_row_at (enc := enc) (C := Tryd.checked) false (laidWorld os) #[.slice none 0 0, .slice none 0 0] rfl (by kernel_rfl) (by kernel_rfl) (by kernel_rfl)
      (OpenSpec.preRow_of_cond 8 hx (by kernel_rfl) (fun k hk => by cases hk) (by kernel_rfl) (laid_met os))) ?_
  intro W base args ds gs before hval hW _ _ hsz hL _ _
  exact contract H enc W base args ds gs before hval hW hsz hL

theorem said : Rows.KeydecPiecesSaid :=
  OpenClaim.holds_of_cond 5 Tryd.f5 rfl rfl rfl rfl rfl rfl rfl ⟨rfl, rfl, rfl, rfl, rfl⟩ rfl rfl rfl rfl rfl (by kernel_rfl) Tryd.func5 (by kernel_rfl)
    (of_decide_eq_true (by kernel_rfl)) (by unfold Func.isWrapper; first | (rw [if_pos (by decide +kernel)]; kernel_rfl) | (rw [if_neg (by decide +kernel)]; exact ⟨rfl, rfl⟩))
    (fun os started H enc _ F => by rw [OpenClaim.pre_eq_preRow]; exact lifted os started H enc F)

theorem plain (f : FuncId) (fn : Func) (hf : Tryd.pinned.checked.prog.funcNamed "whisperer/whispererlaw10.KeydecPieces" = some f) (hfn : Tryd.pinned.checked.prog.funcs[f]? = some fn) :
    false = Tryd.pinned.checked.prog.looks [] ∧ ∀ (j : Nat) t, fn.params[j]? = some t → Tryd.pinned.checked.prog.wantsStandIn t = false := by
  obtain rfl : f = 5 := Option.some.inj ((show Tryd.prog.funcNamed "whisperer/whispererlaw10.KeydecPieces" = some 5 by kernel_rfl).symm.trans hf) |>.symm
  obtain rfl : fn = Tryd.f5 := (Option.some.inj (Tryd.func5.symm.trans hfn)).symm
  refine ⟨by kernel_rfl, fun j t ht => ?_⟩
  have hmem : t ∈ Tryd.f5.params.toList := by have := Array.mem_of_getElem? ht; simpa using this
  have hall : (Tryd.f5.params.toList.all fun t => Tryd.pinned.checked.prog.wantsStandIn t == false) = true := by kernel_rfl
  simpa using List.all_eq_true.1 hall t hmem

theorem card : Rows.KeydecPiecesCardSaid :=
  Claim7.holds_tied_plain_at .later [] _ _ _ _ said (fun _ h => by cases h) (by kernel_rfl) (fun _ h => by cases h) keydecPieces_row_tie rfl ⟨rfl, rfl⟩ (by kernel_rfl) rfl plain (by kernel_rfl)
#print axioms card
end Go.Proofs.YtcakeolnokninaaDoor.KeydecPieces

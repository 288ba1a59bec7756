/- UtfBegins: at every two slices of bytes: how many bytes utf.Next tells is at least one and never more than there are or four; what stands behind doesn't change it, but for a beginning. No condition but that the two tables of unicode/utf8 hold what their initialisers lay (the card ties that). -/
import Derived.Test.YtbkdmceefefiaaaDoorTabs
import Derived.Test.YtbkdmceefefiaaaDoorUtfA
set_option linter.unusedVariables false
namespace Go.Proofs.YtbkdmceefefiaaaDoor.UtfBegins
open Go.ChangeShapes Go.WideShapes Go.ChangeAt Go.RowKit Utf UtfP Law

/-- the callees at any later world, their results by name -/
theorem next_at {w : World} (hT : Tabs w) {l : List UInt8} {A : Option Addr} {cap : Nat} (hA : BytesAt w A l) (hcap : l.length ≤ cap) (hm : l.length ≤ 140737488355328) {c k f : Nat} (hr : next l = (c, k, f)) (w0 : World) (h0 : Below w.heap.size w w0) :
    Calls Tryd.prog 6 #[.slice A l.length cap] w0 fun e w' => e = .returned (.tuple #[.int .i64 c, .int .i64 k, .int .i64 f]) ∧ Below w.heap.size w w' :=
  (nextGo l A cap w0 (hT.below h0) (hA.below h0) hcap hm).mono fun _ _ ⟨he, hb⟩ => ⟨by rw [he, hr]; rfl, h0.trans (hb.mono h0.size)⟩
theorem alive_at {w : World} (hT : Tabs w) (w0 : World) (h0 : Below w.heap.size w w0) : Calls Tryd.prog 8 #[] w0 fun e w' => e = .returned (.bool true) ∧ Below w.heap.size w w' :=
  (alive w0 (hT.below h0)).mono fun _ _ ⟨he, hb⟩ => ⟨he, h0.trans (hb.mono h0.size)⟩

/-- too long: nothing is looked at -/
theorem walk_long (n m : Nat) (A B : Option Addr) (cap cap' : Nat) (w : World) (hT : Tabs w) (hl : decide (1000 < (n : Int)) = true ∨ (decide (1000 < (n : Int)) = false ∧ decide (1000 < (m : Int)) = true)) :
    Calls Tryd.prog 4 #[.slice A n cap, .slice B m cap'] w fun e w' => e = .returned (.bool true) ∧ Below w.heap.size w w' := by
  have H3 := Lib.hid (alive_at hT)
  clear hT
  rcases hl with h | ⟨h, h'⟩
  all_goals
    go_enter Tryd.func4, Tryd.ntmps4
    go_wp2_with (go_at_call 8; refine (H3.out _ (Below.refl _ _)).mono ?_; rintro e w3 ⟨rfl, hb3⟩)
    go_ret
    exact ⟨rfl, hb3⟩

theorem walk_empty (m : Nat) (A B : Option Addr) (cap cap' : Nat) (w : World) (hT : Tabs w) (hm : decide (1000 < (m : Int)) = false) :
    Calls Tryd.prog 4 #[.slice A 0 cap, .slice B m cap'] w fun e w' => e = .returned (.bool true) ∧ Below w.heap.size w w' := by
  have H1 := Lib.hid (next_at hT (l := []) (A := A) (cap := cap) (fun h => absurd rfl h) (by simp) (by simp) next_nil)
  have H3 := Lib.hid (alive_at hT)
  clear hT
  go_enter Tryd.func4, Tryd.ntmps4
  go_wp2_with (first | (go_at_call 6; refine (H1.out _ (Below.refl _ _)).mono ?_; rintro e w1 ⟨rfl, hb1⟩) | (go_at_call 8; refine (H3.out _ hb1).mono ?_; rintro e w3 ⟨rfl, hb3⟩))
  go_ret
  exact ⟨rfl, hb3⟩

set_option maxHeartbeats 1000000 in
theorem walk_short (l : List UInt8) (m : Nat) (A B : Option Addr) (cap cap' : Nat) (w : World) (hT : Tabs w) (hA : BytesAt w A l) (hcap : l.length ≤ cap) (hne : l ≠ []) (hl : l.length ≤ 1000) (hm : decide (1000 < (m : Int)) = false) (he : (next l).2.2 = 7) :
    Calls Tryd.prog 4 #[.slice A l.length cap, .slice B m cap'] w fun e w' => e = .returned (.bool true) ∧ Below w.heap.size w w' := by
  obtain ⟨f1, f2, f3, f4, f5, _⟩ := next_facts hne
  have g := f4 he
  obtain ⟨c, hc⟩ : ∃ c, next l = (c, l.length, 7) := ⟨(next l).1, Prod.ext rfl (Prod.ext g.1 he)⟩
  have H1 := Lib.hid (next_at hT hA hcap (by omega) hc)
  have H3 := Lib.hid (alive_at hT)
  have h4 : l.length < 4 := g.2
  have hpos : 0 < l.length := List.length_pos_iff.2 hne
  clear hT hA hc g he f1 f2 f3 f4 f5 hne
  generalize l.length = n at *
  have k1 : decide (1000 < (n : Int)) = false := by simp; omega
  have k2 : (((n : Nat) : Int) == 0) = false := by simp; omega
  have k3 : decide ((n : Int) < 1) = false := by simp; omega
  have k4 : decide ((4 : Int) < (n : Int)) = false := by simp; omega
  have k5 : (n : Int) < 4 := by omega
  clear hcap hl hpos
  go_enter Tryd.func4, Tryd.ntmps4
  go_wp2_with (first | (go_at_call 6; refine (H1.out _ (Below.refl _ _)).mono ?_; rintro e w1 ⟨rfl, hb1⟩) | (go_at_call 8; refine (H3.out _ hb1).mono ?_; rintro e w3 ⟨rfl, hb3⟩))
  go_ret
  exact ⟨by simp, hb3⟩

theorem next_at' {w : World} (hT : Tabs w) {l : List UInt8} {n : Nat} (hn : l.length = n) {A : Option Addr} {cap : Nat} (hA : BytesAt w A l) (hcap : n ≤ cap) (hm : n ≤ 140737488355328) {c k f : Nat} (hr : next l = (c, k, f)) (w0 : World) (h0 : Below w.heap.size w w0) :
    Calls Tryd.prog 6 #[.slice A n cap] w0 fun e w' => e = .returned (.tuple #[.int .i64 c, .int .i64 k, .int .i64 f]) ∧ Below w.heap.size w w' := by
  subst hn; exact next_at hT hA hcap hm hr w0 h0

set_option maxHeartbeats 1000000 in
theorem walk_form (l s : List UInt8) (n m : Nat) (hn : l.length = n) (hsn : s.length = m) (A B : Option Addr) (cap cap' : Nat) (w : World) (hT : Tabs w) (hA : BytesAt w A l) (hB : BytesAt w B s) (hcap : n ≤ cap) (hne : l ≠ []) (hl : n ≤ 1000) (hs : m ≤ 1000) (he : (next l).2.2 ≠ 7) :
    Calls Tryd.prog 4 #[.slice A n cap, .slice B m cap'] w fun e w' => e = .returned (.bool true) ∧ Below w.heap.size w w' := by
  obtain ⟨f1, f2, f3, f4, f5, _⟩ := next_facts hne
  have ha := next_append (m := s) hne he
  obtain ⟨c, k, f, hc⟩ : ∃ c k f, next l = (c, k, f) := ⟨_, _, _, rfl⟩
  have H1 := Lib.hid (next_at' hT hn hA hcap (by omega) hc)
  have H3 := Lib.hid (alive_at hT)
  have HT := Lib.hid hT
  have HA := Lib.hid hA
  have HB := Lib.hid hB
  rw [hc] at f1 f2 f3 f5 he ha
  simp only at f1 f2 f3 f5 he
  have Ha := Lib.hid ha
  have hpos : 0 < l.length := List.length_pos_iff.2 hne
  have k1 : decide (1000 < (n : Int)) = false := by simp; omega
  have k1' : decide (1000 < (m : Int)) = false := by simp; omega
  have k2 : (((n : Nat) : Int) == 0) = false := by simp; omega
  have k3 : decide ((k : Int) < 1) = false := by simp; omega
  have k4 : decide ((n : Int) < (k : Int)) = false := by simp; omega
  have k4' : decide (n < k) = false := by simp; omega
  have k5 : decide ((4 : Int) < (k : Int)) = false := by simp; omega
  have k6 : ((f : Int) == 7) = false := by simp; omega
  have Hn := Lib.hid hn
  have Hm := Lib.hid hsn
  clear hT hA hB hc f4 ha hne hcap hpos f1 f2 f3 f5 he hn hsn
  go_enter Tryd.func4, Tryd.ntmps4
  go_wp2_with fail
  refine (H1.out _ (Below.refl _ _)).mono ?_
  rintro e w1 ⟨rfl, hb1⟩
  go_wp2_with (at_builtin; refine wpList_append_bytes rfl _ _ rfl rfl (OwnB.new w1 w.heap.size #[] [] rfl hb1.size (by decide)) rfl Hn.out (BytesAt.below HA.out (below_alloc hb1 hb1.size _)) ?_ ?_ ?_)
  · simp; have := Hn.out; omega
  · simp; have := hb1.size; omega
  intro v2 w2 hown2 hg2
  have hb2 : Below w.heap.size w w2 := (below_alloc hb1 hb1.size _).grown hg2 (by simp; have := hb1.size; omega) (fun k hk => by simp [Value.ownBlock] at hk; subst hk; exact hb1.size)
  obtain ⟨A2, cap2, rfl, hc2, hby2, hblk2, hob2⟩ := hown2.form
  clear hg2 hb1
  rw [Hn.out] at hc2
  have Ho2 := Lib.hid hown2
  have Hb2 := Lib.hid hblk2
  have Hob2 := Lib.hid hob2
  clear hown2 hblk2 hob2 hby2
  go_wp2_with (at_builtin; refine wpList_append_bytes rfl _ _ rfl rfl Ho2.out rfl Hm.out (BytesAt.below HB.out hb2) ?_ ?_ ?_)
  · have := Hn.out; have := Hm.out; omega
  · exact hb2.size
  intro v3 w3 hown3 hg3
  have hb3 : Below w.heap.size w w3 := hb2.grown hg3 hb2.size (fun k hk => by
    rw [Hob2.out] at hk
    cases A2 with
    | none => cases hk
    | some a => cases hk; exact (Hb2.out a rfl).1)
  obtain ⟨A3, cap3, rfl, hc3, hby3, _, _⟩ := hown3.form
  have H4 := Lib.hid (next_at' (w := w3) (hT := HT.out.below hb3) (n := n + m) (by rw [List.length_append, Hn.out, Hm.out]) hby3 (by rw [List.length_append, Hn.out, Hm.out] at hc3; exact hc3) (by omega) Ha.out)
  have hl3 : (l ++ s).length = n + m := by rw [List.length_append, Hn.out, Hm.out]
  rw [hl3]
  clear hl3 hg3 hown3 hc3 hby3
  go_wp2_with (first | (go_at_call 6; refine (H4.out _ (Below.refl _ _)).mono ?_; rintro e w4 ⟨rfl, hb4⟩) | (go_at_call 8; refine (H3.out _ (hb3.trans (hb4.mono hb3.size))).mono ?_; rintro e w5 ⟨rfl, hb5⟩))
  go_ret
  exact ⟨by simp, hb5⟩

theorem walk (l : List UInt8) (A : Option Addr) (cap : Nat) (s : List UInt8) (B : Option Addr) (cap' : Nat) (w : World) (hT : Tabs w) (hA : BytesAt w A l) (hcap : l.length ≤ cap) (hm : l.length ≤ 140737488355328) (hB : BytesAt w B s) (_ : s.length ≤ cap') (_ : s.length ≤ 140737488355328) :
    Calls Tryd.prog 4 #[.slice A l.length cap, .slice B s.length cap'] w fun e w' => e = .returned (.bool true) ∧ Below w.heap.size w w' := by
  by_cases h1 : 1000 < l.length
  · exact walk_long _ _ _ _ _ _ w hT (Or.inl (by simp; omega))
  · by_cases h2 : 1000 < s.length
    · exact walk_long _ _ _ _ _ _ w hT (Or.inr ⟨by simp; omega, by simp; omega⟩)
    · by_cases hne : l = []
      · subst hne; exact walk_empty _ _ _ _ _ w hT (by simp; omega)
      · by_cases he : (next l).2.2 = 7
        · exact walk_short l _ A B cap cap' w hT hA hcap hne (by omega) (by simp; omega) he
        · exact walk_form l s _ _ rfl rfl A B cap cap' w hT hA hB hcap hne (by omega) (by omega) he

set_option maxRecDepth 100000 in
theorem contract (H : Type) (enc : TypeId × Value → H) (W : World) (base : Nat) (args : Array Value) (ds gs : List (DataW H)) (before : List MemPlace)
    (hval : ∀ (j : Nat) t v, Tryd.f4.params[j]? = some t → args[j]? = some v → Value.okWide Tryd.prog W .any base t v)
    (hW : DataW.Whole enc Tryd.prog Tryd.f4.params.toList Rows.utfBeginsSpec.vars false W args.toList ds gs before)
    (hsz : (DataW.weightsEach Tryd.prog (Tryd.f4.params.toList ++ Rows.utfBeginsSpec.plain.varTypes Tryd.prog) (ds ++ gs)).all (· ≤ reachBytes) = true)
    (hL : laidMetH Tryd.prog Rows.utfBeginsRow.laid W) :
    Calls Tryd.prog 4 args W fun e W' => ∃ v, e = .returned v ∧ Rows.utfBeginsSpec.post enc Tryd.prog Tryd.f4 false true false false W args v W' := by
  have hL' : laidMet Tryd.prog Rows.utfBeginsRow.laid W := hL
  have hT : Tabs W := tabs_of hL' (by simp [Rows.utfBeginsRow]) (by simp [Rows.utfBeginsRow])
  clear hL hL'
  have hW' := hW
  obtain ⟨p, q, hA0, hV, rfl, hfz, hnd⟩ := hW
  have hA : DataW.TrodAll enc Tryd.prog W 0 (fun _ => true) true Tryd.f4.params.toList args.toList ds p := hA0
  rw [Tryd.params4] at hA hval hsz
  obtain ⟨v0, vs0, d0, ds0, p0, q0, hargs0, rfl, rfl, h0, r0⟩ := trodAll_cons hA
  obtain ⟨v1, vs1, d1, ds1, p1, q1, hargs1, rfl, rfl, h1, r1⟩ := trodAll_cons r0
  obtain ⟨rfl, rfl, rfl⟩ := trodAll_nil r1
  subst hargs1
  obtain rfl : args = #[v0, v1] := by cases args; simp_all
  obtain ⟨rfl, rfl⟩ := trodVars_none hV
  obtain ⟨A0, l0, cap0, rfl, hcap0, hmax0, hA0', hd0⟩ := open_bytes Tryd.underlying22 Tryd.underlying5 (by kernel_rfl) (hval 0 22 _ rfl rfl) h0
  have hm0 : cap0 ≤ 140737488351232 := by
    rcases hd0 with ⟨_, h⟩ | ⟨elems, spare, hd, h⟩
    · omega
    · have := sized_slice hsz (j := 0) (t := 22) (e := 5) (elems := elems) (spare := spare) rfl (by simp [hd]) Tryd.underlying22
      rw [show Tryd.prog.bytesOf 5 = 1 by kernel_rfl] at this
      unfold reachBytes at this
      omega
  obtain ⟨A1, l1, cap1, rfl, hcap1, hmax1, hA1', hd1⟩ := open_bytes Tryd.underlying22 Tryd.underlying5 (by kernel_rfl) (hval 1 22 _ rfl rfl) h1
  have hm1 : cap1 ≤ 140737488351232 := by
    rcases hd1 with ⟨_, h⟩ | ⟨elems, spare, hd, h⟩
    · omega
    · have := sized_slice hsz (j := 1) (t := 22) (e := 5) (elems := elems) (spare := spare) rfl (by simp [hd]) Tryd.underlying22
      rw [show Tryd.prog.bytesOf 5 = 1 by kernel_rfl] at this
      unfold reachBytes at this
      omega
  refine (walk l0 A0 cap0 l1 A1 cap1 W hT hA0' hcap0 (by omega) hA1' hcap1 (by omega)).mono fun e W' ⟨he, hb⟩ => ?_
  subst he
  exact ⟨_, rfl, post_law laidOut (by kernel_rfl) hW' rfl rfl rfl rfl rfl Tryd.underlying4 hb⟩

theorem laid_met (os : Os) : laidMet Tryd.prog Rows.utfBeginsRow.laid ((laidWorld os).forCall (fun _ _ => 0) ⟨#[], #[.slice none 0 0, .slice none 0 0], []⟩).memory :=
  laidMet_of_run' 8 (by kernel_rfl) (by kernel_rfl)
theorem reads (os : Os) {H : Type} (enc : TypeId × Value → H) : ∃ places, DataW.whole enc Tryd.prog ((laidWorld os).forCall (fun _ _ => 0) ⟨#[], #[.slice none 0 0, .slice none 0 0], []⟩).memory Tryd.f4.params.toList Rows.utfBeginsSpec.vars false (#[.slice none 0 0, .slice none 0 0] : Array Value).toList 8 = some ([.nil, .nil], [], places) :=
  ⟨[], by kernel_rfl⟩

set_option maxRecDepth 100000 in
theorem lifted (os : Os) (started : os.Started) (H : Type) (enc : TypeId × Value → H) (F : Stop.Interp) :
    ReturnsInHanded {} Tryd.checked os 4 .any ((OpenSpec.ofChange Rows.utfBeginsSpec).preRow enc Tryd.prog Tryd.f4 Rows.utfBeginsRow.domain false Rows.utfBeginsRow.laid) (((OpenSpec.ofChange Rows.utfBeginsSpec).at F).post enc Tryd.prog Tryd.f4 false true false false) := by
  obtain ⟨places, hx⟩ := reads os enc
  refine returnsInHanded_of_row (C := Tryd.checked) (s := OpenSpec.ofChange Rows.utfBeginsSpec) own started (by kernel_rfl) Tryd.func4
    (witness_row_at (enc := enc) (C := Tryd.checked) false (laidWorld os) #[.slice none 0 0, .slice none 0 0] rfl (by kernel_rfl) (by kernel_rfl) (by kernel_rfl)
      (OpenSpec.preRow_of_cond 8 hx (by kernel_rfl) (fun k hk => by cases hk) (by kernel_rfl) (laid_met os))) ?_
  intro W base args ds gs before hval hW _ _ hsz hL _ _
  exact contract H enc W base args ds gs before hval hW hsz hL

theorem said : Rows.UtfBeginsSaid :=
  OpenClaim.holds_of_cond 4 Tryd.f4 rfl rfl rfl rfl rfl rfl rfl ⟨rfl, rfl, rfl, rfl, rfl⟩ rfl rfl rfl rfl rfl (by kernel_rfl) Tryd.func4 (by kernel_rfl)
    (of_decide_eq_true (by kernel_rfl)) (by unfold Func.isWrapper; first | (rw [if_pos (by decide +kernel)]; kernel_rfl) | (rw [if_neg (by decide +kernel)]; exact ⟨rfl, rfl⟩))
    (fun os started H enc _ F => by rw [OpenClaim.pre_eq_preRow]; exact lifted os started H enc F)

theorem plain (f : FuncId) (fn : Func) (hf : Tryd.pinned.checked.prog.funcNamed "whisperer/whispererlaw01.UtfBegins" = some f) (hfn : Tryd.pinned.checked.prog.funcs[f]? = some fn) :
    false = Tryd.pinned.checked.prog.looks [] ∧ ∀ (j : Nat) t, fn.params[j]? = some t → Tryd.pinned.checked.prog.wantsStandIn t = false := by
  obtain rfl : f = 4 := Option.some.inj ((show Tryd.prog.funcNamed "whisperer/whispererlaw01.UtfBegins" = some 4 by kernel_rfl).symm.trans hf) |>.symm
  obtain rfl : fn = Tryd.f4 := (Option.some.inj (Tryd.func4.symm.trans hfn)).symm
  refine ⟨by kernel_rfl, fun j t ht => ?_⟩
  have hmem : t ∈ Tryd.f4.params.toList := by have := Array.mem_of_getElem? ht; simpa using this
  have hall : (Tryd.f4.params.toList.all fun t => Tryd.pinned.checked.prog.wantsStandIn t == false) = true := by kernel_rfl
  simpa using List.all_eq_true.1 hall t hmem

theorem card : Rows.UtfBeginsCardSaid :=
  Claim7.holds_tied_plain_at .later [] _ _ _ _ said (fun _ h => by cases h) (by kernel_rfl) (fun _ h => by cases h) utfBegins_row_tie rfl ⟨rfl, rfl⟩ (by kernel_rfl) rfl plain (by kernel_rfl)
#print axioms card
end Go.Proofs.YtbkdmceefefiaaaDoor.UtfBegins

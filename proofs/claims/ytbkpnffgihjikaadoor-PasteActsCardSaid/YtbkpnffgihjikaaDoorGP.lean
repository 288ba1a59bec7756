/- Texts joined: DefX; Paste; Paste2; Paste3; Ps; PsA; PsW; TwoIn. -/
import Derived.Test.YtbkpnffgihjikaaDoorGF
import Derived.Deep.RegionWith
import Derived.Deep.CutBlock
import Derived.Deep.DeepCutAuto
import Derived.Test.YtbkpnffgihjikaaDoorGG
import Derived.Test.YtbkpnffgihjikaaDoorGC
import Derived.LoopN
import Derived.Test.YtbkpnffgihjikaaDoorGA
/- A function that defers calls of builtins and of functions that return: its contract from its body. -/
set_option linter.unusedVariables false
namespace Go.Proofs.YtbkpnffgihjikaaDoor.Def
open Go.RowKit

section
variable {P : Program}

/-- What a frame that is on its way out leaves: its deferred calls made, one by one. -/
def LeavesX (P : Program) (fn : Func) (tmps : Array Value) (R : Ending → World → Prop) : List Deferred → World → Prop
  | [], w => ∃ v, (results fn tmps).run P w = .ok v w ∧ R (.returned v) w
  | d :: ds, w => (∃ b ats ty cn v w', d.target = .builtin b ats ty cn ∧ (invoke (.builtin b ats ty cn) d.args).run P w = .ok (.value v) w' ∧ LeavesX P fn tmps R ds w') ∨
      (∃ fv cap f args, d.target = .fn fv cap ∧ (invoke d.target d.args).run P w = .ok (.enter f args) w ∧ CallsD P f args .returning w fun e u' w' => (∃ v, e = .returned v) ∧ u' = .returning ∧ LeavesX P fn tmps R ds w')

theorem leavesX_steps {fn : Func} {tmps : Array Value} {R : Ending → World → Prop} : ∀ (ds : List Deferred) (w : World) (fr : Frame) (cs : List Frame),
    fr.mode = .returning → fr.defers = ds → fr.tmps = tmps → P.funcs[fr.fn]? = some fn → fr.kind = .normal → LeavesX P fn tmps R ds w →
    ∃ e w' fr', R e w' ∧ Comes P (lone fr cs w) (lone fr' cs w') e ∧ fr'.fn = fr.fn ∧ fr'.leaving P w' e := by
  intro ds
  induction ds with
  | nil =>
    intro w fr cs hu hd ht hf hk h
    obtain ⟨v, hr, hR⟩ := h
    exact ⟨.returned v, w, fr, hR, Steps.refl P _, rfl, hu, hd, hk, fn, hf, ht ▸ hr⟩
  | cons d ds ih =>
    intro w fr cs hu hd ht hf hk h
    rcases h with ⟨b, ats, ty, cn, v, w1, htar, hinv, hl⟩ | ⟨fv, cap, f, args, htar, hinv, hcall⟩
    · obtain ⟨t, args⟩ := d
      simp only at htar hinv
      subst htar
      have h1 := step_defer_value (cs := cs) hu hd hinv
      obtain ⟨e', w'', fr', hR', hs', hfn', hl'⟩ := ih w1 { fr with defers := ds } cs hu rfl ht hf hk hl
      exact ⟨e', w'', fr', hR', Comes.of_steps (.one h1) hs', hfn', hl'⟩
    · have h1 := step_defer (cs := cs) (by rw [hu]; simp) hd htar hinv
      obtain ⟨e, u', w', frX, ⟨⟨v, rfl⟩, rfl, hl⟩, hsteps, hkX, hgo⟩ := hcall { fr with defers := ds } cs hu
      have h2 := step_going_returned (c := { { fr with defers := ds } with mode := .returning }) (cs := cs) hkX hgo
      obtain ⟨e', w'', fr', hR', hs', hfn', hl'⟩ := ih w' { { { fr with defers := ds } with mode := .returning } with mode := settle .returning } cs rfl rfl ht hf hk hl
      exact ⟨e', w'', fr', hR', Comes.of_steps (.head h1 (Steps.trans hsteps (.one h2))) hs', hfn', hl'⟩

def bodyPostX (P : Program) (fn : Func) (R : Ending → World → Prop) : Exit → Act → World → Prop
  | .normal, a, w | .ret, a, w => LeavesX P fn a.tmps R a.defers w
  | .outgrown, _, w => R .outgrown w
  | _, _, _ => False

theorem calls_of_wp_X {f : FuncId} {fn : Func} {c : Code} {args : Array Value} {w : World} {R : Ending → World → Prop}
    (hf : P.funcs[f]? = some fn) (hb : fn.body = some c)
    (h : c.wp P (bodyPostX P fn R) { tmps := args ++ Array.replicate (fn.ntmps - args.size) undef, defers := [] } w) : Calls P f args w R := by
  intro cs
  let b : Frame := { (default : Frame) with fn := f, kind := .normal }
  have henter : Frame.enter P f args .normal =
      b.at { tmps := args ++ Array.replicate (fn.ntmps - args.size) undef, defers := [] } [.code c] := by
    simp [Frame.enter, Frame.at, hf, hb, b]
  obtain ⟨e, a', w', hq, harr⟩ := h b [] cs
  rw [← henter] at harr
  cases e with
  | normal =>
    obtain ⟨e', w'', fr', hR, hs, hfn, hl⟩ := leavesX_steps a'.defers w' { b.at a' [] with mode := .returning } cs rfl rfl rfl hf rfl hq
    exact ⟨e', w'', fr', hR, Comes.of_steps (Steps.trans harr (.one step_end)) hs, hfn, hl⟩
  | ret =>
    obtain ⟨todo, hs₀⟩ := harr
    obtain ⟨e', w'', fr', hR, hs, hfn, hl⟩ := leavesX_steps a'.defers w' { b.at a' todo with mode := .returning } cs rfl rfl rfl hf rfl hq
    exact ⟨e', w'', fr', hR, Comes.of_steps hs₀ hs, hfn, hl⟩
  | panic chain => exact hq.elim
  | exit id => exact hq.elim
  | goto l => exact hq.elim
  | outgrown => exact ⟨.outgrown, w', b, hq, harr.resolve_left (by simp [b]), rfl, trivial⟩
end

end Go.Proofs.YtbkpnffgihjikaaDoor.Def

/- A paste, walked: New, Start, Add, Drop, Begun, Over, Len. -/
set_option linter.unusedVariables false
set_option linter.unusedSimpArgs false
namespace Go.Proofs.YtbkpnffgihjikaaDoor.Edit
open Go.RowKit Go.Lib Go.Shelf ChangeShapes Mem Utf UtfP Def

/-- A stage at block s over the arena (a, c, N): the bytes that wait, whether a paste is begun, and over. -/
structure St (w : World) (s a c N : Nat) (t : List UInt8) (bg ov : Bool) : Prop where
  head : Blk w s #[.pointer (some ⟨a, 0, none⟩), .bool bg, .bool ov] 90
  ar : Ar w a c N t
  sa : s ≠ a
  sc : s ≠ c

theorem St.but {S : List Nat} {w w' : World} {s a c N : Nat} {t : List UInt8} {bg ov : Bool} (h : St w s a c N t bg ov) (hb : But S w w') (h1 : s ∉ S) (h2 : a ∉ S) (h3 : c ∉ S) : St w' s a c N t bg ov :=
  ⟨h.head.but hb h1, Ar.but h.ar hb h2 h3, h.sa, h.sc⟩
theorem St.below {w w' : World} {s a c N : Nat} {t : List UInt8} {bg ov : Bool} (h : St w s a c N t bg ov) (hb : Below w.heap.size w w') : St w' s a c N t bg ov := h.but (But.of_below (S := []) hb) (by simp) (by simp) (by simp)

section
variable {s a c N : Nat} {t : List UInt8} {bg ov : Bool}

theorem newP_nil (w : World) : Calls Tryd.prog 21 #[.pointer none] w fun e w' => e = .returned (.tuple #[.pointer none, .int .i64 1]) ∧ w' = w := by
  go_enter Tryd.func21, Tryd.ntmps21
  go_wp2
  go_ret2
  exact ⟨rfl, rfl⟩

theorem newP (w : World) (h : Ar w a c N t) :
    Calls Tryd.prog 21 #[.pointer (some ⟨a, 0, none⟩)] w fun e w' => ∃ s, e = .returned (.tuple #[.pointer (some ⟨s, 0, none⟩), .int .i64 0]) ∧ w.heap.size ≤ s ∧ St w' s a c N [] false false ∧ But [a, c] w w' := by
  have H := Lib.hid h
  have H1 := Lib.hid (wipe w h)
  clear h
  go_enter Tryd.func21, Tryd.ntmps21
  go_wp2_with (go_at_call 60; refine (H1.out).mono ?_; rintro e w1 ⟨rfl, har, hb1⟩)
  go_ret2
  have hs := hb1.size
  have h1 := H.out.head.lt
  have h2 := H.out.body.lt
  refine ⟨_, rfl, hs, ⟨Blk.new _ _ _, Ar.but har (But.of_below (S := []) ((Below.refl _ _).alloc (Nat.le_refl _) _)) (by simp) (by simp), by omega, by omega⟩, hb1.alloc _⟩

theorem start_nil (w : World) : Calls Tryd.prog 15 #[.pointer none] w fun e w' => e = .returned (.int .i64 1) ∧ w' = w := by
  go_enter Tryd.func15, Tryd.ntmps15
  go_wp2
  go_ret
  exact ⟨rfl, rfl⟩

/-- the stage's own flags are set -/
theorem St.flag {w : World} (h : St w s a c N t bg ov) : St (w.setCell ⟨s, 1, none⟩ (.bool true)) s a c N t true ov :=
  ⟨Blk.set h.head 1 _, Ar.but h.ar (But.set (S := [s]) (But.refl _ _) (Or.inl (by simp)) _) (by simp; exact fun e => h.sa e.symm) (by simp; exact fun e => h.sc e.symm), h.sa, h.sc⟩
theorem St.over {w : World} (h : St w s a c N t bg ov) (o : Bool) : St (w.setCell ⟨s, 2, none⟩ (.bool o)) s a c N t bg o :=
  ⟨Blk.set h.head 2 _, Ar.but h.ar (But.set (S := [s]) (But.refl _ _) (Or.inl (by simp)) _) (by simp; exact fun e => h.sa e.symm) (by simp; exact fun e => h.sc e.symm), h.sa, h.sc⟩

theorem start_c (w : World) (h : St w s a c N t bg ov) :
    Calls Tryd.prog 15 #[.pointer (some ⟨s, 0, none⟩)] w fun e w' => e = .returned (.int .i64 (if bg then 11 else 0)) ∧ St w' s a c N t true ov ∧ But [s, a, c] w w' := by
  have H := Lib.hid h
  have c1 := h.head.cell (j := 1) (v := .bool bg) rfl
  have f1 := h.head.free 1
  clear h
  cases bg
  · go_enter Tryd.func15, Tryd.ntmps15
    go_wp2
    go_ret
    exact ⟨rfl, St.flag H.out, (But.refl _ _).set (Or.inl (by simp)) _⟩
  · go_enter Tryd.func15, Tryd.ntmps15
    go_wp2
    go_ret
    exact ⟨rfl, H.out, But.refl _ _⟩

theorem begun_nil (w : World) : Calls Tryd.prog 18 #[.pointer none] w fun e w' => e = .returned (.bool false) ∧ w' = w := by
  go_enter Tryd.func18, Tryd.ntmps18
  go_wp2
  go_ret
  exact ⟨rfl, rfl⟩
theorem begun_c (w : World) (h : St w s a c N t bg ov) : Calls Tryd.prog 18 #[.pointer (some ⟨s, 0, none⟩)] w fun e w' => e = .returned (.bool bg) ∧ w' = w := by
  have c1 := h.head.cell (j := 1) (v := .bool bg) rfl
  clear h
  go_enter Tryd.func18, Tryd.ntmps18
  go_wp2
  go_ret
  exact ⟨rfl, rfl⟩
theorem over_nil (w : World) : Calls Tryd.prog 19 #[.pointer none] w fun e w' => e = .returned (.bool false) ∧ w' = w := by
  go_enter Tryd.func19, Tryd.ntmps19
  go_wp2
  go_ret
  exact ⟨rfl, rfl⟩
theorem over_c (w : World) (h : St w s a c N t bg ov) : Calls Tryd.prog 19 #[.pointer (some ⟨s, 0, none⟩)] w fun e w' => e = .returned (.bool ov) ∧ w' = w := by
  have c1 := h.head.cell (j := 2) (v := .bool ov) rfl
  clear h
  go_enter Tryd.func19, Tryd.ntmps19
  go_wp2
  go_ret
  exact ⟨rfl, rfl⟩
theorem lenP_nil (w : World) : Calls Tryd.prog 20 #[.pointer none] w fun e w' => e = .returned (.int .i64 0) ∧ w' = w := by
  go_enter Tryd.func20, Tryd.ntmps20
  go_wp2
  go_ret
  exact ⟨rfl, rfl⟩
theorem lenP (w : World) (h : St w s a c N t bg ov) : Calls Tryd.prog 20 #[.pointer (some ⟨s, 0, none⟩)] w fun e w' => e = .returned (.int .i64 (t.length : Int)) ∧ w' = w := by
  have c1 := h.head.cell (j := 0) (v := .pointer (some ⟨a, 0, none⟩)) rfl
  have H1 := Lib.hid (len w h.ar)
  clear h
  go_enter Tryd.func20, Tryd.ntmps20
  go_wp2_with (go_at_call 45; refine (H1.out).mono ?_; rintro e w1 ⟨rfl, hq⟩; obtain rfl := hq.symm)
  go_ret
  exact ⟨rfl, rfl⟩

theorem drop_nil (w : World) : Calls Tryd.prog 14 #[.pointer none] w fun e w' => e = .returned (.tuple #[]) ∧ w' = w := by
  go_enter Tryd.func14, Tryd.ntmps14
  go_wp2
  go_end0
  exact ⟨rfl, rfl⟩

/-- behind a drop -/
theorem St.dropped {w1 : World} (hh : Blk w1 s #[.pointer (some ⟨a, 0, none⟩), .bool bg, .bool ov] 90) (har : Ar w1 a c N []) (h1 : s ≠ a) (h2 : s ≠ c) : St ((w1.setCell ⟨s, 1, none⟩ (.bool false)).setCell ⟨s, 2, none⟩ (.bool false)) s a c N [] false false :=
  ⟨Blk.set (Blk.set hh 1 _) 2 _, Ar.but (Ar.but har (But.set (S := [s]) (But.refl _ _) (Or.inl (by simp)) _) (by simp; exact fun e => h1 e.symm) (by simp; exact fun e => h2 e.symm)) (But.set (S := [s]) (But.refl _ _) (Or.inl (by simp)) _) (by simp; exact fun e => h1 e.symm) (by simp; exact fun e => h2 e.symm), h1, h2⟩

theorem drop_c (w : World) (h : St w s a c N t bg ov) :
    Calls Tryd.prog 14 #[.pointer (some ⟨s, 0, none⟩)] w fun e w' => e = .returned (.tuple #[]) ∧ St w' s a c N [] false false ∧ But [s, a, c] w w' := by
  have H := Lib.hid h
  have c0 := h.head.cell (j := 0) (v := .pointer (some ⟨a, 0, none⟩)) rfl
  have H1 := Lib.hid (wipe w h.ar)
  clear h
  go_enter Tryd.func14, Tryd.ntmps14
  go_wp2_with (go_at_call 60; refine (H1.out).mono ?_; rintro e w1 ⟨rfl, har, hb1⟩; have hh1 := H.out.head.but hb1 (by simp; exact ⟨H.out.sa, H.out.sc⟩); have g1 := hh1.cell (j := 1) (v := .bool bg) rfl; have gf := hh1.free 1; have g2 := hh1.cell (j := 2) (v := .bool ov) rfl; have gf2 := hh1.free 2; have HH1 := Lib.hid hh1; have HAR := Lib.hid har; have HB1 := Lib.hid hb1; clear hh1 har hb1)
  go_end0
  exact ⟨rfl, St.dropped HH1.out HAR.out H.out.sa H.out.sc, ((HB1.out.mono (by simp)).set (Or.inl (by simp)) _).set (Or.inl (by simp)) _⟩

/-- a drop, deferred -/
theorem drop_d (w : World) (h : St w s a c N t bg ov) :
    CallsD Tryd.prog 14 #[.pointer (some ⟨s, 0, none⟩)] .returning w fun e u w' => u = .returning ∧ (e = .returned (.tuple #[]) ∧ St w' s a c N [] false false ∧ But [s, a, c] w w') := by
  have H := Lib.hid h
  have c0 := h.head.cell (j := 0) (v := .pointer (some ⟨a, 0, none⟩)) rfl
  have H1 := Lib.hid (wipe w h.ar)
  clear h
  refine callsD_of_wp Tryd.func14 rfl ?_
  simp only [Tryd.ntmps14, List.size_toArray, List.length_cons, List.length_nil, Nat.reduceAdd, Nat.reduceSub, Array.replicate_succ, Array.replicate_zero, List.push_toArray, List.append_toArray, List.nil_append, List.cons_append]
  go_wp2_with (go_at_call 60; refine (H1.out).mono ?_; rintro e w1 ⟨rfl, har, hb1⟩; have hh1 := H.out.head.but hb1 (by simp; exact ⟨H.out.sa, H.out.sc⟩); have g1 := hh1.cell (j := 1) (v := .bool bg) rfl; have gf := hh1.free 1; have g2 := hh1.cell (j := 2) (v := .bool ov) rfl; have gf2 := hh1.free 2; have HH1 := Lib.hid hh1; have HAR := Lib.hid har; have HB1 := Lib.hid hb1; clear hh1 har hb1)
  go_end0
  exact ⟨rfl, St.dropped HH1.out HAR.out H.out.sa H.out.sc, ((HB1.out.mono (by simp)).set (Or.inl (by simp)) _).set (Or.inl (by simp)) _⟩
end

end Go.Proofs.YtbkpnffgihjikaaDoor.Edit

/- A paste, walked: Add. -/
set_option linter.unusedVariables false
set_option linter.unusedSimpArgs false
namespace Go.Proofs.YtbkpnffgihjikaaDoor.Edit
open Go.RowKit Go.Lib Go.Shelf ChangeShapes Mem Utf UtfP Def

section
variable {s a c N : Nat} {t : List UInt8} {bg ov : Bool}

theorem add_nil (x : Int) (w : World) : Calls Tryd.prog 16 #[.pointer none, .int .i64 x] w fun e w' => e = .returned (.int .i64 1) ∧ w' = w := by
  refine calls_of_wp_B Tryd.func16 rfl ?_
  simp only [Tryd.ntmps16, List.size_toArray, List.length_cons, List.length_nil, Nat.reduceAdd, Nat.reduceSub, Array.replicate_succ, Array.replicate_zero, List.push_toArray, List.append_toArray, List.nil_append, List.cons_append]
  go_wp2
  (try simp only [Exit.inBlock, Exit.then])
  exact ⟨_, results_tmp rfl _ _ _, rfl, rfl⟩

theorem add_state (x : Int) (w : World) (h : St w s a c N t false ov) : Calls Tryd.prog 16 #[.pointer (some ⟨s, 0, none⟩), .int .i64 x] w fun e w' => e = .returned (.int .i64 11) ∧ w' = w := by
  have c1 := h.head.cell (j := 1) (v := .bool false) rfl
  clear h
  refine calls_of_wp_B Tryd.func16 rfl ?_
  simp only [Tryd.ntmps16, List.size_toArray, List.length_cons, List.length_nil, Nat.reduceAdd, Nat.reduceSub, Array.replicate_succ, Array.replicate_zero, List.push_toArray, List.append_toArray, List.nil_append, List.cons_append]
  go_wp2
  (try simp only [Exit.inBlock, Exit.then])
  exact ⟨_, results_tmp rfl _ _ _, rfl, rfl⟩

theorem add_bad (x : Int) (hx : printC x = false) (w : World) (h : St w s a c N t true ov) : Calls Tryd.prog 16 #[.pointer (some ⟨s, 0, none⟩), .int .i64 x] w fun e w' => e = .returned (.int .i64 2) ∧ Below w.heap.size w w' := by
  have c1 := h.head.cell (j := 1) (v := .bool true) rfl
  have H1 := Lib.hid (printable x w)
  rw [hx] at H1
  clear h hx
  refine calls_of_wp_B Tryd.func16 rfl ?_
  simp only [Tryd.ntmps16, List.size_toArray, List.length_cons, List.length_nil, Nat.reduceAdd, Nat.reduceSub, Array.replicate_succ, Array.replicate_zero, List.push_toArray, List.append_toArray, List.nil_append, List.cons_append]
  go_wp2_with (go_at_call 53; refine (H1.out).mono ?_; rintro e w1 ⟨rfl, hb1⟩)
  (try simp only [Exit.inBlock, Exit.then])
  exact ⟨_, results_tmp rfl _ _ _, rfl, hb1⟩

theorem add_over (x : Int) (hx : printC x = true) (w : World) (h : St w s a c N t true true) : Calls Tryd.prog 16 #[.pointer (some ⟨s, 0, none⟩), .int .i64 x] w fun e w' => e = .returned (.int .i64 4) ∧ Below w.heap.size w w' := by
  have c1 := h.head.cell (j := 1) (v := .bool true) rfl
  have H := Lib.hid h
  have H1 := Lib.hid (printable x w)
  rw [hx] at H1
  clear h hx
  refine calls_of_wp_B Tryd.func16 rfl ?_
  simp only [Tryd.ntmps16, List.size_toArray, List.length_cons, List.length_nil, Nat.reduceAdd, Nat.reduceSub, Array.replicate_succ, Array.replicate_zero, List.push_toArray, List.append_toArray, List.nil_append, List.cons_append]
  go_wp2_with (go_at_call 53; refine (H1.out).mono ?_; rintro e w1 ⟨rfl, hb1⟩; have c2 := (H.out.below hb1).head.cell (j := 2) (v := .bool true) rfl)
  (try simp only [Exit.inBlock, Exit.then])
  exact ⟨_, results_tmp rfl _ _ _, rfl, hb1⟩

set_option maxRecDepth 100000 in
set_option maxHeartbeats 1000000 in
theorem add_go (x : Int) (hx : printC x = true) (w : World) (h : St w s a c N t true false) (er : Int) (t' : List UInt8) (ov' : Bool)
    (hv : (t.length + (enc x).length ≤ N ∧ er = 0 ∧ t' = t ++ enc x ∧ ov' = false) ∨ (N < t.length + (enc x).length ∧ er = 4 ∧ t' = t ∧ ov' = true)) :
    Calls Tryd.prog 16 #[.pointer (some ⟨s, 0, none⟩), .int .i64 x] w fun e w' => e = .returned (.int .i64 er) ∧ St w' s a c N t' true ov' ∧ But [s, a, c] w w' := by
  have c1 := h.head.cell (j := 1) (v := .bool true) rfl
  have H1 := Lib.hid (printable x w)
  rw [hx] at H1
  have H := Lib.hid h
  have HV := Lib.hid hv
  have HF := Lib.hid (printC_fine hx)
  clear h hx hv
  refine calls_of_wp_B Tryd.func16 rfl ?_
  simp only [Tryd.ntmps16, List.size_toArray, List.length_cons, List.length_nil, Nat.reduceAdd, Nat.reduceSub, Array.replicate_succ, Array.replicate_zero, List.push_toArray, List.append_toArray, List.nil_append, List.cons_append]
  go_wp2_with fail
  refine (H1.out).mono ?_
  rintro e w1 ⟨rfl, hb1⟩
  have HB1 := Lib.hid hb1
  have H2 := Lib.hid (put_ok x w1 HF.out)
  have c2 := (H.out.below hb1).head.cell (j := 2) (v := .bool false) rfl
  clear hb1
  go_wp2_with fail
  refine (H2.out).mono ?_
  rintro e w2 ⟨v, rfl, hown, hb2⟩
  have hb12 : Below w.heap.size w w2 := HB1.out.trans (hb2.mono HB1.out.size)
  obtain ⟨g, cap, cur, rfl, hgB, hgk, hn⟩ : ∃ g cap cur, v = .slice (some ⟨g, 0, none⟩) (enc x).length cap ∧ w1.heap.size ≤ g ∧ Blk w2 g cur 5 ∧ (enc x).length ≤ cur.size := by
    rcases hown.2 with ⟨_, h0⟩ | ⟨g, cap, cur, rfl, hB, hg, hn, hm, hsz, _⟩
    · exact absurd h0 (by have := (enc_length x).1; omega)
    · exact ⟨g, cap, cur, rfl, hB, hg, by rw [hsz]; omega⟩
  obtain ⟨A2, cap2, hA2, _, hbytes, _⟩ := hown.form
  injection hA2 with e1 e2 e3
  subst e1 e3
  have hst2 := H.out.below hb12
  have hlen2 : Calls Tryd.prog 45 #[.pointer (some ⟨a, 0, none⟩)] w2.drew fun e w' => e = .returned (.int .i64 (t.length : Int)) ∧ w' = w2.drew := len w2.drew (Ar.drew hst2.ar)
  have H3 : Hid (Calls Tryd.prog 24 #[.pointer (some ⟨a, 0, none⟩), .int .i64 (t.length : Int), .slice (some ⟨g, 0, none⟩) (enc x).length cap] w2.drew fun e w' => e = .returned (.int .i64 er) ∧ Ar w' a c N t' ∧ But [a, c] w2 w' ∧ ov' = (er != 0)) := by
    have har := (Ar.drew hst2.ar)
    rcases HV.out with ⟨h1, rfl, rfl, rfl⟩ | ⟨h1, rfl, rfl, rfl⟩
    · refine (insert_ok t.length _ (enc x) cap w2.drew har (Nat.le_refl _) h1 (BytesAt.src hbytes) (fun ad had _ => ?_)).mono fun e w' ⟨he, hA, hb⟩ => ⟨he, ?_, (But.refl _ _).drew.trans hb, rfl⟩
      · obtain rfl := Option.some.inj had
        have := H.out.ar.body.lt
        have := HB1.out.size
        show g ≠ c
        omega
      · rw [List.take_length, List.drop_length, List.append_nil] at hA; exact hA
    · exact (insert_full t'.length _ _ cap w2.drew har (Nat.le_refl _) h1).mono fun e w' ⟨he, hb⟩ => ⟨he, Ar.but har hb (by simp) (by simp), ((But.refl _ _).drew).trans (hb.mono (by simp)), rfl⟩
  have c0 : w2.drew.cell? ⟨s, 0, none⟩ = some (.pointer (some ⟨a, 0, none⟩)) := hst2.head.cell (j := 0) rfl
  have HH2 := Lib.hid hst2.head
  have HL2 := Lib.hid hlen2
  have HG : Hid (Blk w2 g cur 5) := hgk
  have HN := Lib.hid hn
  have HGB : Hid (w.heap.size ≤ g) := Nat.le_trans HB1.out.size hgB
  have HB12 := Lib.hid hb12
  clear hown hb2 hb12 hgB hgk hn hbytes hst2 hlen2
  go_wp2
  go_region_with (first
    | (go_at_call 45; refine (HL2.out).mono ?_; rintro e w3 ⟨rfl, hq⟩; obtain rfl := hq.symm)
    | (go_at_call 24; refine (H3.out).mono ?_; rintro e w3 ⟨rfl, har3, hb3, hov⟩))
  all_goals
    have hh3 : Blk w3 s #[.pointer (some ⟨a, 0, none⟩), .bool true, .bool false] 90 := HH2.out.but hb3 (by have := H.out.sa; have := H.out.sc; simp; omega)
    have g2 := hh3.cell (j := 2) (v := .bool false) rfl
    have gf := hh3.free 2
    have HH3 := Lib.hid hh3
    have HAR3 := Lib.hid har3
    have HB3 := Lib.hid hb3
    have HOV := Lib.hid hov
    clear hh3 har3 hb3 hov c0 c1 c2
    go_wp2
    (try simp only [Exit.inBlock, Exit.then])
    have l1 := H.out.head.lt
    have l2 := H.out.ar.head.lt
    have l3 := H.out.ar.body.lt
    have hgb := HGB.out
    have hb4 : But [s] w3 (w3.setCell ⟨s, 2, none⟩ (.bool (er != 0))) := (But.refl _ _).set (Or.inl (by simp)) _
    have hgk3 : Blk (w3.setCell ⟨s, 2, none⟩ (.bool (er != 0))) g cur 5 := (HG.out.but HB3.out (by simp; omega)).but hb4 (by simp; omega)
    have hst4 : St (w3.setCell ⟨s, 2, none⟩ (.bool (er != 0))) s a c N t' true ov' := by
      rw [HOV.out]
      exact ⟨Blk.set HH3.out 2 _, Ar.but HAR3.out hb4 (by simp; exact fun e => H.out.sa e.symm) (by simp; exact fun e => H.out.sc e.symm), H.out.sa, H.out.sc⟩
    obtain ⟨w5, hinv, hb5⟩ := inv_clear (w3.setCell ⟨s, 2, none⟩ (.bool (er != 0))) g cap (enc x).length cur hgk3 HN.out
    refine ⟨_, _, _, _, _, w5, rfl, hinv, ?_⟩
    refine ⟨_, results_tmp rfl _ _ _, rfl, hst4.but hb5 (by simp; omega) (by simp; omega) (by simp; omega), ?_⟩
    have h14 : But [s, a, c] w (w3.setCell ⟨s, 2, none⟩ (.bool (er != 0))) := ((But.of_below HB12.out).trans (HB3.out.mono (by simp))).trans (hb4.mono (by simp))
    exact ⟨hb5.os.trans h14.os, hb5.tape.trans h14.tape, hb5.output.trans h14.output, Nat.le_trans h14.size hb5.size, fun k hk hs => by
      rw [hb5.block k (Nat.lt_of_lt_of_le hk h14.size) (by simp; omega)]
      exact h14.block k hk hs⟩
end

end Go.Proofs.YtbkpnffgihjikaaDoor.Edit

/- A paste, walked: End. -/
set_option linter.unusedVariables false
set_option linter.unusedSimpArgs false
namespace Go.Proofs.YtbkpnffgihjikaaDoor.Edit
open Go.RowKit Go.Lib Go.Shelf ChangeShapes Mem Utf UtfP Def

section
variable {s a c N : Nat} {t : List UInt8} {bg ov : Bool}

theorem end_nil (v : Option Addr) (w : World) : Calls Tryd.prog 17 #[.pointer none, .pointer v] w fun e w' => e = .returned (.int .i64 1) ∧ w' = w := by
  refine calls_of_wp_X Tryd.func17 rfl ?_
  simp only [Tryd.ntmps17, List.size_toArray, List.length_cons, List.length_nil, Nat.reduceAdd, Nat.reduceSub, Array.replicate_succ, Array.replicate_zero, List.push_toArray, List.append_toArray, List.nil_append, List.cons_append]
  go_wp2
  (try simp only [Exit.inBlock, Exit.then])
  exact ⟨_, results_tmp rfl _ _ _, rfl, rfl⟩

theorem end_state (v : Option Addr) (w : World) (h : St w s a c N t false ov) : Calls Tryd.prog 17 #[.pointer (some ⟨s, 0, none⟩), .pointer v] w fun e w' => e = .returned (.int .i64 11) ∧ w' = w := by
  have c1 := h.head.cell (j := 1) (v := .bool false) rfl
  clear h
  refine calls_of_wp_X Tryd.func17 rfl ?_
  simp only [Tryd.ntmps17, List.size_toArray, List.length_cons, List.length_nil, Nat.reduceAdd, Nat.reduceSub, Array.replicate_succ, Array.replicate_zero, List.push_toArray, List.append_toArray, List.nil_append, List.cons_append]
  go_wp2
  (try simp only [Exit.inBlock, Exit.then])
  exact ⟨_, results_tmp rfl _ _ _, rfl, rfl⟩

theorem call_drop (s : Nat) (w : World) : (invoke (.fn (.func 14) #[]) #[.pointer (some ⟨s, 0, none⟩)]).run Tryd.prog w = .ok (.enter 14 #[.pointer (some ⟨s, 0, none⟩)]) w := rfl

theorem CallsD.mono' {P : Program} {f : FuncId} {args : Array Value} {u : FrameMode} {w : World} {R R' : Ending → FrameMode → World → Prop} (h : CallsD P f args u w R) (hr : ∀ e u w, R e u w → R' e u w) : CallsD P f args u w R' := by
  intro c cs hc
  obtain ⟨e, u', w', fr, h1, h2⟩ := h c cs hc
  exact ⟨e, u', w', fr, hr _ _ _ h1, h2⟩

/-- the drop that leaves last -/
theorem leave_drop {fn : Func} {tmps : Array Value} {R : Ending → World → Prop} (w : World) (h : St w s a c N t bg ov) (v : Value) (hres : ∀ W, (results fn tmps).run Tryd.prog W = .ok v W) (hR : ∀ w', St w' s a c N [] false false → But [s, a, c] w w' → R (.returned v) w') :
    LeavesX Tryd.prog fn tmps R [{ target := .fn (.func 14) #[], args := #[.pointer (some ⟨s, 0, none⟩)] }] w := by
  refine Or.inr ⟨_, _, _, _, rfl, call_drop s w, ?_⟩
  refine CallsD.mono' (drop_d w h) fun e u w' ⟨hu, he, hst, hb⟩ => ⟨⟨_, he⟩, hu, v, hres w', hR w' hst hb⟩

theorem end_over {b : Nat} (w : World) (h : St w s a c N t true true) : Calls Tryd.prog 17 #[.pointer (some ⟨s, 0, none⟩), .pointer (some ⟨b, 0, none⟩)] w fun e w' => e = .returned (.int .i64 4) ∧ St w' s a c N [] false false ∧ But [s, a, c] w w' := by
  have c1 := h.head.cell (j := 1) (v := .bool true) rfl
  have c2 := h.head.cell (j := 2) (v := .bool true) rfl
  have H := Lib.hid h
  clear h
  refine calls_of_wp_X Tryd.func17 rfl ?_
  simp only [Tryd.ntmps17, List.size_toArray, List.length_cons, List.length_nil, Nat.reduceAdd, Nat.reduceSub, Array.replicate_succ, Array.replicate_zero, List.push_toArray, List.append_toArray, List.nil_append, List.cons_append]
  go_wp2
  (try simp only [Exit.inBlock, Exit.then])
  exact leave_drop w H.out _ (fun W => results_tmp rfl _ _ _) fun w' h1 h2 => ⟨rfl, h1, h2⟩

theorem zero_cells : Tryd.zeroCells93 = (cellsB (List.replicate 4096 0)).toArray := by kernel_rfl
theorem zeros_blk (w : World) : Blk (w.alloc (.cells Tryd.zeroCells93 93)) w.heap.size (cellsB (List.replicate 4096 0)).toArray 93 := by
  rw [zero_cells]; exact Blk.new _ _ _

theorem inv_clear_win (W : World) (g cap n : Nat) (cur : List Value) (hg : Win W g 0 cur) (hn : n ≤ cur.length) (h0 : 0 < n) :
    ∃ W', (invoke (.builtin .clear #[22] 0 #[false]) #[.slice (some ⟨g, 0, none⟩) n cap]).run Tryd.prog W = .ok (.value (.tuple #[])) W' ∧ But [g] W W' := by
  have hcell : ∀ j, j < n → (W.cell? ⟨g, 0 + j, none⟩).isSome = true := fun j hj => by
    rw [hg.cell j _ (List.getElem?_eq_getElem (by omega))]; rfl
  have hrun := run_clear_slice (P := Tryd.prog) W 22 5 0 (.int .u8 0) Tryd.underlying22 zero_u8 rfl rfl g 0 n cap h0 hcell (fun j hj => hg.free j (by omega))
  exact ⟨W.setCells g 0 (List.replicate n (.int .u8 0)), by simp [invoke, builtin, hrun], But.setCells (Or.inl (by simp)) _ _ _ (But.refl _ _)⟩


theorem win_bytes {w : World} {g : Nat} {cur : List Value} {t : List UInt8} (h : Win w g 0 (splice cur 0 (cellsB t))) : BytesAt w (some ⟨g, 0, none⟩) t := by
  intro hne
  have hc : ∀ j, j < t.length → w.cell? ⟨g, 0 + j, none⟩ = some (.int .u8 (bt t j : Int)) := fun j hj => by
    refine h.cell j _ ?_
    unfold splice
    rw [List.take_zero, List.nil_append, List.getElem?_append_left (by rw [cellsB_length]; exact hj)]
    exact cellsB_get t j hj
  refine ⟨g, 0, rfl, ?_, hc⟩
  have := World.block_lt_of_cell? _ _ (hc 0 (List.length_pos_iff.2 hne))
  exact this

/-- what an insertion leaves -/
noncomputable def insP (N : Nat) (t : List UInt8) (A B : List Int) : Int × List Int := if fineT t then (if (encs A ++ encs B).length + t.length ≤ N then (0, A ++ charsOf t) else (4, A)) else (8, A)

theorem ins_p {b a c N : Nat} {A B : List Int} (Q : Option Addr) (l : List UInt8) (cap : Nat) (w : World) (hT : Tabs w) (h : Ed w b a c N A B) (hA : BytesAt w Q l) (hcap : l.length ≤ cap) (hm : l.length ≤ 140737488355328) (hc : ∀ ad, Q = some ad → l ≠ [] → ad.block ≠ c) :
    Calls Tryd.prog 32 #[.pointer (some ⟨b, 0, none⟩), .slice Q l.length cap] w fun e w' => e = .returned (.int .i64 (insP N l A B).1) ∧ Ed w' b a c N (insP N l A B).2 B ∧ But [b, a, c] w w' := by
  refine (ins_e Q l cap w hT h hA hcap hm hc).mono fun e w' ⟨er, A', he, hed, hbt, hcase⟩ => ?_
  rcases hcase with ⟨hf, rfl, rfl⟩ | ⟨hf, hx, rfl, rfl⟩ | ⟨hf, hx, rfl, rfl⟩
  · have : insP N l A' B = (8, A') := by unfold insP; rw [hf]; rfl
    rw [this]
    exact ⟨he, hed, hbt⟩
  · have : insP N l A' B = (4, A') := by unfold insP; rw [hf, if_pos rfl, if_neg (by omega)]
    rw [this]
    exact ⟨he, hed, hbt⟩
  · have : insP N l A B = (0, A ++ charsOf l) := by unfold insP; rw [hf, if_pos rfl, if_pos hx]
    rw [this]
    exact ⟨he, hed, hbt⟩

set_option maxRecDepth 100000 in
set_option maxHeartbeats 1000000 in
/-- What End leaves behind. -/
theorem end_go {b a2 c2 N2 : Nat} {A B : List Int} (w : World) (hT : Tabs w) (h : St w s a c N t true false) (hb : Ed w b a2 c2 N2 A B) (hap : (s ≠ b ∧ s ≠ a2 ∧ s ≠ c2) ∧ (a ≠ b ∧ a ≠ a2 ∧ a ≠ c2) ∧ (c ≠ b ∧ c ≠ a2 ∧ c ≠ c2)) :
    Calls Tryd.prog 17 #[.pointer (some ⟨s, 0, none⟩), .pointer (some ⟨b, 0, none⟩)] w fun e w' => e = .returned (.int .i64 (insP N2 t A B).1) ∧ St w' s a c N [] false false ∧ Ed w' b a2 c2 N2 (insP N2 t A B).2 B ∧ But [s, a, c, b, a2, c2] w w' := by
  have c1 := h.head.cell (j := 1) (v := .bool true) rfl
  have c2' := h.head.cell (j := 2) (v := .bool false) rfl
  have c0 := h.head.cell (j := 0) (v := .pointer (some ⟨a, 0, none⟩)) rfl
  have H := Lib.hid h
  have HB := Lib.hid hb
  have HT := Lib.hid hT
  have HAP := Lib.hid hap
  clear h hb hT hap
  obtain ⟨er, her⟩ : ∃ er, (insP N2 t A B).1 = er := ⟨_, rfl⟩
  obtain ⟨A', hA'⟩ : ∃ A', (insP N2 t A B).2 = A' := ⟨_, rfl⟩
  rw [her, hA']
  have HER := Lib.hid her
  have HA' := Lib.hid hA'
  clear her hA'
  refine calls_of_wp_X Tryd.func17 rfl ?_
  simp only [Tryd.ntmps17, List.size_toArray, List.length_cons, List.length_nil, Nat.reduceAdd, Nat.reduceSub, Array.replicate_succ, Array.replicate_zero, List.push_toArray, List.append_toArray, List.nil_append, List.cons_append]
  go_upto_region 10 with fail
  have hw1 : Below w.heap.size w (w.alloc (.cells Tryd.zeroCells93 93)) := (Below.refl _ _).alloc (Nat.le_refl _) _
  have hz := zeros_blk w
  obtain ⟨w1, hw1e⟩ : ∃ w1, w.alloc (.cells Tryd.zeroCells93 93) = w1 := ⟨_, rfl⟩
  obtain ⟨g, hg⟩ : ∃ g, w.heap.size = g := ⟨_, rfl⟩
  rw [hw1e, hg] at hz
  rw [hw1e] at hw1
  rw [hw1e, hg]
  have HG := Lib.hid hg
  have HW1 := Lib.hid hw1
  have hgn : g ≠ s ∧ g ≠ a ∧ g ≠ c ∧ g ≠ b ∧ g ≠ a2 ∧ g ≠ c2 := by
    have h1 := H.out.head.lt
    have h2 := H.out.ar.head.lt
    have h3 := H.out.ar.body.lt
    have h4 := HB.out.buf.head.lt
    have h5 := HB.out.buf.ar.head.lt
    have h6 := HB.out.buf.ar.body.lt
    omega
  have HGN := Lib.hid hgn
  have HGL := Lib.hid hz.lt
  have hst1 := H.out.below hw1
  have hed1 : Ed w1 b a2 c2 N2 A B := HB.out.but (But.of_below (S := []) hw1) (by simp) (by simp) (by simp)
  have hwin : Win w1.drew g 0 (cellsB (List.replicate 4096 0)) := ⟨hz.win.cell, hz.win.free⟩
  have hC := copy_c (some ⟨g, 0, none⟩) 4096 4096 g 0 (cellsB (List.replicate 4096 0)) w1.drew (Ar.drew hst1.ar) hwin (fun _ => rfl) (by rw [cellsB_length, List.length_replicate]; exact Nat.le_refl _)
  have htm : t.length ≤ 4096 := by have := hst1.ar.fit; have := hst1.ar.max; omega
  rw [show min 4096 t.length = t.length by omega, List.take_of_length_le htm] at hC
  have HC := Lib.hid hC
  have d0 : w1.drew.cell? ⟨s, 0, none⟩ = some (.pointer (some ⟨a, 0, none⟩)) := hst1.head.cell (j := 0) rfl
  have HST1 := Lib.hid hst1
  have HED1 := Lib.hid hed1
  have htm' : (t.length : Int) ≤ 4096 := by omega
  have HTM := Lib.hid htm
  clear hw1e hg hw1 hz hgn hst1 hed1 hwin hC c0 c1 c2' htm
  have HINS : Hid (∀ w3, Win w3 g 0 (splice (cellsB (List.replicate 4096 0)) 0 (cellsB t)) → But [g] w1.drew w3 → Calls Tryd.prog 32 #[.pointer (some ⟨b, 0, none⟩), .slice (some ⟨g, 0, none⟩) t.length 4096] w3 fun e w' => e = .returned (.int .i64 er) ∧ Ed w' b a2 c2 N2 A' B ∧ But [b, a2, c2] w3 w') := fun w3 hwin3 hb3 => by
    have hgn := HGN.out
    have hb3' : But [g] w1 w3 := (But.refl _ _).drew.trans hb3
    have hbel : Below w.heap.size w w3 := HW1.out.trans (hb3'.below HW1.out.size (by have := HG.out; simp; omega))
    have hed3 := HED1.out.but hb3' (by simp; omega) (by simp; omega) (by simp; omega)
    have := ins_p (some ⟨g, 0, none⟩) t 4096 w3 (HT.out.below hbel) hed3 (win_bytes hwin3) HTM.out (by have := HTM.out; omega) (fun ad had _ => by cases had; show g ≠ c2; omega)
    rw [HER.out, HA'.out] at this
    exact this
  go_region_with (first
    | (go_at_call 62; refine (HC.out).mono ?_; rintro e w3 ⟨rfl, hwin3, hb3⟩; have HWIN3 := Lib.hid hwin3; have HB3 := Lib.hid hb3; clear hwin3 hb3)
    | (go_at_call 32; refine (HINS.out _ HWIN3.out HB3.out).mono ?_; rintro e w4 ⟨rfl, hed4, hb4⟩))
  all_goals
    have hgn := HGN.out
    have hap := HAP.out
    have hb3' : But [g] w1 w3 := (But.refl _ _).drew.trans HB3.out
    have hwin4 := HWIN3.out.but hb4 (by simp; omega) (Nat.lt_of_lt_of_le HGL.out hb3'.size)
    have hst4 := (HST1.out.but hb3' (by simp; omega) (by simp; omega) (by simp; omega)).but hb4 (by simp; omega) (by simp; omega) (by simp; omega)
    obtain ⟨w5, hinv, hb5⟩ := inv_clear_win w4 g 4096 4096 _ hwin4 (by rw [length_splice _ _ _ (by rw [cellsB_length, cellsB_length, List.length_replicate]; have := HTM.out; omega), cellsB_length, List.length_replicate]; exact Nat.le_refl _) (by decide)
    have hst5 := hst4.but hb5 (by simp; omega) (by simp; omega) (by simp; omega)
    have hed5 := hed4.but hb5 (by simp; omega) (by simp; omega) (by simp; omega)
    have HINV := Lib.hid hinv
    have HST5 := Lib.hid hst5
    have HED5 := Lib.hid hed5
    have HBT5 : Hid (But [s, a, c, b, a2, c2, g] w w5) := ((((But.of_below HW1.out).trans (hb3'.mono (by simp))).trans (hb4.mono (by simp))).trans (hb5.mono (by simp)))
    clear hgn hap hb3' hb4 hwin4 hst4 hinv hb5 hst5 hed5 hed4
    go_wp2
    (try simp only [Exit.inBlock, Exit.then])
    refine Or.inl ⟨_, _, _, _, _, w5, rfl, HINV.out, ?_⟩
    refine leave_drop w5 HST5.out _ (fun W => results_tmp rfl _ _ _) fun w' h1 h2 => ⟨rfl, h1, HED5.out.but h2 (by have := HAP.out; simp; omega) (by have := HAP.out; simp; omega) (by have := HAP.out; simp; omega), ?_⟩
    exact (HBT5.out.trans (h2.mono (by simp))).mono (by have := HG.out; simp; omega)

theorem end_none (w : World) (h : St w s a c N t true ov) : Calls Tryd.prog 17 #[.pointer (some ⟨s, 0, none⟩), .pointer none] w fun e w' => e = .returned (.int .i64 1) ∧ St w' s a c N [] false false ∧ But [s, a, c] w w' := by
  have c1 := h.head.cell (j := 1) (v := .bool true) rfl
  have c2' := h.head.cell (j := 2) (v := .bool ov) rfl
  have c0 := h.head.cell (j := 0) (v := .pointer (some ⟨a, 0, none⟩)) rfl
  have H := Lib.hid h
  clear h
  refine calls_of_wp_X Tryd.func17 rfl ?_
  simp only [Tryd.ntmps17, List.size_toArray, List.length_cons, List.length_nil, Nat.reduceAdd, Nat.reduceSub, Array.replicate_succ, Array.replicate_zero, List.push_toArray, List.append_toArray, List.nil_append, List.cons_append]
  go_upto_region 10 with fail
  have hw1 : Below w.heap.size w (w.alloc (.cells Tryd.zeroCells93 93)) := (Below.refl _ _).alloc (Nat.le_refl _) _
  have hz := zeros_blk w
  obtain ⟨w1, hw1e⟩ : ∃ w1, w.alloc (.cells Tryd.zeroCells93 93) = w1 := ⟨_, rfl⟩
  obtain ⟨g, hg⟩ : ∃ g, w.heap.size = g := ⟨_, rfl⟩
  rw [hw1e, hg] at hz
  rw [hw1e] at hw1
  rw [hw1e, hg]
  have HG := Lib.hid hg
  have HW1 := Lib.hid hw1
  have hgn : g ≠ s ∧ g ≠ a ∧ g ≠ c := by
    have h1 := H.out.head.lt
    have h2 := H.out.ar.head.lt
    have h3 := H.out.ar.body.lt
    omega
  have HGN := Lib.hid hgn
  have HGL := Lib.hid hz.lt
  have hst1 := H.out.below hw1
  have hwin : Win w1.drew g 0 (cellsB (List.replicate 4096 0)) := ⟨hz.win.cell, hz.win.free⟩
  have hC := copy_c (some ⟨g, 0, none⟩) 4096 4096 g 0 (cellsB (List.replicate 4096 0)) w1.drew (Ar.drew hst1.ar) hwin (fun _ => rfl) (by rw [cellsB_length, List.length_replicate]; exact Nat.le_refl _)
  have htm : t.length ≤ 4096 := by have := hst1.ar.fit; have := hst1.ar.max; omega
  rw [show min 4096 t.length = t.length by omega, List.take_of_length_le htm] at hC
  have HC := Lib.hid hC
  have d0 : w1.drew.cell? ⟨s, 0, none⟩ = some (.pointer (some ⟨a, 0, none⟩)) := hst1.head.cell (j := 0) rfl
  have HST1 := Lib.hid hst1
  have htm' : (t.length : Int) ≤ 4096 := by omega
  have HTM := Lib.hid htm
  clear hw1e hg hw1 hz hgn hst1 hwin hC c0 c1 c2' htm
  go_region_with (first
    | (go_at_call 62; refine (HC.out).mono ?_; rintro e w3 ⟨rfl, hwin3, hb3⟩; have HWIN3 := Lib.hid hwin3; have HB3 := Lib.hid hb3; clear hwin3 hb3)
    | (go_at_call 32; refine (insB_nil _ _).mono ?_; rintro e w4 ⟨rfl, hq⟩; obtain rfl := hq.symm))
  all_goals
    have hgn := HGN.out
    have hb3' : But [g] w1 w3 := (But.refl _ _).drew.trans HB3.out
    have hst4 := HST1.out.but hb3' (by simp; omega) (by simp; omega) (by simp; omega)
    obtain ⟨w5, hinv, hb5⟩ := inv_clear_win w3 g 4096 4096 _ HWIN3.out (by rw [length_splice _ _ _ (by rw [cellsB_length, cellsB_length, List.length_replicate]; have := HTM.out; omega), cellsB_length, List.length_replicate]; exact Nat.le_refl _) (by decide)
    have hst5 := hst4.but hb5 (by simp; omega) (by simp; omega) (by simp; omega)
    have HINV := Lib.hid hinv
    have HST5 := Lib.hid hst5
    have HBT5 : Hid (But [s, a, c, g] w w5) := (((But.of_below HW1.out).trans (hb3'.mono (by simp))).trans (hb5.mono (by simp)))
    clear hgn hb3' hst4 hinv hb5 hst5
    go_wp2
    (try simp only [Exit.inBlock, Exit.then])
    refine Or.inl ⟨_, _, _, _, _, w5, rfl, HINV.out, ?_⟩
    refine leave_drop w5 HST5.out _ (fun W => results_tmp rfl _ _ _) fun w' h1 h2 => ⟨rfl, h1, ?_⟩
    exact (HBT5.out.trans (h2.mono (by simp))).mono (by have := HG.out; simp; omega)

end

end Go.Proofs.YtbkpnffgihjikaaDoor.Edit

/- A paste and a buffer, by characters: what their calls answer; the law's own beginnings; the document's example. -/
set_option linter.unusedVariables false
set_option linter.unusedSimpArgs false
namespace Go.Proofs.YtbkpnffgihjikaaDoor.Edit
open Go.RowKit Go.Lib Go.Shelf ChangeShapes Mem Utf UtfP Def

theorem charsOf_encs {L : List Int} (h : AllPrint L) : charsOf (encs L) = L := by
  have h1 := chars_fine' (fine_encs L h)
  have h2 := chars_encs [] L (AllPrint.fine h)
  rw [List.append_nil, chars_nil, List.append_nil] at h2
  rw [← h1]
  exact h2

/-- a stage of characters -/
structure Stg (w : World) (s a c N : Nat) (L : List Int) (bg ov : Bool) : Prop where
  st : St w s a c N (encs L) bg ov
  pr : AllPrint L

theorem Stg.but {S : List Nat} {w w' : World} {s a c N : Nat} {L : List Int} {bg ov : Bool} (h : Stg w s a c N L bg ov) (hb : But S w w') (h1 : s ∉ S) (h2 : a ∉ S) (h3 : c ∉ S) : Stg w' s a c N L bg ov := ⟨h.st.but hb h1 h2 h3, h.pr⟩

/-- what a character that is added answers: the error, the characters, whether it is over -/
def addE (N : Nat) (x : Int) (L : List Int) (bg ov : Bool) : Int × List Int × Bool :=
  if bg then (if printC x then (if ov then (4, L, true) else if (encs L).length + (enc x).length ≤ N then (0, L ++ [x], false) else (4, L, true)) else (2, L, ov)) else (11, L, ov)
/-- what an end answers: the error, what stands ahead of the place -/
def endE (N2 : Nat) (L : List Int) (bg ov : Bool) (A B : List Int) : Int × List Int :=
  if bg then (if ov then (4, A) else if (encs A ++ encs B).length + (encs L).length ≤ N2 then (0, A ++ L) else (4, A)) else (11, A)

section
variable {s a c N : Nat} {L : List Int} {bg ov : Bool}

theorem add_any (x : Int) (w : World) (h : Stg w s a c N L bg ov) :
    Calls Tryd.prog 16 #[.pointer (some ⟨s, 0, none⟩), .int .i64 x] w fun e w' => e = .returned (.int .i64 (addE N x L bg ov).1) ∧ Stg w' s a c N (addE N x L bg ov).2.1 bg (addE N x L bg ov).2.2 ∧ But [s, a, c] w w' := by
  unfold addE
  cases bg
  · refine (add_state x w h.st).mono fun e w' ⟨he, hw⟩ => ⟨he, ?_, ?_⟩
    · subst hw; exact h
    · subst hw; exact But.refl _ _
  · cases hp : printC x
    · refine (add_bad x hp w h.st).mono fun e w' ⟨he, hb⟩ => ⟨he, h.but (But.of_below (S := []) hb) (by simp) (by simp) (by simp), But.of_below hb⟩
    · cases ov
      · by_cases hl : (encs L).length + (enc x).length ≤ N
        · rw [if_pos rfl, if_pos rfl, if_neg (by simp), if_pos hl]
          refine (add_go x hp w h.st 0 (encs L ++ enc x) false (Or.inl ⟨hl, rfl, rfl, rfl⟩)).mono fun e w' ⟨he, hst, hb⟩ => ⟨he, ⟨?_, ?_⟩, hb⟩
          · rw [encs_append, encs_one]; exact hst
          · intro y hy
            rcases List.mem_append.1 hy with hy | hy
            · exact h.pr y hy
            · simp at hy; rw [hy]; exact hp
        · rw [if_pos rfl, if_pos rfl, if_neg (by simp), if_neg hl]
          exact (add_go x hp w h.st 4 _ true (Or.inr ⟨by omega, rfl, rfl, rfl⟩)).mono fun e w' ⟨he, hst, hb⟩ => ⟨he, ⟨hst, h.pr⟩, hb⟩
      · refine (add_over x hp w h.st).mono fun e w' ⟨he, hb⟩ => ⟨he, h.but (But.of_below (S := []) hb) (by simp) (by simp) (by simp), But.of_below hb⟩

theorem start_any (w : World) (h : Stg w s a c N L bg ov) :
    Calls Tryd.prog 15 #[.pointer (some ⟨s, 0, none⟩)] w fun e w' => e = .returned (.int .i64 (if bg then 11 else 0)) ∧ Stg w' s a c N L true ov ∧ But [s, a, c] w w' :=
  (start_c w h.st).mono fun e w' ⟨he, hst, hb⟩ => ⟨he, ⟨hst, h.pr⟩, hb⟩
theorem drop_any (w : World) (h : Stg w s a c N L bg ov) :
    Calls Tryd.prog 14 #[.pointer (some ⟨s, 0, none⟩)] w fun e w' => e = .returned (.tuple #[]) ∧ Stg w' s a c N [] false false ∧ But [s, a, c] w w' :=
  (drop_c w h.st).mono fun e w' ⟨he, hst, hb⟩ => ⟨he, ⟨hst, by intro y hy; simp at hy⟩, hb⟩
end

/-- where a stage and a buffer lie -/
structure Apt (s a c b a2 c2 : Nat) : Prop where
  s' : s ≠ b ∧ s ≠ a2 ∧ s ≠ c2
  a' : a ≠ b ∧ a ≠ a2 ∧ a ≠ c2
  c' : c ≠ b ∧ c ≠ a2 ∧ c ≠ c2

/-- a stage and a buffer -/
structure Pb (w : World) (s a c N : Nat) (L : List Int) (bg ov : Bool) (b a2 c2 N2 : Nat) (A B : List Int) : Prop where
  sg : Stg w s a c N L bg ov
  ed : Ed w b a2 c2 N2 A B
  ap : Apt s a c b a2 c2

section
variable {s a c N b a2 c2 N2 : Nat} {L L' A B A' B' : List Int} {bg ov bg' ov' : Bool}

theorem Pb.below {w w' : World} (h : Pb w s a c N L bg ov b a2 c2 N2 A B) (hb : Below w.heap.size w w') : Pb w' s a c N L bg ov b a2 c2 N2 A B :=
  ⟨h.sg.but (But.of_below (S := []) hb) (by simp) (by simp) (by simp), h.ed.but (But.of_below (S := []) hb) (by simp) (by simp) (by simp), h.ap⟩
theorem Pb.stage {w w' : World} (h : Pb w s a c N L bg ov b a2 c2 N2 A B) (hs : Stg w' s a c N L' bg' ov') (hb : But [s, a, c] w w') : Pb w' s a c N L' bg' ov' b a2 c2 N2 A B :=
  ⟨hs, h.ed.but hb (by have := h.ap.s'; have := h.ap.a'; have := h.ap.c'; simp; omega) (by have := h.ap.s'; have := h.ap.a'; have := h.ap.c'; simp; omega) (by have := h.ap.s'; have := h.ap.a'; have := h.ap.c'; simp; omega), h.ap⟩
theorem Pb.buffer {w w' : World} (h : Pb w s a c N L bg ov b a2 c2 N2 A B) (he : Ed w' b a2 c2 N2 A' B') (hb : But [b, a2, c2] w w') : Pb w' s a c N L bg ov b a2 c2 N2 A' B' :=
  ⟨h.sg.but hb (by have := h.ap.s'; simp; omega) (by have := h.ap.a'; simp; omega) (by have := h.ap.c'; simp; omega), he, h.ap⟩

theorem end_any (w : World) (hT : Tabs w) (h : Pb w s a c N L bg ov b a2 c2 N2 A B) :
    Calls Tryd.prog 17 #[.pointer (some ⟨s, 0, none⟩), .pointer (some ⟨b, 0, none⟩)] w fun e w' => e = .returned (.int .i64 (endE N2 L bg ov A B).1) ∧
      Pb w' s a c N (if bg then [] else L) false (if bg then false else ov) b a2 c2 N2 (endE N2 L bg ov A B).2 B ∧ But [s, a, c, b, a2, c2] w w' := by
  unfold endE
  cases bg
  · refine (end_state _ w h.sg.st).mono fun e w' ⟨he, hw⟩ => ⟨he, ?_, ?_⟩
    · subst hw; exact h
    · subst hw; exact But.refl _ _
  · cases ov
    · have hins : insP N2 (encs L) A B = if (encs A ++ encs B).length + (encs L).length ≤ N2 then (0, A ++ L) else (4, A) := by
        unfold insP
        rw [fine_encs L h.sg.pr, charsOf_encs h.sg.pr, if_pos rfl]
      have := end_go w hT h.sg.st h.ed ⟨h.ap.s', h.ap.a', h.ap.c'⟩
      rw [hins] at this
      exact this.mono fun e w' ⟨he, hst, hed, hb⟩ => ⟨he, ⟨⟨hst, by intro y hy; simp at hy⟩, hed, h.ap⟩, hb⟩
    · exact (end_over w h.sg.st).mono fun e w' ⟨he, hst, hb⟩ => ⟨he, h.stage ⟨hst, by intro y hy; simp at hy⟩ hb, hb.mono (by simp)⟩
end

theorem beginP_c (n m : Nat) (h1 : 1 ≤ n) (h2 : n ≤ 4096) (h3 : 1 ≤ m) (h4 : m ≤ 4096) (w : World) :
    Calls Tryd.prog 26 #[.int .i64 (n : Int), .int .i64 (m : Int)] w fun e w' => ∃ s a c b a2 c2, e = .returned (.tuple #[.pointer (some ⟨a, 0, none⟩), .pointer (some ⟨s, 0, none⟩), .pointer (some ⟨b, 0, none⟩)]) ∧
      (w.heap.size ≤ s ∧ w.heap.size ≤ a ∧ w.heap.size ≤ c ∧ w.heap.size ≤ b ∧ w.heap.size ≤ a2 ∧ w.heap.size ≤ c2) ∧ Pb w' s a c n [] false false b a2 c2 m [] [] ∧ Below w.heap.size w w' := by
  have H1 := Lib.hid (new_ex n h1 h2 w)
  have H2 := Lib.hid (fun W => new_ex m h3 h4 W)
  clear h1 h2 h3 h4
  go_enter Tryd.func26, Tryd.ntmps26
  go_wp2_with fail
  refine (H1.out).mono ?_
  rintro e w1 ⟨a, c, rfl, hla, hlc, har, hb1⟩
  have HAR1 := Lib.hid har
  have HB1 := Lib.hid hb1
  have HL1 := Lib.hid (And.intro hla hlc)
  clear har hb1 hla hlc
  go_wp2_with fail
  refine (H2.out _).mono ?_
  rintro e w2 ⟨a2, c2, rfl, hla, hlc, har, hb2⟩
  have HL2 : Hid (w1.heap.size ≤ a2 ∧ w1.heap.size ≤ c2) := ⟨hla, hlc⟩
  have HAR2 : Hid (Ar w2 a c n []) := Ar.but HAR1.out (But.of_below (S := []) hb2) (by simp) (by simp)
  have HBR2 := Lib.hid har
  have HW2 : Hid (Below w.heap.size w w2) := HB1.out.trans (hb2.mono HB1.out.size)
  have hac : a < w1.heap.size ∧ c < w1.heap.size := ⟨HAR1.out.head.lt, HAR1.out.body.lt⟩
  have HAC := Lib.hid hac
  have H3 := Lib.hid (newP w2 HAR2.out)
  clear har hb2 hla hlc hac
  go_wp2_with fail
  refine (H3.out).mono ?_
  rintro e w3 ⟨s, rfl, hls, hst, hb3⟩
  have HLS : Hid (w2.heap.size ≤ s) := hls
  have HST3 := Lib.hid hst
  have HBR3 : Hid (Ar w3 a2 c2 m []) := Ar.but HBR2.out hb3 (by have := HAC.out; have := HL2.out; simp; omega) (by have := HAC.out; have := HL2.out; simp; omega)
  have HBT3 := Lib.hid hb3
  have hac2 : a2 < w2.heap.size ∧ c2 < w2.heap.size := ⟨HBR2.out.head.lt, HBR2.out.body.lt⟩
  have HAC2 := Lib.hid hac2
  have hs3 := hst.head.lt
  have HS3 := Lib.hid hs3
  have H4 := Lib.hid (newB w3 HBR3.out)
  clear hls hst hb3 hac2 hs3
  go_wp2_with fail
  refine (H4.out).mono ?_
  rintro e w4 ⟨b, rfl, hlb, hbuf, hb4⟩
  have HLB : Hid (w3.heap.size ≤ b) := hlb
  have HBUF := Lib.hid hbuf
  have HB4 := Lib.hid hb4
  clear hlb hbuf hb4
  go_wp2
  refine bodyPost_ret (v := .tuple #[.pointer (some ⟨a, 0, none⟩), .pointer (some ⟨s, 0, none⟩), .pointer (some ⟨b, 0, none⟩)]) (by simp [results, Tryd.results26, go_sem]) rfl ?_
  have q1 := HL1.out
  have q2 := HL2.out
  have q3 := HAC.out
  have q4 := HAC2.out
  have q5 := HLS.out
  have q6 := HLB.out
  have q7 := HS3.out
  have z1 := HB1.out.size
  have z2 := HBT3.out.size
  have z3 : w1.heap.size ≤ w2.heap.size := by omega
  have z4 := HW2.out.size
  refine ⟨s, a, c, b, a2, c2, rfl, ⟨by omega, by omega, by omega, by omega, by omega, by omega⟩, ⟨⟨HST3.out.but HB4.out (by simp; omega) (by simp; omega) (by simp; omega), by intro y hy; simp at hy⟩, ⟨HBUF.out, by intro y hy; simp at hy⟩, ⟨by omega, by omega, by omega⟩⟩, ?_⟩
  exact (HW2.out.trans (HBT3.out.below z4 (by simp; omega))).trans (HB4.out.below (by omega) (by simp; omega))

set_option maxRecDepth 100000 in
set_option maxHeartbeats 1000000 in
theorem textP_c {b a c N p : Nat} {t : List UInt8} (w : World) (h : Buf w b a c N t p) :
    Calls Tryd.prog 29 #[.pointer (some ⟨b, 0, none⟩)] w fun e w' => e = .returned (.string (strOf t)) ∧ Below w.heap.size w w' := by
  have H1 := Lib.hid (lenB w h)
  have hl : t.length ≤ 4096 := by have := h.ar.fit; have := h.ar.max; omega
  have H := Lib.hid h
  clear h
  obtain ⟨n, hn⟩ : ∃ n, t.length = n := ⟨_, rfl⟩
  have e1 : max (0 : Int) (min (n : Int) 4096) = (n : Int) := by omega
  have e2 : min (n : Int) 4096 = (n : Int) := by omega
  have e3 : max (0 : Int) (n : Int) = (n : Int) := by omega
  rw [hn] at H1 hl
  have HN := Lib.hid hn
  have hmk : ∀ W : World, (Instr.makeSlice 22 (.int .i64 (n : Int)) (.int .i64 (n : Int))).run Tryd.prog W = .ok (.slice (some ⟨W.heap.size, 0, none⟩) n n) (W.alloc (.cells (cellsB (List.replicate n 0)).toArray 5)) := fun W => make_bytes W n hl
  clear hn
  go_enter Tryd.func29, Tryd.ntmps29
  go_wp2_with (go_at_call 27; refine (H1.out).mono ?_; rintro e w1 ⟨rfl, hq⟩; obtain rfl := hq.symm)
  have hw1 : Below w.heap.size w (w.alloc (.cells (cellsB (List.replicate n 0)).toArray 5)) := (Below.refl _ _).alloc (Nat.le_refl _) _
  have hbuf1 : Buf (w.alloc (.cells (cellsB (List.replicate n 0)).toArray 5)) b a c N t p := H.out.but (But.of_below (S := []) hw1) (by simp) (by simp) (by simp)
  refine (copyB (some ⟨w.heap.size, 0, none⟩) n n w.heap.size 0 (cellsB (List.replicate n 0)) _ hbuf1 (Blk.new _ _ _).win (fun _ => rfl) (by rw [cellsB_length, List.length_replicate]; exact Nat.le_refl _)).mono ?_
  rintro e w2 ⟨rfl, hwin, hb2⟩
  rw [HN.out, Nat.min_self]
  have hst : splice (cellsB (List.replicate n 0)) 0 (cellsB (t.take n)) = cellsB t := by
    rw [List.take_of_length_le (by rw [HN.out]; exact Nat.le_refl _)]
    exact splice_all _ _ (by rw [cellsB_length, cellsB_length, HN.out, List.length_replicate])
  rw [hst] at hwin
  have hby : BytesAt w2 (some ⟨w.heap.size, 0, none⟩) t := by
    intro hne
    have h0 : 0 < t.length := List.length_pos_iff.2 hne
    refine ⟨w.heap.size, 0, rfl, ?_, fun j hj => hwin.cell j _ (cellsB_get t j hj)⟩
    have := World.block_lt_of_cell? _ _ (hwin.cell 0 _ (cellsB_get t 0 h0))
    exact this
  have hcv : (convert 22 9 (.slice (some ⟨w.heap.size, 0, none⟩) n n)).run Tryd.prog w2 = .ok (.string (strOf t)) w2 := by
    have := conv_str (cap := n) hby
    rw [HN.out] at this
    exact this
  have HB2 : Hid (Below w.heap.size w w2) := hw1.trans (hb2.below hw1.size (by simp))
  clear hwin hby hst hb2 hbuf1 hw1
  go_wp2
  go_ret
  exact ⟨rfl, HB2.out⟩

end Go.Proofs.YtbkpnffgihjikaaDoor.Edit

/- The document's example of a paste, walked. -/
set_option linter.unusedVariables false
set_option linter.unusedSimpArgs false
namespace Go.Proofs.YtbkpnffgihjikaaDoor.Edit
open Go.RowKit Go.Lib Go.Shelf ChangeShapes Mem Utf UtfP Def

attribute [local go_sem] strOf_toList
set_option maxRecDepth 100000 in
set_option maxHeartbeats 2000000 in
theorem aliveP (w : World) (hT : Tabs w) : Calls Tryd.prog 23 #[] w fun e w' => e = .returned (.bool true) ∧ Below w.heap.size w w' := by
  have HT := Lib.hid hT
  have H0 := Lib.hid (beginP_c 3 50 (by decide) (by decide) (by decide) (by decide) w)
  have A1 : Hid (addE 3 97 [] true false = (0, [97], false)) := by unfold Hid; decide
  have A2 : Hid (addE 3 228 [97] true false = (0, [97, 228], false)) := by unfold Hid; decide
  have A3 : Hid (addE 3 98 [97, 228] true false = (4, [97, 228], true)) := by unfold Hid; decide
  have A4 : Hid (endE 50 [97, 228] true true [] [] = (4, [])) := by unfold Hid; decide
  have A5 : Hid (addE 3 99 [] true false = (0, [99], false)) := by unfold Hid; decide
  have A6 : Hid (endE 50 [99] true false [] [] = (0, [99])) := by unfold Hid; decide
  clear hT
  go_enter Tryd.func23, Tryd.ntmps23
  go_wp2_with fail
  refine (H0.out).mono ?_
  rintro e w1 ⟨s, a, c, b, a2, c2, rfl, hl, hpb, hb1⟩
  have HL := Lib.hid hl
  have HP1 := Lib.hid hpb
  have HW1 := Lib.hid hb1
  clear hl hpb hb1
  go_wp2_with fail
  refine (start_any w1 HP1.out.sg).mono ?_
  rintro e w2 ⟨rfl, hsg, hb⟩
  have HP2 := Lib.hid (HP1.out.stage hsg hb)
  have HW2 : Hid (Below w.heap.size w w2) := HW1.out.trans (hb.below HW1.out.size (by have := HL.out; simp; omega))
  clear hsg hb
  go_wp2_with fail
  refine (add_any 97 w2 HP2.out.sg).mono ?_
  rw [A1.out]
  rintro e w3 ⟨rfl, hsg, hb⟩
  have HP3 := Lib.hid (HP2.out.stage hsg hb)
  have HW3 : Hid (Below w.heap.size w w3) := HW2.out.trans (hb.below HW2.out.size (by have := HL.out; simp; omega))
  clear hsg hb
  go_wp2_with fail
  refine (add_any 228 w3 HP3.out.sg).mono ?_
  rw [A2.out]
  rintro e w4 ⟨rfl, hsg, hb⟩
  have HP4 := Lib.hid (HP3.out.stage hsg hb)
  have HW4 : Hid (Below w.heap.size w w4) := HW3.out.trans (hb.below HW3.out.size (by have := HL.out; simp; omega))
  clear hsg hb
  go_wp2_with fail
  refine (add_any 98 w4 HP4.out.sg).mono ?_
  rw [A3.out]
  rintro e w5 ⟨rfl, hsg, hb⟩
  have HP5 := Lib.hid (HP4.out.stage hsg hb)
  have HW5 : Hid (Below w.heap.size w w5) := HW4.out.trans (hb.below HW4.out.size (by have := HL.out; simp; omega))
  clear hsg hb
  go_wp2_with fail
  refine (end_any w5 (HT.out.below HW5.out) HP5.out).mono ?_
  rw [A4.out]
  rintro e w6 ⟨rfl, hpb, hb⟩
  have HP6 : Hid (Pb w6 s a c 3 [] false false b a2 c2 50 [] []) := hpb
  have HW6 : Hid (Below w.heap.size w w6) := HW5.out.trans (hb.below HW5.out.size (by have := HL.out; simp; omega))
  clear hpb hb
  go_wp2_with fail
  refine (start_any w6 HP6.out.sg).mono ?_
  rintro e w7 ⟨rfl, hsg, hb⟩
  have HP7 := Lib.hid (HP6.out.stage hsg hb)
  have HW7 : Hid (Below w.heap.size w w7) := HW6.out.trans (hb.below HW6.out.size (by have := HL.out; simp; omega))
  clear hsg hb
  go_wp2_with fail
  refine (add_any 99 w7 HP7.out.sg).mono ?_
  rw [A5.out]
  rintro e w8 ⟨rfl, hsg, hb⟩
  have HP8 := Lib.hid (HP7.out.stage hsg hb)
  have HW8 : Hid (Below w.heap.size w w8) := HW7.out.trans (hb.below HW7.out.size (by have := HL.out; simp; omega))
  clear hsg hb
  go_wp2_with fail
  refine (end_any w8 (HT.out.below HW8.out) HP8.out).mono ?_
  rw [A6.out]
  rintro e w9 ⟨rfl, hpb, hb⟩
  have HW9 : Hid (Below w.heap.size w w9) := HW8.out.trans (hb.below HW8.out.size (by have := HL.out; simp; omega))
  have HTX := textP_c w9 hpb.ed.buf
  rw [show encs [99] ++ encs [] = [99] by decide] at HTX
  have HTX := Lib.hid HTX
  clear hpb hb
  go_wp2_with (go_at_call 29; refine (HTX.out).mono ?_; rintro e w10 ⟨rfl, hb10⟩)
  go_ret
  exact ⟨rfl, HW9.out.trans (hb10.mono HW9.out.size)⟩

end Go.Proofs.YtbkpnffgihjikaaDoor.Edit

/- Numbers of a law's input, one by one; what is added of them. -/
set_option linter.unusedVariables false
set_option linter.unusedSimpArgs false
namespace Go.Proofs.YtbkpnffgihjikaaDoor.Edit
open Go.RowKit Go.Lib Go.Shelf ChangeShapes Mem Utf UtfP Law Def

def intC (z : Int) : List Value := [Value.int .i64 z]
theorem num_cell {w : World} {g off : Nat} {zs : List Int} (h : ∀ j r, zs[j]? = some r → ∀ i v, ((fun z => [Value.int .i64 z]) r)[i]? = some v → w.cell? ⟨g, off + j * 1 + i, none⟩ = some v) {j : Nat} {z : Int} (hz : zs[j]? = some z) : w.cell? ⟨g, off + j, none⟩ = some (.int .i64 z) := by
  have := h j z hz 0 _ rfl
  rwa [Nat.mul_one, Nat.add_zero] at this

/-- what the answer 0 says -/
theorem addE_zero {N : Nat} {x : Int} {L : List Int} {ov : Bool} (h : (addE N x L true ov).1 = 0) : printC x = true ∧ ov = false ∧ (encs L).length + (enc x).length ≤ N ∧ addE N x L true ov = (0, L ++ [x], false) := by
  unfold addE at h ⊢
  rw [if_pos rfl] at h ⊢
  cases hp : printC x
  · rw [hp] at h; simp at h
  · rw [hp, if_pos rfl] at h
    rw [if_pos rfl]
    cases ov
    · rw [if_neg (by simp)] at h ⊢
      by_cases hl : (encs L).length + (enc x).length ≤ N
      · rw [if_pos hl]; exact ⟨rfl, rfl, hl, rfl⟩
      · rw [if_neg hl] at h; simp at h
    · rw [if_pos rfl] at h; simp at h
theorem addE_fail {N : Nat} {x : Int} {L : List Int} {ov : Bool} (h : (addE N x L true ov).1 ≠ 0) : (addE N x L true ov).2.1 = L := by
  unfold addE at h ⊢
  rw [if_pos rfl] at h ⊢
  cases hp : printC x
  · rfl
  · rw [hp, if_pos rfl] at h
    rw [if_pos rfl]
    cases ov
    · rw [if_neg (by simp)] at h ⊢
      by_cases hl : (encs L).length + (enc x).length ≤ N
      · rw [if_pos hl] at h; simp at h
      · rw [if_neg hl]
    · rfl

theorem refPut_s (x : Int) (w : World) (h : printC x = true) : Calls Tryd.prog 28 #[.int .i64 x] w fun e w' => ∃ A' cap', e = .returned (.slice A' (enc x).length cap') ∧ BytesAt w' A' (enc x) ∧ Below w.heap.size w w' :=
  (refPut x w (printC_fine h)).mono fun e w' ⟨v, he, hown, hb⟩ => by obtain ⟨A', cap, rfl, _, hba, _⟩ := hown.form; exact ⟨A', cap, he, hba, hb⟩

end Go.Proofs.YtbkpnffgihjikaaDoor.Edit

/- Two numbers that the reader of a law's input takes; how many cells a law's number asks for. -/
set_option linter.unusedVariables false
set_option maxRecDepth 100000
namespace Go.Proofs.YtbkpnffgihjikaaDoor.Law
open Go.ChangeShapes Go.WideShapes Go.ChangeAt Go.RowKit Utf UtfP

section
variable {H : Type} {enc : TypeId × Value → H} {P : Program}
theorem list2' {cs : List Value} (h : cs.length = 2) : ∃ c0 c1, cs = [c0, c1] := by
  match cs, h with
  | [c0, c1], _ => exact ⟨c0, c1, rfl⟩

theorem two_trod {w : World} {t e : TypeId} {k : IntKind} {fuel : Nat} {cs : List Value} {x : DataW H × List MemPlace} (ht : P.underlying t = some (.array 2 e)) (he : P.underlying e = some (.int k)) (hc : P.cellsOf e = 1) (hn : P.cellsOf t = 2)
    (hd : DataW.trod enc P w 0 (fun _ => true) true fuel t cs = some x) :
    ∃ a b : Int, cs = [.int k a, .int k b] ∧ (Lit.int k a).wf = true ∧ (Lit.int k b).wf = true := by
  obtain ⟨xs, m, rfl, _, hl, hx, hi⟩ := DataW.trod_array ht hd
  obtain ⟨c0, c1, rfl⟩ := list2' (by rw [hl, hn])
  rw [hc] at hi
  obtain ⟨y0, h0⟩ := got' hx (by omega) (hi 0 (by omega))
  obtain ⟨y1, h1⟩ := got' hx (by omega) (hi 1 (by omega))
  obtain ⟨a, e0, _, w0⟩ := DataW.trod_int he h0
  obtain ⟨b, e1, _, w1⟩ := DataW.trod_int he h1
  simp at e0 e1
  subst e0 e1
  exact ⟨a, b, rfl, w0, w1⟩

theorem open_two {w : World} {v : Value} {d : DataW H} {ps : List MemPlace} {r : Reach} {b0 : Nat}
    (hval : Value.okWide Tryd.prog w r b0 76 v) (h : DataW.Trod enc Tryd.prog w 0 (fun _ => true) true 76 v d ps) :
    ∃ a b : Int, v = .agg #[.int .i64 a, .int .i64 b] ∧ (Lit.int .i64 a).wf = true ∧ (Lit.int .i64 b).wf = true := by
  simp only [Value.okWide, Tryd.underlying76] at hval
  obtain ⟨cs, rfl, _, _⟩ := hval
  obtain ⟨fuel, hd⟩ := h
  obtain ⟨a, b, e1, h1, h2⟩ := two_trod Tryd.underlying76 Tryd.underlying3 (by kernel_rfl) (by kernel_rfl) hd
  refine ⟨a, b, ?_, h1, h2⟩
  congr 1
  apply Array.toList_inj.1
  simpa [Value.cells] using e1
end
end Go.Proofs.YtbkpnffgihjikaaDoor.Law

namespace Go.Proofs.YtbkpnffgihjikaaDoor.Edit
open Go.RowKit Go.Lib Go.Shelf ChangeShapes Mem Utf UtfP
theorem sizeP_c (x : Int) (w : World) : Calls Tryd.prog 52 #[.int .i64 x] w fun e w' => e = .returned (.int .i64 (szE 100 x : Int)) ∧ w' = w := by
  obtain ⟨u, hu⟩ : ∃ u, IntKind.u64.wrap x = u := ⟨_, rfl⟩
  have hu0 : 0 ≤ u := by rw [← hu]; rw [IntKind.wrap_u64]; omega
  obtain ⟨k, hk⟩ : ∃ k : Nat, u.tmod 100 = (k : Int) := ⟨(u.tmod 100).toNat, by
    rw [Int.tmod_eq_emod_of_nonneg hu0]; omega⟩
  have hk200 : k < 100 := by
    rw [Int.tmod_eq_emod_of_nonneg hu0] at hk
    omega
  have e2 : IntKind.i64.wrap (k : Int) = (k : Int) := by rw [IntKind.wrap_i64]; omega
  have hs : Hid ((szE 100 x : Int) = 1 + (k : Int)) := by
    unfold Hid szE
    rw [hu]
    rw [Int.tmod_eq_emod_of_nonneg hu0] at hk
    omega
  go_enter Tryd.func52, Tryd.ntmps52
  go_wp2
  go_ret
  exact ⟨by rw [hs.out]; rfl, rfl⟩
end Go.Proofs.YtbkpnffgihjikaaDoor.Edit

/- Texts joined: DefB; DefX. -/
import Derived.Defers
import Derived.WalkKit
/- A function that defers calls of builtins alone: its contract from its body. -/
set_option linter.unusedVariables false
namespace Go.Proofs.YtbflcikfaoojmaaDoor.Def
open Go.RowKit

section
variable {P : Program}

theorem step_defer_value {fr : Frame} {cs : List Frame} {w w' : World} {ds : List Deferred} {b : Builtin} {ats : Array TypeId} {ty : TypeId} {cn : Array Bool} {args : Array Value} {v : Value}
    (hm : fr.mode = .returning) (hd : fr.defers = { target := .builtin b ats ty cn, args := args } :: ds)
    (hi : (invoke (.builtin b ats ty cn) args).run P w = .ok (.value v) w') :
    step P (lone fr cs w) = .next (lone { fr with defers := ds } cs w') := by
  refine step_lone_go ?_
  simp [stepG, unwind, callDeferred, hm, hd, hi]

/-- What a frame that is on its way out leaves: its deferred builtins made, one by one. -/
def LeavesB (P : Program) (fn : Func) (tmps : Array Value) (R : Ending → World → Prop) : List Deferred → World → Prop
  | [], w => ∃ v, (results fn tmps).run P w = .ok v w ∧ R (.returned v) w
  | d :: ds, w => ∃ b ats ty cn v w', d.target = .builtin b ats ty cn ∧ (invoke (.builtin b ats ty cn) d.args).run P w = .ok (.value v) w' ∧ LeavesB P fn tmps R ds w'

theorem leavesB_steps {fn : Func} {tmps : Array Value} {R : Ending → World → Prop} : ∀ (ds : List Deferred) (w : World) (fr : Frame) (cs : List Frame),
    fr.mode = .returning → fr.defers = ds → fr.tmps = tmps → P.funcs[fr.fn]? = some fn → fr.kind = .normal → LeavesB P fn tmps R ds w →
    ∃ e w' fr', R e w' ∧ Comes P (lone fr cs w) (lone fr' cs w') e ∧ fr'.fn = fr.fn ∧ fr'.leaving P w' e := by
  intro ds
  induction ds with
  | nil =>
    intro w fr cs hu hd ht hf hk h
    obtain ⟨v, hr, hR⟩ := h
    exact ⟨.returned v, w, fr, hR, Steps.refl P _, rfl, hu, hd, hk, fn, hf, ht ▸ hr⟩
  | cons d ds ih =>
    intro w fr cs hu hd ht hf hk h
    obtain ⟨b, ats, ty, cn, v, w1, htar, hinv, hl⟩ := h
    obtain ⟨t, args⟩ := d
    simp only at htar hinv
    subst htar
    have h1 := step_defer_value (cs := cs) hu hd hinv
    obtain ⟨e', w'', fr', hR', hs', hfn', hl'⟩ := ih w1 { fr with defers := ds } cs hu rfl ht hf hk hl
    exact ⟨e', w'', fr', hR', Comes.of_steps (.one h1) hs', hfn', hl'⟩

def bodyPostB (P : Program) (fn : Func) (R : Ending → World → Prop) : Exit → Act → World → Prop
  | .normal, a, w | .ret, a, w => LeavesB P fn a.tmps R a.defers w
  | .outgrown, _, w => R .outgrown w
  | _, _, _ => False

theorem calls_of_wp_B {f : FuncId} {fn : Func} {c : Code} {args : Array Value} {w : World} {R : Ending → World → Prop}
    (hf : P.funcs[f]? = some fn) (hb : fn.body = some c)
    (h : c.wp P (bodyPostB P fn R) { tmps := args ++ Array.replicate (fn.ntmps - args.size) undef, defers := [] } w) : Calls P f args w R := by
  intro cs
  let b : Frame := { (default : Frame) with fn := f, kind := .normal }
  have henter : Frame.enter P f args .normal =
      b.at { tmps := args ++ Array.replicate (fn.ntmps - args.size) undef, defers := [] } [.code c] := by
    simp [Frame.enter, Frame.at, hf, hb, b]
  obtain ⟨e, a', w', hq, harr⟩ := h b [] cs
  rw [← henter] at harr
  cases e with
  | normal =>
    obtain ⟨e', w'', fr', hR, hs, hfn, hl⟩ := leavesB_steps a'.defers w' { b.at a' [] with mode := .returning } cs rfl rfl rfl hf rfl hq
    exact ⟨e', w'', fr', hR, Comes.of_steps (Steps.trans harr (.one step_end)) hs, hfn, hl⟩
  | ret =>
    obtain ⟨todo, hs₀⟩ := harr
    obtain ⟨e', w'', fr', hR, hs, hfn, hl⟩ := leavesB_steps a'.defers w' { b.at a' todo with mode := .returning } cs rfl rfl rfl hf rfl hq
    exact ⟨e', w'', fr', hR, Comes.of_steps hs₀ hs, hfn, hl⟩
  | panic chain => exact hq.elim
  | exit id => exact hq.elim
  | goto l => exact hq.elim
  | outgrown => exact ⟨.outgrown, w', b, hq, harr.resolve_left (by simp [b]), rfl, trivial⟩
end

end Go.Proofs.YtbflcikfaoojmaaDoor.Def

/- A function that defers calls of builtins and of functions that return: its contract from its body. -/
set_option linter.unusedVariables false
namespace Go.Proofs.YtbflcikfaoojmaaDoor.Def
open Go.RowKit

section
variable {P : Program}

/-- What a frame that is on its way out leaves: its deferred calls made, one by one. -/
def LeavesX (P : Program) (fn : Func) (tmps : Array Value) (R : Ending → World → Prop) : List Deferred → World → Prop
  | [], w => ∃ v, (results fn tmps).run P w = .ok v w ∧ R (.returned v) w
  | d :: ds, w => (∃ b ats ty cn v w', d.target = .builtin b ats ty cn ∧ (invoke (.builtin b ats ty cn) d.args).run P w = .ok (.value v) w' ∧ LeavesX P fn tmps R ds w') ∨
      (∃ fv cap f args, d.target = .fn fv cap ∧ (invoke d.target d.args).run P w = .ok (.enter f args) w ∧ CallsD P f args .returning w fun e u' w' => (∃ v, e = .returned v) ∧ u' = .returning ∧ LeavesX P fn tmps R ds w')

theorem leavesX_steps {fn : Func} {tmps : Array Value} {R : Ending → World → Prop} : ∀ (ds : List Deferred) (w : World) (fr : Frame) (cs : List Frame),
    fr.mode = .returning → fr.defers = ds → fr.tmps = tmps → P.funcs[fr.fn]? = some fn → fr.kind = .normal → LeavesX P fn tmps R ds w →
    ∃ e w' fr', R e w' ∧ Comes P (lone fr cs w) (lone fr' cs w') e ∧ fr'.fn = fr.fn ∧ fr'.leaving P w' e := by
  intro ds
  induction ds with
  | nil =>
    intro w fr cs hu hd ht hf hk h
    obtain ⟨v, hr, hR⟩ := h
    exact ⟨.returned v, w, fr, hR, Steps.refl P _, rfl, hu, hd, hk, fn, hf, ht ▸ hr⟩
  | cons d ds ih =>
    intro w fr cs hu hd ht hf hk h
    rcases h with ⟨b, ats, ty, cn, v, w1, htar, hinv, hl⟩ | ⟨fv, cap, f, args, htar, hinv, hcall⟩
    · obtain ⟨t, args⟩ := d
      simp only at htar hinv
      subst htar
      have h1 := step_defer_value (cs := cs) hu hd hinv
      obtain ⟨e', w'', fr', hR', hs', hfn', hl'⟩ := ih w1 { fr with defers := ds } cs hu rfl ht hf hk hl
      exact ⟨e', w'', fr', hR', Comes.of_steps (.one h1) hs', hfn', hl'⟩
    · have h1 := step_defer (cs := cs) (by rw [hu]; simp) hd htar hinv
      obtain ⟨e, u', w', frX, ⟨⟨v, rfl⟩, rfl, hl⟩, hsteps, hkX, hgo⟩ := hcall { fr with defers := ds } cs hu
      have h2 := step_going_returned (c := { { fr with defers := ds } with mode := .returning }) (cs := cs) hkX hgo
      obtain ⟨e', w'', fr', hR', hs', hfn', hl'⟩ := ih w' { { { fr with defers := ds } with mode := .returning } with mode := settle .returning } cs rfl rfl ht hf hk hl
      exact ⟨e', w'', fr', hR', Comes.of_steps (.head h1 (Steps.trans hsteps (.one h2))) hs', hfn', hl'⟩

def bodyPostX (P : Program) (fn : Func) (R : Ending → World → Prop) : Exit → Act → World → Prop
  | .normal, a, w | .ret, a, w => LeavesX P fn a.tmps R a.defers w
  | .outgrown, _, w => R .outgrown w
  | _, _, _ => False

theorem calls_of_wp_X {f : FuncId} {fn : Func} {c : Code} {args : Array Value} {w : World} {R : Ending → World → Prop}
    (hf : P.funcs[f]? = some fn) (hb : fn.body = some c)
    (h : c.wp P (bodyPostX P fn R) { tmps := args ++ Array.replicate (fn.ntmps - args.size) undef, defers := [] } w) : Calls P f args w R := by
  intro cs
  let b : Frame := { (default : Frame) with fn := f, kind := .normal }
  have henter : Frame.enter P f args .normal =
      b.at { tmps := args ++ Array.replicate (fn.ntmps - args.size) undef, defers := [] } [.code c] := by
    simp [Frame.enter, Frame.at, hf, hb, b]
  obtain ⟨e, a', w', hq, harr⟩ := h b [] cs
  rw [← henter] at harr
  cases e with
  | normal =>
    obtain ⟨e', w'', fr', hR, hs, hfn, hl⟩ := leavesX_steps a'.defers w' { b.at a' [] with mode := .returning } cs rfl rfl rfl hf rfl hq
    exact ⟨e', w'', fr', hR, Comes.of_steps (Steps.trans harr (.one step_end)) hs, hfn, hl⟩
  | ret =>
    obtain ⟨todo, hs₀⟩ := harr
    obtain ⟨e', w'', fr', hR, hs, hfn, hl⟩ := leavesX_steps a'.defers w' { b.at a' todo with mode := .returning } cs rfl rfl rfl hf rfl hq
    exact ⟨e', w'', fr', hR, Comes.of_steps hs₀ hs, hfn, hl⟩
  | panic chain => exact hq.elim
  | exit id => exact hq.elim
  | goto l => exact hq.elim
  | outgrown => exact ⟨.outgrown, w', b, hq, harr.resolve_left (by simp [b]), rfl, trivial⟩
end

end Go.Proofs.YtbflcikfaoojmaaDoor.Def

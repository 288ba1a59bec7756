/- The table of control characters that are keys: its inserts come in any order. -/
import Derived.Test.YtbflcikfaoojmaaDoorGK1
set_option linter.unusedVariables false
set_option linter.unusedSimpArgs false
namespace Go.Proofs.YtbflcikfaoojmaaDoor.Edit
open Go.RowKit Go.Lib Go.Shelf ChangeShapes Mem Utf UtfP

theorem run_putI {T K E : TypeId} {P : Program} (w : World) (ht : P.underlying T = some (.map K E)) (hk : P.underlying K = some (.int .i64)) (es : Array MapEntry) (clock : Nat) (k : Int) (v : Value) (hf : Instr.findNow (.int .i64) (.int .i64 k) es.toList 0 = some none) :
    (Instr.mapUpdate T (.map (some w.heap.size)) (.int .i64 k) v).run P (w.alloc (.map es clock)) = .ok () (w.alloc (.map (es.push { key := .int .i64 k, val := v, born := clock }) (clock + 1))) := by
  have hb : (w.alloc (.map es clock)).heap[w.heap.size]? = some (.map es clock) := heap_alloc_new w _
  have hc : (Instr.checkKey false 10000 K (.int .i64 k)).run P (w.alloc (.map es clock)) = .ok () (w.alloc (.map es clock)) := MapKept.run_checkKey (k := .int .i64 k) hk (by simp [MapKept.IsKey]) false 9999
  simp [Instr.mapUpdate, run_underlying ht, MapKept.run_getObj_map hb, hc, MapKept.run_findKey hk hf, MapKept.run_setObj_map _ hb, Result.andThen]
  show ({ heap := (w.heap.push _).setIfInBounds w.heap.size _, tape := w.tape, drawn := w.drawn, os := w.os, output := w.output } : World) = { w with heap := w.heap.push _ }
  rw [push_put]

section
variable {P : Program} {ops : Array Oper} {Q : Exit → Act → World → Prop} {md : Region.Mode}

/-- operations that wait for earlier ones alone: while one hasn't run, one may -/
def backB (ops : Array Oper) : Bool := (List.range ops.size).all fun i => ((ops[i]?).map (·.after.all fun e => decide (e.on < i))).getD true

theorem ready_nil (hb : backB ops = true) {listed : Array Bool} (hr : Region.ready md ops listed = []) : ∀ (i : Nat), i < ops.size → listed.getD i true = true := by
  intro i
  induction i using Nat.strongRecOn with
  | _ i ih =>
    intro hi
    cases hl : listed.getD i true with
    | true => rfl
    | false =>
      have hm : i ∈ Region.ready md ops listed := by
        rw [mem_ready]
        refine ⟨hl, ops[i], Array.getElem?_eq_getElem hi, fun e he hbind => ?_⟩
        have h1 := List.all_eq_true.1 hb i (List.mem_range.2 hi)
        rw [Array.getElem?_eq_getElem hi] at h1
        have h2 : e.on < i := by
          have := Array.all_eq_true_iff_forall_mem.1 h1 e he
          simpa using this
        have h3 := ih e.on h2 (Nat.lt_trans h2 hi)
        have hsz : i < listed.size := by
          rcases Nat.lt_or_ge i listed.size with h | h
          · exact h
          · simp [Array.getElem?_eq_none h] at hl
        have h4 : e.on < listed.size := Nat.lt_trans h2 hsz
        simpa [h4] using h3
      rw [hr] at hm
      cases hm

/-- operations that keep a relation, in whatever order they run -/
theorem wpAny_inv (Inv : Array Bool → Act → World → Prop) (hb : backB ops = true)
    (hstep : ∀ listed a w i, Inv listed a w → i ∈ Region.ready md ops listed → wpOp P ops Q i (Inv (listed.setIfInBounds i true)) a w)
    (hdone : ∀ listed a w, Inv listed a w → (∀ i, i < ops.size → listed.getD i true = true) → Q .normal a w) :
    ∀ (fuel : Nat) (listed : Array Bool) (a : Act) (w : World), Inv listed a w → ((List.range ops.size).filter fun i => !listed.getD i true).length ≤ fuel → wpAny P md ops Q fuel listed a w := by
  intro fuel
  induction fuel with
  | zero =>
    intro listed a w hI hf
    have hn : ∀ i, i < ops.size → listed.getD i true = true := by
      intro i hi
      have h0 := List.eq_nil_of_length_eq_zero (Nat.le_zero.1 hf)
      have := (List.filter_eq_nil_iff.1 h0) i (List.mem_range.2 hi)
      simpa using this
    refine ⟨?_, hdone _ _ _ hI hn⟩
    rw [List.eq_nil_iff_forall_not_mem]
    intro i hi
    obtain ⟨h0, o, ho, _⟩ := mem_ready.1 hi
    rw [hn i (Array.getElem?_eq_some_iff.1 ho).1] at h0
    cases h0
  | succ fuel ih =>
    intro listed a w hI hf
    refine ⟨fun hr => hdone _ _ _ hI (ready_nil hb hr), fun i hi => ?_⟩
    refine wpOp_mono (fun a' w' h => ih _ _ _ h ?_) (hstep _ _ _ _ hI hi)
    obtain ⟨h0, o, ho, _⟩ := mem_ready.1 hi
    have hlt := (Array.getElem?_eq_some_iff.1 ho).1
    have hsz : i < listed.size := by
      rcases Nat.lt_or_ge i listed.size with h | h
      · exact h
      · simp [Array.getElem?_eq_none h] at h0
    have hle : ((List.range ops.size).filter fun j => !(listed.setIfInBounds i true).getD j true).length < ((List.range ops.size).filter fun j => !listed.getD j true).length := by
      have hs : ((List.range ops.size).filter fun j => !(listed.setIfInBounds i true).getD j true).Sublist (((List.range ops.size).filter fun j => !listed.getD j true)) := by
        have e : ((List.range ops.size).filter fun j => !(listed.setIfInBounds i true).getD j true) = (((List.range ops.size).filter fun j => !listed.getD j true)).filter fun j => !(listed.setIfInBounds i true).getD j true := by
          rw [List.filter_filter]
          refine List.filter_congr fun j _ => ?_
          by_cases hij : i = j
          · subst hij; simp [hsz]
          · rw [getD_set_ne true hij]; simp
        rw [e]
        exact List.filter_sublist
      rcases Nat.lt_or_ge ((List.range ops.size).filter fun j => !(listed.setIfInBounds i true).getD j true).length ((List.range ops.size).filter fun j => !listed.getD j true).length with h | h
      · exact h
      · have he := hs.eq_of_length_le h
        have hm : i ∈ (List.range ops.size).filter fun j => !listed.getD j true := List.mem_filter.2 ⟨List.mem_range.2 hlt, by rw [h0]; rfl⟩
        rw [← he] at hm
        have := (List.mem_filter.1 hm).2
        simp [hsz] at this
    omega
end

/-- the control characters: the operation, the slot, the value -/
def chOuts : List (Nat × Nat × Int) := [(1, 2, 13), (3, 3, 10), (5, 4, 8), (8, 5, 2), (10, 6, 6), (12, 7, 1), (14, 8, 5), (16, 9, 21), (18, 10, 11), (20, 11, 12), (22, 12, 3), (24, 13, 4)]
/-- the inserts: the operation, the key, what it stands for -/
def chIns : List (Nat × Int × Int) := [(2, 13, 1), (4, 10, 1), (6, 8, 2), (7, 127, 2), (9, 2, 4), (11, 6, 5), (13, 1, 6), (15, 5, 7), (17, 21, 8), (19, 11, 9), (21, 12, 10), (23, 3, 11), (25, 4, 12)]

theorem getD_put (t : Array Value) (i j : Nat) (v : Value) (hi : i < t.size) : (t.setIfInBounds i v).getD j undef = if i = j then v else t.getD j undef := by
  by_cases h : i = j
  · subst h; simp [hi]
  · simp [Array.getElem?_setIfInBounds_ne h, h]
theorem getD_on (l : Array Bool) (i j : Nat) (hi : i < l.size) : (l.setIfInBounds i true).getD j false = if i = j then true else l.getD j false := by
  by_cases h : i = j
  · subst h; simp [hi]
  · simp [Array.getElem?_setIfInBounds_ne h, h]

/-- what holds while some of the operations have run -/
structure ChInv (w0 : World) (listed : Array Bool) (a : Act) (w : World) : Prop where
  size : listed.size = 28
  tsz : a.tmps.size = 15
  defs : a.defers = []
  t1 : listed.getD 0 false = true → a.tmps.getD 1 undef = .map (some w0.heap.size)
  outs : ∀ x ∈ chOuts, listed.getD x.1 false = true → a.tmps.getD x.2.1 undef = .int .i64 x.2.2
  t14 : listed.getD 26 false = true → a.tmps.getD 14 undef = .map (some w0.heap.size)
  t0 : listed.getD 27 false = true → a.tmps.getD 0 undef = .map (some w0.heap.size)
  later : ∀ y ∈ chIns, listed.getD y.1 false = true → listed.getD 0 false = true
  mem0 : listed.getD 0 false = false → w = w0
  mem : listed.getD 0 false = true → ∃ es : Array MapEntry, w = w0.alloc (.map es es.size) ∧ MapKept.Stamped es es.size ∧ (∀ x ∈ es.toList, ∃ y ∈ chIns, listed.getD y.1 false = true ∧ x.key = .int .i64 y.2.1 ∧ x.val = .int .i64 y.2.2) ∧ ∀ y ∈ chIns, listed.getD y.1 false = true → ∃ x ∈ es.toList, x.key = .int .i64 y.2.1

variable {w0 w : World} {listed : Array Bool} {a : Act}

/-- a slot that is written by an operation that isn't an insert and not the first one -/
theorem ChInv.slot (h : ChInv w0 listed a w) (i d : Nat) (v : Value) (hi : i < 28) (hd : d < 15) (h0 : i ≠ 0) (hd1 : d ≠ 1)
    (ho : ∀ x ∈ chOuts, (x.1 = i ∧ x.2.1 = d ∧ v = .int .i64 x.2.2) ∨ (x.1 ≠ i ∧ x.2.1 ≠ d)) (hn : ∀ y ∈ chIns, y.1 ≠ i)
    (h14 : (i = 26 ∧ d = 14 ∧ v = .map (some w0.heap.size)) ∨ (i ≠ 26 ∧ d ≠ 14)) (h00 : (i = 27 ∧ d = 0 ∧ v = .map (some w0.heap.size)) ∨ (i ≠ 27 ∧ d ≠ 0)) :
    ChInv w0 (listed.setIfInBounds i true) (a.put (some d) v) w := by
  have hs : i < listed.size := by rw [h.size]; exact hi
  have ht : d < a.tmps.size := by rw [h.tsz]; exact hd
  refine ⟨by simp [h.size], by simp [Act.put, h.tsz], h.defs, ?_, ?_, ?_, ?_, ?_, ?_, ?_⟩
  · intro hl
    rw [getD_on _ _ _ hs, if_neg h0] at hl
    show (a.tmps.setIfInBounds d v).getD 1 undef = _
    rw [getD_put _ _ _ _ ht, if_neg hd1]
    exact h.t1 hl
  · intro x hx hl
    show (a.tmps.setIfInBounds d v).getD _ undef = _
    rw [getD_put _ _ _ _ ht]
    rcases ho x hx with ⟨e1, e2, e3⟩ | ⟨e1, e2⟩
    · rw [if_pos e2.symm]; exact e3
    · rw [if_neg (Ne.symm e2)]
      rw [getD_on _ _ _ hs, if_neg (Ne.symm e1)] at hl
      exact h.outs x hx hl
  · intro hl
    show (a.tmps.setIfInBounds d v).getD 14 undef = _
    rw [getD_put _ _ _ _ ht]
    rcases h14 with ⟨e1, e2, e3⟩ | ⟨e1, e2⟩
    · rw [if_pos e2]; exact e3
    · rw [if_neg e2]
      rw [getD_on _ _ _ hs, if_neg e1] at hl
      exact h.t14 hl
  · intro hl
    show (a.tmps.setIfInBounds d v).getD 0 undef = _
    rw [getD_put _ _ _ _ ht]
    rcases h00 with ⟨e1, e2, e3⟩ | ⟨e1, e2⟩
    · rw [if_pos e2]; exact e3
    · rw [if_neg e2]
      rw [getD_on _ _ _ hs, if_neg e1] at hl
      exact h.t0 hl
  · intro y hy hl
    rw [getD_on _ _ _ hs, if_neg (Ne.symm (hn y hy))] at hl
    rw [getD_on _ _ _ hs, if_neg h0]
    exact h.later y hy hl
  · intro hl
    rw [getD_on _ _ _ hs, if_neg h0] at hl
    exact h.mem0 hl
  · intro hl
    rw [getD_on _ _ _ hs, if_neg h0] at hl
    obtain ⟨es, hw, hst, h1, h2⟩ := h.mem hl
    refine ⟨es, hw, hst, ?_, ?_⟩
    · intro x hx
      obtain ⟨y, hy, hy1, hy2⟩ := h1 x hx
      exact ⟨y, hy, by rw [getD_on _ _ _ hs, if_neg (Ne.symm (hn y hy))]; exact hy1, hy2⟩
    · intro y hy hl'
      rw [getD_on _ _ _ hs, if_neg (Ne.symm (hn y hy))] at hl'
      exact h2 y hy hl'

/-- the first: the map is made -/
theorem ChInv.make (h : ChInv w0 listed a w) (h0 : listed.getD 0 false = false) : ChInv w0 (listed.setIfInBounds 0 true) (a.put (some 1) (.map (some w.heap.size))) (w.alloc (.map #[] 0)) := by
  have hs : 0 < listed.size := by rw [h.size]; decide
  have ht : 1 < a.tmps.size := by rw [h.tsz]; decide
  obtain rfl := h.mem0 h0
  have hno : ∀ y ∈ chIns, 0 ≠ y.1 := by decide
  have hoo : ∀ x ∈ chOuts, 0 ≠ x.1 ∧ 1 ≠ x.2.1 := by decide
  refine ⟨by simp [h.size], by simp [Act.put, h.tsz], h.defs, ?_, ?_, ?_, ?_, ?_, ?_, ?_⟩
  · intro hl
    show (a.tmps.setIfInBounds 1 _).getD 1 undef = _
    rw [getD_put _ _ _ _ ht, if_pos rfl]
  · intro x hx hl
    show (a.tmps.setIfInBounds 1 _).getD _ undef = _
    rw [getD_put _ _ _ _ ht, if_neg (hoo x hx).2]
    rw [getD_on _ _ _ hs, if_neg (hoo x hx).1] at hl
    exact h.outs x hx hl
  · intro hl
    show (a.tmps.setIfInBounds 1 _).getD 14 undef = _
    rw [getD_put _ _ _ _ ht, if_neg (by decide)]
    rw [getD_on _ _ _ hs, if_neg (by decide)] at hl
    exact h.t14 hl
  · intro hl
    show (a.tmps.setIfInBounds 1 _).getD 0 undef = _
    rw [getD_put _ _ _ _ ht, if_neg (by decide)]
    rw [getD_on _ _ _ hs, if_neg (by decide)] at hl
    exact h.t0 hl
  · intro y hy hl
    rw [getD_on _ _ _ hs, if_pos rfl]
  · intro hl
    rw [getD_on _ _ _ hs, if_pos rfl] at hl
    cases hl
  · intro hl
    refine ⟨#[], rfl, MapKept.stamped_empty _, by simp, ?_⟩
    intro y hy hl'
    rw [getD_on _ _ _ hs, if_neg (hno y hy)] at hl'
    rw [h.later y hy hl'] at h0
    cases h0

/-- an insert -/
theorem ChInv.insert (h : ChInv w0 listed a w) (i : Nat) (k v : Int) (hm : (i, k, v) ∈ chIns) (h0 : listed.getD 0 false = true) (hi : listed.getD i false = false) :
    ∃ es : Array MapEntry, w = w0.alloc (.map es es.size) ∧ Instr.findNow (.int .i64) (.int .i64 k) es.toList 0 = some none ∧ ChInv w0 (listed.setIfInBounds i true) a (w0.alloc (.map (es.push { key := .int .i64 k, val := .int .i64 v, born := es.size }) (es.size + 1))) := by
  have hall : ∀ y ∈ chIns, ∀ z ∈ chIns, y.2.1 = z.2.1 → y = z := by decide
  have hi0 : ∀ y ∈ chIns, y.1 ≠ 0 ∧ y.1 ≠ 26 ∧ y.1 ≠ 27 ∧ y.1 < 28 := by decide
  have hio : ∀ y ∈ chIns, ∀ x ∈ chOuts, y.1 ≠ x.1 := by decide
  have hs : i < listed.size := by rw [h.size]; exact (hi0 _ hm).2.2.2
  obtain ⟨es, hw, hst, h1, h2⟩ := h.mem h0
  have hfn : Instr.findNow (.int .i64) (.int .i64 k) es.toList 0 = some none ∧ ∀ x ∈ es.toList, x.key ≠ .int .i64 k := by
    rcases MapKept.findNow_spec (d := .int .i64) (k := .int .i64 k) (by simp [MapKept.IsKey]) es.toList 0 (fun x hx => by obtain ⟨y, _, _, hk, _⟩ := h1 x hx; rw [hk]; simp [MapKept.IsKey]) with ⟨hf, hf2⟩ | ⟨j, e, _, he, hk⟩
    · exact ⟨hf, hf2⟩
    · exfalso
      obtain ⟨y, hy, hyl, hyk, _⟩ := h1 e (List.mem_of_getElem? he)
      rw [hyk] at hk
      have e1 : y.2.1 = k := by injection hk
      have := hall y hy (i, k, v) hm e1
      rw [this] at hyl
      rw [hi] at hyl
      cases hyl
  refine ⟨es, hw, hfn.1, ?_⟩
  · refine ⟨by simp [h.size], h.tsz, h.defs, ?_, ?_, ?_, ?_, ?_, ?_, ?_⟩
    · intro hl; exact h.t1 h0
    · intro x hx hl
      rw [getD_on _ _ _ hs, if_neg (hio _ hm x hx)] at hl
      exact h.outs x hx hl
    · intro hl
      rw [getD_on _ _ _ hs, if_neg (hi0 _ hm).2.1] at hl
      exact h.t14 hl
    · intro hl
      rw [getD_on _ _ _ hs, if_neg (hi0 _ hm).2.2.1] at hl
      exact h.t0 hl
    · intro y hy hl
      rw [getD_on _ _ _ hs, if_neg (hi0 _ hm).1]
      exact h0
    · intro hl
      rw [getD_on _ _ _ hs, if_neg (hi0 _ hm).1, h0] at hl
      cases hl
    · intro hl
      refine ⟨es.push { key := .int .i64 k, val := .int .i64 v, born := es.size }, by rw [Array.size_push], by rw [Array.size_push]; exact MapKept.stamped_push hst hfn.2, ?_, ?_⟩
      · intro x hx
        rw [Array.toList_push, List.mem_append, List.mem_singleton] at hx
        rcases hx with hx | rfl
        · obtain ⟨y, hy, hy1, hy2⟩ := h1 x hx
          refine ⟨y, hy, ?_, hy2⟩
          rw [getD_on _ _ _ hs]
          split
          · rfl
          · exact hy1
        · exact ⟨(i, k, v), hm, by rw [getD_on _ _ _ hs, if_pos rfl], rfl, rfl⟩
      · intro y hy hl'
        rw [getD_on _ _ _ hs] at hl'
        rw [Array.toList_push]
        by_cases e : i = y.1
        · have hnd : ∀ y ∈ chIns, ∀ z ∈ chIns, y.1 = z.1 → y = z := by decide
          have := hnd (i, k, v) hm y hy e
          subst this
          exact ⟨_, List.mem_append_right _ (List.mem_singleton.2 rfl), rfl⟩
        · rw [if_neg e] at hl'
          obtain ⟨x, hx, hk⟩ := h2 y hy hl'
          exact ⟨x, List.mem_append_left _ hx, hk⟩

/-- the table: a map's entries are the keys of control characters, in some order -/
def ChTab (es : Array MapEntry) : Prop := (∀ x ∈ es.toList, ∃ y ∈ chIns, x.key = .int .i64 y.2.1 ∧ x.val = .int .i64 y.2.2) ∧ ∀ y ∈ chIns, ∃ x ∈ es.toList, x.key = .int .i64 y.2.1

theorem fifteen (t : Array Value) (h : t.size = 15) (v : Value) (h0 : t.getD 0 undef = v) : ∃ x1 x2 x3 x4 x5 x6 x7 x8 x9 x10 x11 x12 x13 x14, t = #[v, x1, x2, x3, x4, x5, x6, x7, x8, x9, x10, x11, x12, x13, x14] := by
  rcases t with ⟨l⟩
  match l, h with
  | [x0, x1, x2, x3, x4, x5, x6, x7, x8, x9, x10, x11, x12, x13, x14], _ =>
    have : x0 = v := by simpa using h0
    subst this
    exact ⟨_, _, _, _, _, _, _, _, _, _, _, _, _, _, rfl⟩

theorem listed_false (listed : Array Bool) (i : Nat) (h : listed.getD i true = false) : listed.getD i false = false := by
  rcases Nat.lt_or_ge i listed.size with h' | h'
  · simpa [h'] using h
  · simp [Array.getElem?_eq_none h'] at h

section
variable {P : Program} {ops : Array Oper} {Q : Exit → Act → World → Prop}
theorem op_make {i s : Nat} {pos : String} {aft : Array Edge} {T T' : TypeId}
    (ho : ops[i]? = some { dst := some s, op := .makeMap T' none, type := T, pos := pos, after := aft, guard := none })
    {K : Act → World → Prop} (hK : K (a.put (some s) (.map (some w.heap.size))) (w.alloc (.map #[] 0))) : wpOp P ops Q i K a w := by
  have hmm := @run_makeMap P
  refine wpOp_step ho (fun K' h => ?_)
  rw [if_pos (show Region.wanted _ (yielded ops a.tmps) = true from rfl)]
  go_simp
  exact h _ _ hK
theorem op_move {i s d : Nat} {pos : String} {aft : Array Edge} {T : TypeId} {v : Value}
    (ho : ops[i]? = some { dst := some s, op := .move (.tmp d), type := T, pos := pos, after := aft, guard := none }) (hv : a.eval (.tmp d) = v)
    {K : Act → World → Prop} (hK : K (a.put (some s) v) w) : wpOp P ops Q i K a w := by
  subst hv
  refine wpOp_step ho (fun K' h => ?_)
  rw [if_pos (show Region.wanted _ (yielded ops a.tmps) = true from rfl)]
  exact h _ _ hK
theorem op_assign {i s d : Nat} {pos : String} {aft : Array Edge} {T : TypeId} {v : Value}
    (ho : ops[i]? = some { dst := some s, op := .assign (.tmp d), type := T, pos := pos, after := aft, guard := none }) (hv : a.eval (.tmp d) = v)
    {K : Act → World → Prop} (hK : K (a.put (some s) v) w) : wpOp P ops Q i K a w := by
  subst hv
  refine wpOp_step ho (fun K' h => ?_)
  rw [if_pos (show Region.wanted _ (yielded ops a.tmps) = true from rfl)]
  exact h _ _ hK
theorem op_insert {i : Nat} {pos : String} {aft : Array Edge} {T T' : TypeId} {m x y : Operand} {k v : Int} {es : Array MapEntry}
    (ho : ops[i]? = some { dst := none, op := .insert T' m x y, type := T, pos := pos, after := aft, guard := none })
    {w0 : World} {KT ET : TypeId} (ht : P.underlying T' = some (.map KT ET)) (hk : P.underlying KT = some (.int .i64))
    (hm : a.eval m = .map (some w0.heap.size)) (hx : a.eval x = .int .i64 k) (hy : a.eval y = .int .i64 v) (hw : w = w0.alloc (.map es es.size)) (hf : Instr.findNow (.int .i64) (.int .i64 k) es.toList 0 = some none)
    {K : Act → World → Prop} (hK : K a (w0.alloc (.map (es.push { key := .int .i64 k, val := .int .i64 v, born := es.size }) (es.size + 1)))) : wpOp P ops Q i K a w := by
  subst hw
  have hp := run_putI w0 ht hk es es.size k (.int .i64 v) hf
  refine wpOp_step ho (fun K' h => ?_)
  rw [if_pos (show Region.wanted _ (yielded ops a.tmps) = true from rfl)]
  unfold Oper.wp
  simp only [execOp, hm, hx, hy, Sem.run_bind, hp, Result.andThen, Sem.run_pure]
  exact h _ _ hK
end

/-- what holds ahead of the first -/
theorem ChInv.start (w0 : World) (a : Act) (ht : a.tmps.size = 15) (hd : a.defers = []) : ChInv w0 (Array.replicate 28 false) a w0 := by
  have hf : ∀ i, (Array.replicate 28 false).getD i false = false := by
    intro i
    rcases Nat.lt_or_ge i 28 with h | h
    · simp [h]
    · simp [Array.getElem?_eq_none, h]
  refine ⟨by simp, ht, hd, ?_, ?_, ?_, ?_, ?_, fun _ => rfl, ?_⟩
  all_goals
    intros
    rename_i h
    rw [hf] at h
    cases h

end Go.Proofs.YtbflcikfaoojmaaDoor.Edit

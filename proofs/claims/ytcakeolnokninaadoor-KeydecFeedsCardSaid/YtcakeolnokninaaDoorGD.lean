/- Texts joined: Obj; ArP; Arena; Arena2; Del; ArZ. -/
import Derived.WalkKit
import Derived.ProofKit
import Derived.WalkSpells
import Derived.WalkLawsBesides
import Derived.Lib.Hide
import Derived.Below
import Derived.Laws.Rows
import Derived.Laws.CopyOwn
import Derived.Test.YtcakeolnokninaaDoorRows
import Derived.Deep.RegionLaw
import Derived.Laws.MakeOwn
import Derived.StillTailTactics
import Derived.IntWalk
import Derived.Deep.RegionHeldLaw
import Derived.Lib.SliceRun
import Derived.Test.YtcakeolnokninaaDoorGC
import Derived.LoopN
/- Whole blocks of memory, and a world in which only some of them have turned. -/
set_option linter.unusedVariables false
namespace Go.Proofs.YtcakeolnokninaaDoor.Mem
open Go.RowKit Go.Lib

/-- The block b of w holds just these cells. -/
def Blk (w : World) (b : Nat) (cs : Array Value) (t : TypeId) : Prop := w.heap[b]? = some (.cells cs t (0, 0))

theorem Blk.lt {w : World} {b : Nat} {cs : Array Value} {t : TypeId} (h : Blk w b cs t) : b < w.heap.size := by
  have := (Array.getElem?_eq_some_iff.1 h).1
  exact this
theorem Blk.cell {w : World} {b : Nat} {cs : Array Value} {t : TypeId} (h : Blk w b cs t) {j : Nat} {v : Value} (hj : cs[j]? = some v) : w.cell? ⟨b, j, none⟩ = some v := by
  rw [cell_of_row _ _ j cs t (0, 0) h]; exact hj
theorem Blk.free {w : World} {b : Nat} {cs : Array Value} {t : TypeId} (h : Blk w b cs t) (j : Nat) : w.frozen? ⟨b, j, none⟩ = false := frozen_of_row _ _ _ _ _ h
theorem Blk.alloc {w : World} {b : Nat} {cs : Array Value} {t : TypeId} (h : Blk w b cs t) (o : Obj) : Blk (w.alloc o) b cs t := by
  unfold Blk; rw [Below.heap_alloc _ _ _ h.lt]; exact h
theorem Blk.new (w : World) (cs : Array Value) (t : TypeId) : Blk (w.alloc (.cells cs t)) w.heap.size cs t := heap_alloc_new w _
theorem Blk.drew {w : World} {b : Nat} {cs : Array Value} {t : TypeId} (h : Blk w b cs t) : Blk w.drew b cs t := h
theorem Blk.set {w : World} {b : Nat} {cs : Array Value} {t : TypeId} (h : Blk w b cs t) (j : Nat) (v : Value) : Blk (w.setCell ⟨b, j, none⟩ v) b (cs.setIfInBounds j v) t := heap_setCell_same _ _ _ _ _ _ h
theorem Blk.other {w : World} {b : Nat} {cs : Array Value} {t : TypeId} (h : Blk w b cs t) {a : Addr} (ha : b ≠ a.block) (v : Value) : Blk (w.setCell a v) b cs t := by
  unfold Blk; rw [heap_setCell_other _ _ _ _ ha]; exact h

/-- w' is as w but for the blocks of S, and new ones. -/
structure But (S : List Nat) (w w' : World) : Prop where
  os : w'.os = w.os
  tape : w'.tape = w.tape
  output : w'.output = w.output
  size : w.heap.size ≤ w'.heap.size
  block : ∀ k, k < w.heap.size → k ∉ S → w'.heap[k]? = w.heap[k]?

theorem But.refl (S : List Nat) (w : World) : But S w w := ⟨rfl, rfl, rfl, Nat.le_refl _, fun _ _ _ => rfl⟩
theorem But.trans {S : List Nat} {a b c : World} (h : But S a b) (k : But S b c) : But S a c :=
  ⟨k.os.trans h.os, k.tape.trans h.tape, k.output.trans h.output, Nat.le_trans h.size k.size, fun i hi hs => (k.block i (Nat.lt_of_lt_of_le hi h.size) hs).trans (h.block i hi hs)⟩
theorem But.mono {S T : List Nat} {a b : World} (h : But S a b) (hs : ∀ k, k ∈ S → k < a.heap.size → k ∈ T) : But T a b :=
  ⟨h.os, h.tape, h.output, h.size, fun i hi hn => h.block i hi (fun hk => hn (hs i hk hi))⟩
theorem But.drew {S : List Nat} {a w : World} (h : But S a w) : But S a w.drew := ⟨h.os, h.tape, h.output, h.size, h.block⟩
theorem But.alloc {S : List Nat} {a w : World} (h : But S a w) (o : Obj) : But S a (w.alloc o) :=
  h.trans ⟨rfl, rfl, rfl, by simp, fun k hk _ => Below.heap_alloc _ _ _ hk⟩
theorem But.set {S : List Nat} {a w : World} (h : But S a w) {p : Addr} (hp : p.block ∈ S ∨ a.heap.size ≤ p.block) (u : Value) : But S a (w.setCell p u) :=
  ⟨h.os, h.tape, h.output, by simp [World.setCell]; exact h.size, fun k hk hs => by
    rw [Below.heap_setCell _ _ _ _ (by intro e; subst e; rcases hp with hp | hp; exact hs hp; omega)]; exact h.block k hk hs⟩
theorem But.below {S : List Nat} {a w : World} {B : Nat} (h : But S a w) (hB : B ≤ a.heap.size) (hs : ∀ k ∈ S, B ≤ k) : Below B a w :=
  ⟨h.os, h.tape, h.output, h.size, fun k hk => h.block k (by omega) (fun hm => by have := hs k hm; omega)⟩
theorem But.of_below {S : List Nat} {a w : World} (h : Below a.heap.size a w) : But S a w := ⟨h.os, h.tape, h.output, h.size, fun k hk _ => h.block k hk⟩
theorem Blk.but {S : List Nat} {w w' : World} {b : Nat} {cs : Array Value} {t : TypeId} (h : Blk w b cs t) (hb : But S w w') (hs : b ∉ S) : Blk w' b cs t := by
  unfold Blk; rw [hb.block b h.lt hs]; exact h
theorem But.cell {S : List Nat} {w w' : World} (h : But S w w') {p : Addr} (hp : p.block < w.heap.size) (hs : p.block ∉ S) : w'.cell? p = w.cell? p := World.cell?_of_block (w := w) (h.block p.block hp hs)

theorem results_cell3 {P : Program} {fn : Func} {p u v : Tmp} {ty : TypeId} (h : fn.results = #[.cell p ty, .tmp u, .tmp v]) (tmps : Array Value) (w : World) (g : Nat) (t : TypeId) (cs : Array Value) (d : TypeDesc)
    (hp : tmps.getD p undef = .pointer (some ⟨g, 0, none⟩)) (hg : Blk w g cs t)
    (hu : P.underlying ty = some d) (hd : (match d with | .struct _ | .array _ _ => true | _ => false) = true) (hi : (P.info? ty).map (·.size) = some cs.size) :
    (results fn tmps).run P w = .ok (.tuple #[.agg cs, tmps.getD u undef, tmps.getD v undef]) w := by
  have hp' : tmps[p]?.getD undef = .pointer (some ⟨g, 0, none⟩) := by simpa using hp
  simp [results, h, hp', asAddr, run_loadVar_row w g t ty cs (0, 0) d hg hu hd hi]

end Go.Proofs.YtcakeolnokninaaDoor.Mem

/- The cells of an arena in plain lists: what a copy and a clearing do to them; blocks in which many cells turned. -/
set_option linter.unusedVariables false
namespace Go.Proofs.YtcakeolnokninaaDoor.Mem
open Go.RowKit Go.Lib

def cellsB (l : List UInt8) : List Value := l.map fun c => Value.int .u8 (c.toNat : Int)
theorem cellsB_length (l : List UInt8) : (cellsB l).length = l.length := by simp [cellsB]
theorem cellsB_append (l m : List UInt8) : cellsB (l ++ m) = cellsB l ++ cellsB m := by simp [cellsB]
theorem cellsB_take (l : List UInt8) (n : Nat) : cellsB (l.take n) = (cellsB l).take n := by simp [cellsB, List.map_take]
theorem cellsB_drop (l : List UInt8) (n : Nat) : cellsB (l.drop n) = (cellsB l).drop n := by simp [cellsB, List.map_drop]
theorem cellsB_splice (l m : List UInt8) (n : Nat) : splice (cellsB l) n (cellsB m) = cellsB (splice l n m) := by
  unfold splice
  rw [cellsB_append, cellsB_append, cellsB_take, cellsB_drop, cellsB_length]
theorem cellsB_one (l : List UInt8) : ∀ v ∈ cellsB l, v.oneCell' = true := by
  intro v hv
  simp only [cellsB, List.mem_map] at hv
  obtain ⟨c, _, rfl⟩ := hv
  rfl
theorem cellsB_zero (n : Nat) : List.replicate n (Value.int .u8 0) = cellsB (List.replicate n 0) := by simp [cellsB]
theorem cellsB_get (l : List UInt8) (j : Nat) (hj : j < l.length) : (cellsB l)[j]? = some (.int .u8 ((l.getD j 0).toNat : Int)) := by
  unfold cellsB
  rw [List.getElem?_map, List.getElem?_eq_getElem hj, List.getD_eq_getElem?_getD, List.getElem?_eq_getElem hj]
  rfl

/-- Bytes laid between: two copies. -/
theorem splice_insert {α : Type} (t Z b : List α) (at' : Nat) (ha : at' ≤ t.length) (hb : b.length ≤ Z.length) :
    splice (splice (t ++ Z) (at' + b.length) (t.drop at')) at' b = t.take at' ++ (b ++ (t.drop at' ++ Z.drop b.length)) := by
  unfold splice
  have e1 : (t ++ Z).drop (at' + b.length + (t.drop at').length) = Z.drop b.length := by
    rw [List.length_drop, show at' + b.length + (t.length - at') = t.length + b.length by omega, List.drop_append]
    simp
  rw [e1]
  have hl : ((t ++ Z).take (at' + b.length)).length = at' + b.length := by simp; omega
  rw [List.drop_append, List.drop_eq_nil_of_le (Nat.le_of_eq hl), hl, Nat.sub_self, List.drop_zero, List.nil_append]
  rw [List.take_append_of_le_length (Nat.le_trans (Nat.le_add_right _ _) (Nat.le_of_eq hl.symm)), List.take_take, Nat.min_eq_left (Nat.le_add_right _ _), List.take_append_of_le_length ha]

/-- Bytes taken away: a copy and a clearing. -/
theorem splice_delete {α : Type} (t Z O : List α) (from' to : Nat) (h : from' ≤ to) (ht : to ≤ t.length) (hO : O.length = to - from') :
    splice (splice (t ++ Z) from' (t.drop to)) (t.length - (to - from')) O = t.take from' ++ (t.drop to ++ (O ++ Z)) := by
  unfold splice
  have e0 : from' + (t.drop to).length = t.length - (to - from') := by simp; omega
  have hl : ((t ++ Z).take from').length = from' := by simp; omega
  have e3 : t.length - (to - from') + O.length = t.length := by omega
  rw [e3, e0]
  have e1 : ((t ++ Z).take from' ++ (t.drop to ++ (t ++ Z).drop (t.length - (to - from')))).take (t.length - (to - from')) = (t ++ Z).take from' ++ t.drop to := by
    rw [← List.append_assoc, List.take_append_of_le_length (by rw [List.length_append, hl]; omega), List.take_of_length_le (by rw [List.length_append, hl]; omega)]
  have e2 : ((t ++ Z).take from' ++ (t.drop to ++ (t ++ Z).drop (t.length - (to - from')))).drop t.length = Z := by
    rw [← List.append_assoc, List.drop_append, List.drop_eq_nil_of_le (by rw [List.length_append, hl]; omega), List.nil_append, List.length_append, hl, e0, List.drop_drop]
    rw [show t.length - (to - from') + (t.length - (t.length - (to - from'))) = t.length by omega, List.drop_append]
    simp
  rw [e1, e2, List.take_append_of_le_length (by omega)]
  simp

theorem setCells_nil (w : World) (b o : Nat) : w.setCells b o [] = w := rfl
theorem setCells_cons (w : World) (b o : Nat) (v : Value) (vs : List Value) : w.setCells b o (v :: vs) = (w.setCell ⟨b, o, none⟩ v).setCells b (o + 1) vs := rfl

theorem Blk.setCells {b : Nat} {t : TypeId} : ∀ (vs : List Value) (o : Nat) (w : World) (cs : List Value), Blk w b cs.toArray t → o + vs.length ≤ cs.length → Blk (w.setCells b o vs) b (splice cs o vs).toArray t
  | [], o, w, cs, h, ho => by
    rw [setCells_nil]; simpa [splice] using h
  | v :: vs, o, w, cs, h, ho => by
    rw [setCells_cons]
    simp only [List.length_cons] at ho
    have h1 := h.set o v
    have e : (cs.toArray.setIfInBounds o v) = (cs.set o v).toArray := by simp
    rw [e] at h1
    have := Blk.setCells vs (o + 1) _ _ h1 (by simp; omega)
    have e2 : splice (cs.set o v) (o + 1) vs = splice cs o (v :: vs) := by
      unfold splice
      rw [List.take_set, List.drop_set_of_lt (by omega)]
      rw [show cs.take (o + 1) = cs.take o ++ [cs[o]] by rw [List.take_succ_eq_append_getElem (by omega)]]
      rw [List.set_append_right _ _ (by rw [List.length_take]; exact Nat.min_le_left _ _)]
      simp
      rw [show min o cs.length = o from Nat.min_eq_left (by omega)]
      simp only [Nat.sub_self, List.set_cons_zero, List.cons_append, List.nil_append]
      rw [Nat.add_assoc o 1, Nat.add_comm 1]
    rw [e2] at this
    exact this

theorem But.setCells {S : List Nat} {a : World} {b : Nat} (hb : b ∈ S ∨ a.heap.size ≤ b) : ∀ (vs : List Value) (o : Nat) (w : World), But S a w → But S a (w.setCells b o vs)
  | [], o, w, h => h
  | v :: vs, o, w, h => by
    rw [setCells_cons]
    exact But.setCells hb vs (o + 1) _ (h.set hb v)

theorem But.setRow {S : List Nat} {a w : World} {b : Nat} (h : But S a w) (hb : b ∈ S ∨ a.heap.size ≤ b) (cs : Array Value) : But S a (w.setRow b cs) :=
  ⟨h.os, h.tape, h.output, by simp [World.setRow]; exact h.size, fun k hk hs => by
    rw [setRow_other _ _ _ _ (by intro e; subst e; rcases hb with hb | hb; exact hs hb; omega)]; exact h.block k hk hs⟩

theorem wpList_copy_but {P : Program} {w : World} {ops : Array Oper} {rest : List Oper} {o : Oper} {a : Act} {Q : Exit → Act → World → Prop} (hgd : o.guard = none) (d s : Operand) (dT sT : TypeId)
    (ho : o.op = .call { callee := .builtin .copy, args := #[d, s], argTypes := #[dT, sT] }) (elem : TypeId) (hu : P.underlying dT = some (.slice elem)) (hsz : (P.info? elem).map (·.size) = some 1)
    (dp sp : Option Addr) (dLen dCap sLen sCap : Nat) (hd : a.eval d = .slice dp dLen dCap) (hs : a.eval s = .slice sp sLen sCap)
    (g off : Nat) (cur : List Value) (t : TypeId) (hg : Blk w g cur.toArray t) (cs : List Value) (hn : cs.length = Nat.min sLen dLen)
    (hpos : 0 < cs.length → dp = some ⟨g, off, none⟩ ∧ ∃ ad, sp = some ad ∧ ∀ j v, cs[j]? = some v → w.cell? (ad.add j) = some v)
    (hfit : off + cs.length ≤ cur.length) (h1 : ∀ v ∈ cs, v.oneCell' = true)
    (h : ∀ w', Hid (Blk w' g (splice cur off cs).toArray t) → Hid (But [g] w w') → wpList P ops Q rest (a.put o.dst (goInt cs.length)) w') :
    wpList P ops Q (o :: rest) a w := by
  by_cases h0 : cs.length = 0
  · obtain rfl : cs = [] := List.eq_nil_of_length_eq_zero h0
    refine wpList_copy_nothing hgd d s dT sT ho elem hu hsz dp sp dLen dCap sLen sCap hd hs (by simpa using hn.symm) ?_
    exact h w (show Blk _ _ _ _ by simpa [splice] using hg) (But.refl _ _)
  · obtain ⟨rfl, ad, rfl, hsrc⟩ := hpos (by omega)
    refine wpList_copy_own hgd d s dT sT ho elem hu hsz g off dLen dCap ad sLen sCap hd hs cur.toArray t hg cs hn hsrc (by simpa using hfit) h1 ?_
    exact h _ (show Blk _ _ _ _ by simpa [splice, Blk] using setRow_heap w g _ _ t _ hg) (show But _ _ _ from (But.refl _ _).setRow (Or.inl (by simp)) _)

theorem step_copy_but {P : Program} {ops : Array Oper} {o : Oper} {a : Act} {w : World} {K : Act → World → Prop} {Q : Exit → Act → World → Prop} {E : Prop} (hgd : o.guard = none) (d s : Operand) (dT sT : TypeId)
    (ho : o.op = .call { callee := .builtin .copy, args := #[d, s], argTypes := #[dT, sT] }) (elem : TypeId) (hu : P.underlying dT = some (.slice elem)) (hsz : (P.info? elem).map (·.size) = some 1)
    (dp sp : Option Addr) (dLen dCap sLen sCap : Nat) (hd : a.eval d = .slice dp dLen dCap) (hs : a.eval s = .slice sp sLen sCap)
    (g off : Nat) (cur : List Value) (t : TypeId) (hg : Blk w g cur.toArray t) (cs : List Value) (hn : cs.length = Nat.min sLen dLen)
    (hpos : 0 < cs.length → dp = some ⟨g, off, none⟩ ∧ ∃ ad, sp = some ad ∧ ∀ j v, cs[j]? = some v → w.cell? (ad.add j) = some v)
    (hfit : off + cs.length ≤ cur.length) (h1 : ∀ v ∈ cs, v.oneCell' = true)
    (h : ∀ w', Hid (Blk w' g (splice cur off cs).toArray t) → Hid (But [g] w w') → K (a.put o.dst (goInt cs.length)) w') :
    if Region.wanted o (yielded ops a.tmps) = true then Oper.wp P o a w K Q else E := by
  have hw : Region.wanted o (yielded ops a.tmps) = true := by simp [Region.wanted, hgd]
  rw [if_pos hw]
  by_cases h0 : cs.length = 0
  · obtain rfl : cs = [] := List.eq_nil_of_length_eq_zero h0
    have hrun := run_copy_none (P := P) w dT sT o.type elem dp sp dLen dCap sLen sCap hu hsz (by simpa using hn.symm)
    unfold Oper.wp
    simp [execOp, ho, resolve, invoke, builtin, hd, hs, hrun, Result.andThen]
    exact h w (show Blk _ _ _ _ by simpa [splice] using hg) (But.refl _ _)
  · obtain ⟨rfl, ad, rfl, hsrc⟩ := hpos (by omega)
    have hrun := run_copy_row (P := P) w dT sT o.type elem g off dLen dCap ad sLen sCap cur.toArray t cs hu hsz hg hn hsrc (by simpa using hfit) h1
    unfold Oper.wp
    simp [execOp, ho, resolve, invoke, builtin, hd, hs, hrun, Result.andThen]
    exact h _ (show Blk _ _ _ _ by simpa [splice, Blk] using setRow_heap w g _ _ t _ hg) (show But _ _ _ from (But.refl _ _).setRow (Or.inl (by simp)) _)

end Go.Proofs.YtcakeolnokninaaDoor.Mem

/- An arena, walked: New, Insert, Len, Copy, Wipe, Cell, Zero. -/
set_option linter.unusedVariables false
namespace Go.Proofs.YtcakeolnokninaaDoor.Mem
open Go.RowKit Go.Lib ChangeShapes

/-- An arena at block a, its N cells at block c: the bytes t, and 0 behind them. -/
structure Ar (w : World) (a c N : Nat) (t : List UInt8) : Prop where
  head : Blk w a #[.slice (some ⟨c, 0, none⟩) N N, .int .i64 (t.length : Int)] 82
  body : Blk w c (cellsB (t ++ List.replicate (N - t.length) 0)).toArray 5
  ne : a ≠ c
  fit : t.length ≤ N
  pos : 1 ≤ N
  max : N ≤ 4096

theorem still_tail {P : Program} {id : Nat} {Q : Exit → Act → World → Prop} {a : Act} {w : World} {l : List Oper} (n : Nat) (hm : P.follows .mixedOrders = true) (hB : Region.lexTailB .any l.toArray n = true)
    (h : wpStill P l.toArray w.drew (fun a' => wpList P l.toArray Q (l.drop n) a' w.drew) (l.take n) a) : (Code.region id l.toArray true).wp P Q a w := wp_region_still_tail n hm hB h

theorem new_bad (n : Int) (hn : n < 1 ∨ 4096 < n) (w : World) : Calls Tryd.prog 38 #[.int .i64 n] w fun e w' => e = .returned (.tuple #[.pointer none, .int .i64 3]) ∧ w' = w := by
  go_enter Tryd.func38, Tryd.ntmps38
  go_wp2
  all_goals
    go_ret2
    exact ⟨rfl, rfl⟩

theorem made_zero (n : Nat) : madeCells #[.int .u8 0] n = (cellsB (List.replicate n 0)).toArray := by
  unfold madeCells
  rw [← cellsB_zero]
  apply Array.ext
  · simp
  · intro i h1 h2
    simp [Nat.mod_one]

theorem make_bytes (w : World) (n : Nat) (h : n ≤ 4096) : (Instr.makeSlice 22 (.int .i64 (n : Int)) (.int .i64 (n : Int))).run Tryd.prog w = .ok (.slice (some ⟨w.heap.size, 0, none⟩) n n) (w.alloc (.cells (cellsB (List.replicate n 0)).toArray 5)) := by
  obtain ⟨i, hi⟩ := Option.isSome_iff_exists.1 (show (Tryd.prog.info? 5).isSome = true by kernel_rfl)
  have h1 : (Tryd.prog.info? 5).map (fun i => (i.zero, i.bytes, i.size)) = some (some (.int .u8 0), 1, 1) := by kernel_rfl
  rw [hi] at h1
  simp only [Option.map_some, Option.some.injEq, Prod.mk.injEq] at h1
  obtain ⟨hz, hb, hs⟩ := h1
  have := run_make (P := Tryd.prog) w 22 5 i (.int .u8 0) Tryd.underlying22 hi hz .i64 .i64 n n (by omega) (by omega) (by rw [hb]; omega) (by omega)
  rw [this, hs]
  simp only [Int.toNat_natCast, Nat.mul_one]
  rw [← made_zero]
  rfl

attribute [local go_sem ↓] make_bytes
theorem new (n : Nat) (h1 : 1 ≤ n) (h2 : n ≤ 4096) (w : World) : Calls Tryd.prog 38 #[.int .i64 (n : Int)] w fun e w' => e = .returned (.tuple #[.pointer (some ⟨w.heap.size + 1, 0, none⟩), .int .i64 0]) ∧ Ar w' (w.heap.size + 1) w.heap.size n [] ∧ Below w.heap.size w w' := by
  go_enter Tryd.func38, Tryd.ntmps38
  go_wp2
  go_ret2
  have h1' := Blk.new w (cellsB (List.replicate n 0)).toArray 5
  have h2' := Blk.new (w.alloc (.cells (cellsB (List.replicate n 0)).toArray 5)) #[.slice (some ⟨w.heap.size, 0, none⟩) n n, .int .i64 0] 82
  rw [show (w.alloc (.cells (cellsB (List.replicate n 0)).toArray 5)).heap.size = w.heap.size + 1 by simp] at h2'
  refine ⟨rfl, ⟨h2', by simpa using h1'.alloc _, by omega, by simp, h1, h2⟩, ((Below.refl _ _).alloc (Nat.le_refl _) _).alloc (by simp) _⟩

theorem len_nil (w : World) : Calls Tryd.prog 31 #[.pointer none] w fun e w' => e = .returned (.int .i64 0) ∧ w' = w := by
  go_enter Tryd.func31, Tryd.ntmps31
  go_wp2
  go_ret
  exact ⟨rfl, rfl⟩

theorem len {a c N : Nat} {t : List UInt8} (w : World) (h : Ar w a c N t) : Calls Tryd.prog 31 #[.pointer (some ⟨a, 0, none⟩)] w fun e w' => e = .returned (.int .i64 (t.length : Int)) ∧ w' = w := by
  have c1 := h.head.cell (j := 1) (v := .int .i64 (t.length : Int)) rfl
  clear h
  go_enter Tryd.func31, Tryd.ntmps31
  go_wp2
  go_ret
  exact ⟨rfl, rfl⟩

/-- Bytes as cells, wherever they lie. -/
def Src (w : World) (A : Option Addr) (l : List UInt8) : Prop := 0 < l.length → ∃ ad, A = some ad ∧ ∀ j v, (cellsB l)[j]? = some v → w.cell? (ad.add j) = some v

set_option maxRecDepth 100000 in
set_option maxHeartbeats 1000000 in
theorem insert_in {a c N : Nat} {t : List UInt8} (at' : Nat) (A : Option Addr) (l : List UInt8) (cap : Nat) (w : World) (h : Ar w a c N t) (hNa : ¬ N = at') (ha : at' ≤ t.length) (hl : t.length + l.length ≤ N) (hA : Src w A l) (hc : ∀ ad, A = some ad → l ≠ [] → ad.block ≠ c) :
    Calls Tryd.prog 39 #[.pointer (some ⟨a, 0, none⟩), .int .i64 (at' : Int), .slice A l.length cap] w fun e w' => e = .returned (.int .i64 0) ∧ Ar w' a c N (t.take at' ++ (l ++ t.drop at')) ∧ But [a, c] w w' := by
  have H := Lib.hid h
  have c0 := h.head.cell (j := 0) (v := .slice (some ⟨c, 0, none⟩) N N) rfl
  have c1 := h.head.cell (j := 1) (v := .int .i64 (t.length : Int)) rfl
  have f1 := h.head.free 1
  have hmax := h.max
  have HA := Lib.hid hA
  have HC := Lib.hid hc
  obtain ⟨k, hk⟩ : ∃ k, k = at' + l.length := ⟨_, rfl⟩
  have hs : IntKind.i64.wrap ((at' : Int) + (l.length : Int)) = (k : Int) := by rw [IntWalk.i64_in _ (by omega), hk]; rfl
  have hkN : (k : Int) ≤ (N : Int) := by omega
  have hkn : k ≤ N := by omega
  have hat : (at' : Int) ≤ (t.length : Int) := by omega
  have htN : (t.length : Int) ≤ (N : Int) := by omega
  have hp : 0 < (cellsB (t.drop at')).length → (if N = k then some (⟨c, 0, none⟩ : Addr) else some ⟨c, k, none⟩) = some ⟨c, k, none⟩ ∧ ∃ ad, some (⟨c, at', none⟩ : Addr) = some ad ∧ ∀ j v, (cellsB (t.drop at'))[j]? = some v → w.cell? (ad.add j) = some v := by
    intro h0
    rw [cellsB_length, List.length_drop] at h0
    rw [if_neg (by omega)]
    refine ⟨rfl, _, rfl, fun j v hj => ?_⟩
    rw [WideShapes.add_plain]
    refine H.out.body.cell ?_
    rw [cellsB_drop] at hj
    rw [List.getElem?_drop] at hj
    rw [cellsB_append]
    simp only [List.getElem?_toArray]
    rw [List.getElem?_append_left]
    · exact hj
    · exact (List.getElem?_eq_some_iff.1 hj).1
  have HP := Lib.hid hp
  have HK := Lib.hid hk
  clear hk hp
  clear h hA hc
  go_enter Tryd.func39, Tryd.ntmps39
  go_wp2
  go_region
  go_wp2
  obtain ⟨w2, hw2⟩ : ∃ w2, w.drew.drew = w2 := ⟨_, rfl⟩
  have d0 : w2.cell? ⟨a, 0, none⟩ = some (.slice (some ⟨c, 0, none⟩) N N) := by rw [← hw2]; exact c0
  have d1 : w2.cell? ⟨a, 1, none⟩ = some (.int .i64 (t.length : Int)) := by rw [← hw2]; exact c1
  have hB2 : Hid (Blk w2 c (cellsB (t ++ List.replicate (N - t.length) 0)).toArray 5) := by rw [← hw2]; exact H.out.body
  have hU2 : Hid (But [a, c] w w2) := by rw [← hw2]; exact (But.refl _ _).drew.drew
  refine still_tail 19 (by kernel_rfl) (by kernel_rfl) ?_
  rw [hw2]
  simp only [List.take_succ_cons, List.take_zero, List.drop_succ_cons, List.drop_zero]
  repeat still_step
  refine wpStill_nil ?_
  refine wpList_copy_but rfl (.tmp 43) (.tmp 53) 22 22 rfl 5 Tryd.underlying22 (by kernel_rfl) _ _ _ _ _ _ rfl rfl c k (cellsB (t ++ List.replicate (N - t.length) 0)) 5 hB2.out (cellsB (t.drop at')) (by rw [cellsB_length, List.length_drop, HK.out]; simp only [Nat.min_def]; split <;> omega) (by rw [← hw2]; exact HP.out) (by rw [cellsB_length, cellsB_length, List.length_drop, List.length_append, List.length_replicate, HK.out]; omega) (cellsB_one _) ?_
  intro w4 hg4 hb4
  have hh4 : Blk w4 a #[.slice (some ⟨c, 0, none⟩) N N, .int .i64 (t.length : Int)] 82 := Blk.but (by rw [← hw2]; exact H.out.head) hb4.out (by simp; exact H.out.ne)
  have e0 := hh4.cell (j := 0) (v := .slice (some ⟨c, 0, none⟩) N N) rfl
  have e1 := hh4.cell (j := 1) (v := .int .i64 (t.length : Int)) rfl
  have HH4 := Lib.hid hh4
  have HU4 : Hid (But [a, c] w w4) := hU2.out.trans (hb4.out.mono (by simp))
  have HS4 : Hid (Src w4 A l) := fun h0 => by
    obtain ⟨ad, rfl, h1⟩ := HA.out h0
    refine ⟨ad, rfl, fun j v hj => ?_⟩
    have hlt := World.block_lt_of_cell? _ _ (h1 j v hj)
    have hne : ad.block ≠ c := HC.out ad rfl (by intro h; rw [h] at h0; simp at h0)
    rw [hb4.out.cell (by rw [← hw2]; exact hlt) (by rw [block_add]; simpa using hne), ← hw2]
    exact h1 j v hj
  have HS5 : Hid (0 < (cellsB l).length → some (⟨c, at', none⟩ : Addr) = some ⟨c, at', none⟩ ∧ ∃ ad, A = some ad ∧ ∀ j v, (cellsB l)[j]? = some v → w4.cell? (ad.add j) = some v) := fun h0 => ⟨rfl, HS4.out (by rw [cellsB_length] at h0; exact h0)⟩
  clear hw2 d0 d1 hB2 hU2 c0 c1 f1 hh4 hb4
  generalize (if N = k then (some ⟨c, 0, none⟩ : Option Addr) else some ⟨c, k, none⟩) = D1
  go_wp2_with (with_reducible refine wpList_copy_but rfl (.tmp 60) (.tmp 61) 22 22 rfl 5 Tryd.underlying22 (by kernel_rfl) _ _ _ _ _ _ rfl rfl c at' (splice (cellsB (t ++ List.replicate (N - t.length) 0)) k (cellsB (t.drop at'))) 5 hg4.out (cellsB l) (by rw [cellsB_length]; simp only [Nat.min_def]; split <;> omega) HS5.out (by rw [cellsB_splice, cellsB_length, cellsB_length, length_splice _ _ _ (by rw [List.length_drop, List.length_append, List.length_replicate, HK.out]; omega), List.length_append, List.length_replicate]; omega) (cellsB_one _) ?_; intro w5 hg5 hb5; have hh5 : Blk w5 a #[.slice (some ⟨c, 0, none⟩) N N, .int .i64 (t.length : Int)] 82 := Blk.but HH4.out hb5.out (by simp; exact H.out.ne); have g1 := hh5.cell (j := 1) (v := .int .i64 (t.length : Int)) rfl; have gf := hh5.free 1; have HH5 := Lib.hid hh5; clear hh5)
  go_ret
  have hlen : (t.take at' ++ (l ++ t.drop at')).length = t.length + l.length := by
    rw [List.length_append, List.length_append, List.length_take, List.length_drop]; omega
  refine ⟨rfl, ⟨?_, ?_, H.out.ne, by rw [hlen]; exact hl, H.out.pos, H.out.max⟩, (HU4.out.trans (hb5.out.mono (by simp))).set (Or.inl (by simp)) _⟩
  · rw [hlen]
    exact Blk.set HH5.out 1 _
  · have h := (Blk.other hg5.out (a := ⟨a, 1, none⟩) (fun e => H.out.ne e.symm) (.int .i64 ((t.length : Int) + (l.length : Int))))
    have hZ : l.length ≤ (List.replicate (N - t.length) (0 : UInt8)).length := by rw [List.length_replicate]; omega
    rw [cellsB_splice, cellsB_splice, HK.out, splice_insert _ _ _ _ ha hZ, List.drop_replicate] at h
    rw [hlen, show N - (t.length + l.length) = N - t.length - l.length by omega, List.append_assoc, List.append_assoc]
    exact h

end Go.Proofs.YtcakeolnokninaaDoor.Mem

/- An arena, walked: Wipe, Copy, Delete, Cell, At. -/
set_option linter.unusedVariables false
namespace Go.Proofs.YtcakeolnokninaaDoor.Mem
open Go.RowKit Go.Lib ChangeShapes

theorem run_clear_none {P : Program} (w : World) (t e ty : TypeId) (ht : P.underlying t = some (.slice e)) (dp : Option Addr) (c : Nat) :
    (Builtin.clear_ #[t] ty #[.slice dp 0 c]).run P w = .ok (.tuple #[]) w := by
  cases dp <;> simp [Builtin.clear_, run_underlying ht]

theorem wpList_clear_but {P : Program} {w : World} {ops : Array Oper} {rest : List Oper} {o : Oper} {a : Act} {Q : Exit → Act → World → Prop} (hgd : o.guard = none) (s : Operand) (T : TypeId)
    (ho : o.op = .call { callee := .builtin .clear, args := #[s], argTypes := #[T] }) (e : TypeId) (hu : P.underlying T = some (.slice e)) (hz : ∀ w, (zeroValue e).run P w = .ok (.int .u8 0) w)
    (dp : Option Addr) (n cap : Nat) (hs : a.eval s = .slice dp n cap) (g off : Nat) (cur : List Value) (t : TypeId) (hg : Blk w g cur.toArray t) (hfit : off + n ≤ cur.length) (hpos : 0 < n → dp = some ⟨g, off, none⟩)
    (h : ∀ w', Hid (Blk w' g (splice cur off (List.replicate n (.int .u8 0))).toArray t) → Hid (But [g] w w') → wpList P ops Q rest (a.put o.dst (.tuple #[])) w') :
    wpList P ops Q (o :: rest) a w := by
  refine wpList_plain hgd fun K hK => ?_
  rcases Nat.eq_zero_or_pos n with h0 | h0
  · subst h0
    have hrun := run_clear_none (P := P) w T e o.type hu dp cap
    unfold Oper.wp
    simp [execOp, ho, resolve, invoke, builtin, hs, hrun, Result.andThen]
    exact hK _ _ (h w (show Blk _ _ _ _ by simpa [splice] using hg) (But.refl _ _))
  · obtain rfl := hpos h0
    have hcell : ∀ j, j < n → (w.cell? ⟨g, off + j, none⟩).isSome = true := fun j hj => by
      have : cur.toArray[off + j]? = some (cur[off + j]'(by omega)) := by simp
      rw [hg.cell this]; rfl
    have hrun := run_clear_slice (P := P) w T e o.type (.int .u8 0) hu hz rfl rfl g off n cap h0 hcell (fun j _ => hg.free _)
    unfold Oper.wp
    simp [execOp, ho, resolve, invoke, builtin, hs, hrun, Result.andThen]
    exact hK _ _ (h _ (show Blk _ _ _ _ from Blk.setCells _ _ _ _ hg (by rw [List.length_replicate]; exact hfit)) (show But _ _ _ from But.setCells (Or.inl (by simp)) _ _ _ (But.refl _ _)))

theorem zero_u8 (w : World) : (zeroValue 5).run Tryd.prog w = .ok (.int .u8 0) w := by
  obtain ⟨i, hi⟩ := Option.isSome_iff_exists.1 (show (Tryd.prog.info? 5).isSome = true by kernel_rfl)
  have h1 : (Tryd.prog.info? 5).map (fun i => i.zero) = some (some (.int .u8 0)) := by kernel_rfl
  rw [hi] at h1
  simp only [Option.map_some, Option.some.injEq] at h1
  simp [zeroValue, typeInfo, hi, h1]

theorem splice_all (l m : List Value) (h : m.length = l.length) : splice l 0 m = m := by
  unfold splice
  rw [List.take_zero, List.nil_append, List.drop_eq_nil_of_le (by omega), List.append_nil]

set_option maxHeartbeats 1000000 in
theorem wipe {a c N : Nat} {t : List UInt8} (w : World) (h : Ar w a c N t) :
    Calls Tryd.prog 47 #[.pointer (some ⟨a, 0, none⟩)] w fun e w' => e = .returned (.tuple #[]) ∧ Ar w' a c N [] ∧ But [a, c] w w' := by
  have H := Lib.hid h
  have c0 := h.head.cell (j := 0) (v := .slice (some ⟨c, 0, none⟩) N N) rfl
  have hl : (t ++ List.replicate (N - t.length) (0 : UInt8)).length = N := by have := h.fit; simp; omega
  have HL : Hid (0 + N ≤ (cellsB (t ++ List.replicate (N - t.length) 0)).length) := by rw [cellsB_length, hl]; show 0 + N ≤ N; omega
  have HL2 := Lib.hid hl
  clear h hl
  go_enter Tryd.func47, Tryd.ntmps47
  go_wp2_with (with_reducible refine wpList_clear_but rfl (.tmp 7) 22 rfl 5 Tryd.underlying22 zero_u8 _ _ _ rfl c 0 (cellsB (t ++ List.replicate (N - t.length) 0)) 5 H.out.body HL.out (fun _ => rfl) ?_; intro w5 hg5 hb5; have hh5 : Blk w5 a #[.slice (some ⟨c, 0, none⟩) N N, .int .i64 (t.length : Int)] 82 := Blk.but H.out.head hb5.out (by simp; exact H.out.ne); have g1 := hh5.cell (j := 1) (v := .int .i64 (t.length : Int)) rfl; have gf := hh5.free 1; have HH5 := Lib.hid hh5; clear hh5)
  go_end0
  refine ⟨rfl, ⟨Blk.set HH5.out 1 _, ?_, H.out.ne, by simp, H.out.pos, H.out.max⟩, (hb5.out.mono (by simp)).set (Or.inl (by simp)) _⟩
  have h := Blk.other hg5.out (a := ⟨a, 1, none⟩) (fun e => H.out.ne e.symm) (.int .i64 0)
  rw [cellsB_zero, splice_all _ _ (by rw [cellsB_length, cellsB_length, HL2.out, List.length_replicate])] at h
  simpa using h

/-- Cells in memory from a place on, not frozen. -/
structure Win (w : World) (g off : Nat) (cur : List Value) : Prop where
  cell : ∀ j v, cur[j]? = some v → w.cell? ⟨g, off + j, none⟩ = some v
  free : ∀ j, j < cur.length → w.frozen? ⟨g, off + j, none⟩ = false

theorem Blk.win {w : World} {g : Nat} {cur : List Value} {t : TypeId} (h : Blk w g cur.toArray t) : Win w g 0 cur :=
  ⟨fun j v hj => by rw [Nat.zero_add]; exact h.cell (by simpa using hj), fun j _ => h.free _⟩

theorem frozen_block {w w' : World} {p : Addr} (h : w'.heap[p.block]? = w.heap[p.block]?) : w'.frozen? p = w.frozen? p := by
  unfold World.frozen?
  rw [h]

theorem Win.but {S : List Nat} {w w' : World} {g off : Nat} {cur : List Value} (h : Win w g off cur) (hb : But S w w') (hg : g ∉ S) (hlt : g < w.heap.size) : Win w' g off cur :=
  ⟨fun j v hj => by rw [hb.cell (p := ⟨g, off + j, none⟩) hlt hg]; exact h.cell j v hj, fun j hj => by rw [frozen_block (p := ⟨g, off + j, none⟩) (hb.block g hlt hg)]; exact h.free j hj⟩

theorem Win.set {w : World} {g off : Nat} {cur : List Value} (h : Win w g off cur) (p : Addr) (hp : p.block ≠ g) (u : Value) : Win (w.setCell p u) g off cur :=
  ⟨fun j v hj => by rw [World.cell?_of_block (w := w) (heap_setCell_other _ _ _ _ (fun e => hp e.symm))]; exact h.cell j v hj, fun j hj => by rw [frozen_block (w := w) (heap_setCell_other _ _ _ _ (fun e => hp e.symm))]; exact h.free j hj⟩

theorem Win.setCells {w : World} {g off : Nat} {cur cs : List Value} (h : Win w g off cur) (hl : cs.length ≤ cur.length) : Win (w.setCells g off cs) g off (splice cur 0 cs) := by
  have hsome : ∀ j, j < cs.length → (w.cell? ⟨g, off + j, none⟩).isSome = true := fun j hj => by
    rw [h.cell j _ (List.getElem?_eq_getElem (by omega))]; rfl
  refine ⟨fun j v hj => ?_, fun j hj => ?_⟩
  · unfold splice at hj
    rw [List.take_zero, List.nil_append, Nat.zero_add] at hj
    by_cases hjc : j < cs.length
    · rw [List.getElem?_append_left hjc] at hj
      rw [World.cell?_setCells_in g cs off w hsome j hjc]
      rw [← hj, List.getElem?_eq_getElem hjc]
    · rw [List.getElem?_append_right (by omega), List.getElem?_drop] at hj
      rw [World.cell?_setCells_out g cs off w ⟨g, off + j, none⟩ (fun _ _ => Or.inr (by show off + cs.length ≤ off + j; omega))]
      exact h.cell j v (by rw [← hj]; congr 1; omega)
  · rw [World.frozen?_setCells]
    rw [length_splice _ _ _ (by omega)] at hj
    exact h.free j hj

theorem wpList_copy_win {P : Program} {w : World} {ops : Array Oper} {rest : List Oper} {o : Oper} {a : Act} {Q : Exit → Act → World → Prop} (hgd : o.guard = none) (d s : Operand) (dT sT : TypeId)
    (ho : o.op = .call { callee := .builtin .copy, args := #[d, s], argTypes := #[dT, sT] }) (elem : TypeId) (hu : P.underlying dT = some (.slice elem)) (hsz : (P.info? elem).map (·.size) = some 1)
    (dp sp : Option Addr) (dLen dCap sLen sCap : Nat) (hd : a.eval d = .slice dp dLen dCap) (hs : a.eval s = .slice sp sLen sCap)
    (g off : Nat) (cur : List Value) (hg : Win w g off cur) (cs : List Value) (hn : cs.length = Nat.min sLen dLen)
    (hpos : 0 < cs.length → dp = some ⟨g, off, none⟩ ∧ ∃ ad, sp = some ad ∧ ∀ j v, cs[j]? = some v → w.cell? (ad.add j) = some v)
    (hfit : cs.length ≤ cur.length) (h1 : ∀ v ∈ cs, v.oneCell' = true)
    (h : ∀ w', Hid (Win w' g off (splice cur 0 cs)) → Hid (But [g] w w') → wpList P ops Q rest (a.put o.dst (goInt cs.length)) w') :
    wpList P ops Q (o :: rest) a w := by
  by_cases h0 : cs.length = 0
  · obtain rfl : cs = [] := List.eq_nil_of_length_eq_zero h0
    refine wpList_copy_nothing hgd d s dT sT ho elem hu hsz dp sp dLen dCap sLen sCap hd hs (by simpa using hn.symm) ?_
    exact h w (show Win _ _ _ _ by simpa [splice] using hg) (But.refl _ _)
  · obtain ⟨rfl, ad, rfl, hsrc⟩ := hpos (by omega)
    refine wpList_plain hgd fun K hK => ?_
    have hrun := run_copy_cells (P := P) w dT sT o.type elem g off dLen dCap ad sLen sCap cs hu hsz hn hsrc (fun j hj => by rw [hg.cell j _ (List.getElem?_eq_getElem (by omega))]; rfl) (fun j hj => hg.free j (by omega)) h1
    unfold Oper.wp
    simp [execOp, ho, resolve, invoke, builtin, hd, hs, hrun, Result.andThen]
    exact hK _ _ (h _ (show Win _ _ _ _ from hg.setCells hfit) (show But _ _ _ from But.setCells (Or.inl (by simp)) _ _ _ (But.refl _ _)))

theorem copy_nil (v : Value) (w : World) : Calls Tryd.prog 46 #[.pointer none, v] w fun e w' => e = .returned (.int .i64 0) ∧ w' = w := by
  go_enter Tryd.func46, Tryd.ntmps46
  go_wp2
  go_ret
  exact ⟨rfl, rfl⟩

set_option maxRecDepth 100000 in
set_option maxHeartbeats 1000000 in
theorem copy_c {a c N : Nat} {t : List UInt8} (A : Option Addr) (m cap : Nat) (g off : Nat) (cur : List Value) (w : World) (h : Ar w a c N t) (hg : Win w g off cur) (hA : 0 < m → A = some ⟨g, off, none⟩) (hfit : m ≤ cur.length) :
    Calls Tryd.prog 46 #[.pointer (some ⟨a, 0, none⟩), .slice A m cap] w fun e w' => e = .returned (.int .i64 ((min m t.length : Nat) : Int)) ∧ Win w' g off (splice cur 0 (cellsB (t.take m))) ∧ But [g] w w' := by
  have H := Lib.hid h
  have c0 := h.head.cell (j := 0) (v := .slice (some ⟨c, 0, none⟩) N N) rfl
  have c1 := h.head.cell (j := 1) (v := .int .i64 (t.length : Int)) rfl
  have htN : (t.length : Int) ≤ (N : Int) := by have := h.fit; omega
  have htn := h.fit
  have HS : Hid (0 < (cellsB (t.take m)).length → A = some ⟨g, off, none⟩ ∧ ∃ ad, some (⟨c, 0, none⟩ : Addr) = some ad ∧ ∀ j v, (cellsB (t.take m))[j]? = some v → w.cell? (ad.add j) = some v) := fun h0 => by
    rw [cellsB_length, List.length_take] at h0
    refine ⟨hA (by omega), _, rfl, fun j v hj => ?_⟩
    rw [WideShapes.add_plain]
    refine h.body.cell ?_
    rw [cellsB_take, List.getElem?_take] at hj
    split at hj
    · rw [cellsB_append]
      simp only [List.getElem?_toArray, Nat.zero_add]
      rw [List.getElem?_append_left (List.getElem?_eq_some_iff.1 hj).1]
      exact hj
    · cases hj
  have HG := Lib.hid hg
  have HF : Hid ((cellsB (t.take m)).length ≤ cur.length) := by rw [cellsB_length, List.length_take]; show min _ _ ≤ _; omega
  clear h hg hA hfit
  go_enter Tryd.func46, Tryd.ntmps46
  go_wp2
  obtain ⟨w2, hw2⟩ : ∃ w2, w.drew = w2 := ⟨_, rfl⟩
  have d0 : w2.cell? ⟨a, 0, none⟩ = some (.slice (some ⟨c, 0, none⟩) N N) := by rw [← hw2]; exact c0
  have d1 : w2.cell? ⟨a, 1, none⟩ = some (.int .i64 (t.length : Int)) := by rw [← hw2]; exact c1
  refine still_tail 10 (by kernel_rfl) (by kernel_rfl) ?_
  rw [hw2]
  simp only [List.take_succ_cons, List.take_zero, List.drop_succ_cons, List.drop_zero]
  repeat still_step
  refine wpStill_nil ?_
  refine wpList_copy_win rfl (.tmp 7) (.tmp 16) 22 22 rfl 5 Tryd.underlying22 (by kernel_rfl) _ _ _ _ _ _ rfl rfl g off cur (by rw [← hw2]; exact ⟨HG.out.cell, HG.out.free⟩) (cellsB (t.take m)) (by rw [cellsB_length, List.length_take]; simp only [Nat.min_def]; split <;> split <;> omega) (by rw [← hw2]; exact HS.out) HF.out (cellsB_one _) ?_
  intro w4 hg4 hb4
  go_wp2
  go_ret
  refine ⟨?_, hg4.out, ?_⟩
  · simp [cellsB_length]
  · have := hb4.out
    rw [← hw2] at this
    exact (But.refl _ _).drew.trans this

end Go.Proofs.YtcakeolnokninaaDoor.Mem

/- An arena: Delete, walked. -/
set_option linter.unusedVariables false
namespace Go.Proofs.YtcakeolnokninaaDoor.Mem
open Go.RowKit Go.Lib ChangeShapes

theorem part_ok {a c N : Nat} {t : List UInt8} (f to : Nat) (w : World) (h : Ar w a c N t) (h1 : f ≤ to) (h2 : to ≤ t.length) :
    Calls Tryd.prog 75 #[.pointer (some ⟨a, 0, none⟩), .int .i64 (f : Int), .int .i64 (to : Int)] w fun e w' => e = .returned (.bool true) ∧ w' = w := by
  have c1 := h.head.cell (j := 1) (v := .int .i64 (t.length : Int)) rfl
  have k1 : decide ((f : Int) ≤ (to : Int)) = true := by simp; omega
  have k2 : decide ((to : Int) ≤ (t.length : Int)) = true := by simp; omega
  have k1' : decide (f ≤ to) = true := by simp; omega
  have k2' : decide (to ≤ t.length) = true := by simp; omega
  clear h h1 h2
  go_enter Tryd.func75, Tryd.ntmps75
  go_wp2
  go_ret
  exact ⟨rfl, rfl⟩

set_option maxRecDepth 100000 in
set_option maxHeartbeats 2000000 in
theorem delete_ok {a c N : Nat} {t : List UInt8} (f to : Nat) (w : World) (h : Ar w a c N t) (h1 : f ≤ to) (h2 : to ≤ t.length) :
    Calls Tryd.prog 61 #[.pointer (some ⟨a, 0, none⟩), .int .i64 (f : Int), .int .i64 (to : Int)] w fun e w' => e = .returned (.int .i64 0) ∧ Ar w' a c N (t.take f ++ t.drop to) ∧ But [a, c] w w' := by
  have H := Lib.hid h
  have HP := Lib.hid (part_ok f to w h h1 h2)
  have hfit := h.fit
  have hmax := h.max
  obtain ⟨k, hk⟩ : ∃ k, k = to - f := ⟨_, rfl⟩
  obtain ⟨m, hm⟩ : ∃ m, m = t.length - k := ⟨_, rfl⟩
  have s1 : IntKind.i64.wrap ((to : Int) - (f : Int)) = (k : Int) := by rw [IntWalk.i64_in _ (by omega)]; omega
  have s2 : IntKind.i64.wrap ((t.length : Int) - (k : Int)) = (m : Int) := by rw [IntWalk.i64_in _ (by omega)]; omega
  have b1 : (f : Int) ≤ (t.length : Int) := by omega
  have b2 : (to : Int) ≤ (t.length : Int) := by omega
  have b3 : (t.length : Int) ≤ (N : Int) := by omega
  have b4 : (m : Int) ≤ (t.length : Int) := by omega
  obtain ⟨w2, hw2⟩ : ∃ w2, w.drew = w2 := ⟨_, rfl⟩
  have d0 : w2.cell? ⟨a, 0, none⟩ = some (.slice (some ⟨c, 0, none⟩) N N) := by rw [← hw2]; exact h.head.cell (j := 0) rfl
  have d1 : w2.cell? ⟨a, 1, none⟩ = some (.int .i64 (t.length : Int)) := by rw [← hw2]; exact h.head.cell (j := 1) rfl
  have hB2 : Hid (Blk w2 c (cellsB (t ++ List.replicate (N - t.length) 0)).toArray 5) := by rw [← hw2]; exact H.out.body
  have HS : Hid (0 < (cellsB (t.drop to)).length → (if N = f then some (⟨c, 0, none⟩ : Addr) else some ⟨c, f, none⟩) = some ⟨c, f, none⟩ ∧ ∃ ad, (if N = to then some (⟨c, 0, none⟩ : Addr) else some ⟨c, to, none⟩) = some ad ∧ ∀ j v, (cellsB (t.drop to))[j]? = some v → w2.cell? (ad.add j) = some v) := fun h0 => by
    rw [cellsB_length, List.length_drop] at h0
    rw [if_neg (by omega), if_neg (by omega)]
    refine ⟨rfl, _, rfl, fun j v hj => ?_⟩
    rw [WideShapes.add_plain]
    refine hB2.out.cell ?_
    rw [cellsB_drop, List.getElem?_drop] at hj
    rw [cellsB_append]
    simp only [List.getElem?_toArray]
    rw [List.getElem?_append_left (List.getElem?_eq_some_iff.1 hj).1]
    exact hj
  have HL : Hid ((t ++ List.replicate (N - t.length) (0 : UInt8)).length = N) := by show _ = N; simp; omega
  have HK := Lib.hid hk
  have HM := Lib.hid hm
  clear hk hm h
  go_enter Tryd.func61, Tryd.ntmps61
  go_wp2_with (go_at_call 75; refine (HP.out).mono ?_; rintro e wx ⟨rfl, hq⟩; obtain rfl := hq.symm)
  refine still_tail 20 (by kernel_rfl) (by kernel_rfl) ?_
  rw [hw2]
  simp only [List.take_succ_cons, List.take_zero, List.drop_succ_cons, List.drop_zero]
  repeat still_step
  refine wpStill_nil ?_
  refine wpList_copy_but rfl (.tmp 25) (.tmp 35) 22 22 rfl 5 Tryd.underlying22 (by kernel_rfl) _ _ _ _ _ _ rfl rfl c f (cellsB (t ++ List.replicate (N - t.length) 0)) 5 hB2.out (cellsB (t.drop to)) (by rw [cellsB_length, List.length_drop]; simp only [Nat.min_def]; split <;> omega) HS.out (by rw [cellsB_length, cellsB_length, List.length_drop, HL.out]; omega) (cellsB_one _) ?_
  intro w4 hg4 hb4
  generalize (if N = f then (some ⟨c, 0, none⟩ : Option Addr) else some ⟨c, f, none⟩) = D1
  generalize (if N = to then (some ⟨c, 0, none⟩ : Option Addr) else some ⟨c, to, none⟩) = D2
  have hh4 : Blk w4 a #[.slice (some ⟨c, 0, none⟩) N N, .int .i64 (t.length : Int)] 82 := Blk.but (by rw [← hw2]; exact H.out.head) hb4.out (by simp; exact H.out.ne)
  have HH4 := Lib.hid hh4
  have HU4 : Hid (But [a, c] w w4) := by
    have := hb4.out
    rw [← hw2] at this
    exact ((But.refl _ _).drew.trans this).mono (by simp)
  clear d0 d1 hB2 HS hw2 hb4 hh4
  go_wp2
  obtain ⟨w5, hw5⟩ : ∃ w5, w4.drew = w5 := ⟨_, rfl⟩
  have d0 : w5.cell? ⟨a, 0, none⟩ = some (.slice (some ⟨c, 0, none⟩) N N) := by rw [← hw5]; exact HH4.out.cell (j := 0) rfl
  have d1 : w5.cell? ⟨a, 1, none⟩ = some (.int .i64 (t.length : Int)) := by rw [← hw5]; exact HH4.out.cell (j := 1) rfl
  refine still_tail 17 (by kernel_rfl) (by kernel_rfl) ?_
  rw [hw5]
  simp only [List.take_succ_cons, List.take_zero, List.drop_succ_cons, List.drop_zero]
  repeat still_step
  refine wpStill_nil ?_
  refine wpList_clear_but rfl (.tmp 53) 22 rfl 5 Tryd.underlying22 zero_u8 _ _ _ rfl c m (splice (cellsB (t ++ List.replicate (N - t.length) 0)) f (cellsB (t.drop to))) 5 (by rw [← hw5]; exact hg4.out) (by rw [cellsB_splice, cellsB_length, length_splice _ _ _ (by rw [HL.out, List.length_drop]; omega), HL.out]; have := HM.out; omega) (fun h0 => by rw [if_neg (by have := HM.out; omega)]) ?_
  intro w6 hg6 hb6
  generalize (if N = m then (some ⟨c, 0, none⟩ : Option Addr) else some ⟨c, m, none⟩) = D3
  have hh6 : Blk w6 a #[.slice (some ⟨c, 0, none⟩) N N, .int .i64 (t.length : Int)] 82 := Blk.but (by rw [← hw5]; exact HH4.out) hb6.out (by simp; exact H.out.ne)
  have e1 := hh6.cell (j := 1) (v := .int .i64 (t.length : Int)) rfl
  have ef := hh6.free 1
  have HH6 := Lib.hid hh6
  have HU6 : Hid (But [a, c] w w6) := by
    have := hb6.out
    rw [← hw5] at this
    exact HU4.out.drew.trans (this.mono (by simp))
  clear d0 d1 hw5 hb6 hh6
  go_wp2
  go_ret
  have hlen : (t.take f ++ t.drop to).length = t.length - (to - f) := by
    rw [List.length_append, List.length_take, List.length_drop]; omega
  refine ⟨rfl, ⟨?_, ?_, H.out.ne, by rw [hlen]; omega, H.out.pos, H.out.max⟩, HU6.out.set (Or.inl (by simp)) _⟩
  · have := Blk.set HH6.out 1 (.int .i64 (m : Int))
    rw [hlen, show t.length - (to - f) = m by have := HM.out; have := HK.out; omega]
    exact this
  · have h := Blk.other hg6.out (a := ⟨a, 1, none⟩) (fun e => H.out.ne e.symm) (.int .i64 (m : Int))
    have hmv : m = t.length - (to - f) := by have := HM.out; have := HK.out; omega
    rw [show t.length - m = to - f by have := HM.out; have := HK.out; omega] at h
    rw [cellsB_zero, cellsB_splice, cellsB_splice, hmv, splice_delete t _ (List.replicate (to - f) 0) f to h1 h2 (by rw [List.length_replicate])] at h
    rw [hlen, List.append_assoc, show N - (t.length - (to - f)) = (to - f) + (N - t.length) by omega, ← List.replicate_append_replicate, hmv]
    exact h

end Go.Proofs.YtcakeolnokninaaDoor.Mem

/- The arena alone (for seats without the edit buffer): its cells, its bytes one by one, whether it is zero, whether it is clean. The lines are XKeys1's and XZero's. -/
set_option linter.unusedVariables false
set_option linter.unusedSimpArgs false
namespace Go.Proofs.YtcakeolnokninaaDoor.Edit
open Go.RowKit Go.Lib Go.Shelf ChangeShapes Mem Utf UtfP

theorem bt_append_left {l m : List UInt8} {i : Nat} (h : i < l.length) : bt (l ++ m) i = bt l i := by
  unfold bt
  rw [List.getD_eq_getElem?_getD, List.getD_eq_getElem?_getD, List.getElem?_append_left h]
theorem bt_append_right {l m : List UInt8} {i : Nat} (h : l.length ≤ i) : bt (l ++ m) i = bt m (i - l.length) := by
  unfold bt
  rw [List.getD_eq_getElem?_getD, List.getD_eq_getElem?_getD, List.getElem?_append_right h]

theorem body_cell {w : World} {a c N : Nat} {t : List UInt8} (h : Ar w a c N t) (i : Nat) (hi : i < t.length) : w.cell? ⟨c, i, none⟩ = some (.int .u8 (bt t i : Int)) := by
  have hl : i < (t ++ List.replicate (N - t.length) (0 : UInt8)).length := by rw [List.length_append]; omega
  have := h.body.cell (j := i) (v := .int .u8 (((t ++ List.replicate (N - t.length) (0 : UInt8)).getD i 0).toNat : Int)) (by simpa using cellsB_get _ i hl)
  rw [this]
  congr 2
  unfold bt
  rw [List.getD_eq_getElem?_getD, List.getD_eq_getElem?_getD, List.getElem?_append_left hi]

theorem cell_in {a c N : Nat} {t : List UInt8} (i : Nat) (w : World) (h : Ar w a c N t) (hi : i < t.length) :
    Calls Tryd.prog 65 #[.pointer (some ⟨a, 0, none⟩), .int .i64 (i : Int)] w fun e w' => e = .returned (.tuple #[.int .u8 (bt t i : Int), .int .i64 0]) ∧ w' = w := by
  have c0 := h.head.cell (j := 0) (v := .slice (some ⟨c, 0, none⟩) N N) rfl
  have cv := body_cell h i hi
  have k0 : (i : Int) < (N : Int) := by have := h.fit; omega
  have k1 : decide ((N : Int) ≤ (i : Int)) = false := by simp; omega
  clear h hi
  go_enter Tryd.func65, Tryd.ntmps65
  go_wp2
  go_ret2
  exact ⟨rfl, rfl⟩

theorem at_in {a c N : Nat} {t : List UInt8} (i : Nat) (w : World) (h : Ar w a c N t) (hi : i < t.length) :
    Calls Tryd.prog 49 #[.pointer (some ⟨a, 0, none⟩), .int .i64 (i : Int)] w fun e w' => e = .returned (.tuple #[.int .u8 (bt t i : Int), .int .i64 0]) ∧ w' = w := by
  have H1 := Lib.hid (len w h)
  have H2 := Lib.hid (cell_in i w h hi)
  have k1 : decide ((t.length : Int) ≤ (i : Int)) = false := by simp; omega
  have k2 : decide (t.length ≤ i) = false := by simp; omega
  clear h hi
  go_enter Tryd.func49, Tryd.ntmps49
  go_wp2_with (first
    | (go_at_call 31; refine (H1.out).mono ?_; rintro e w1 ⟨rfl, hq⟩; obtain rfl := hq.symm)
    | (go_at_call 65; refine (H2.out).mono ?_; rintro e w1 ⟨rfl, hq⟩; obtain rfl := hq.symm))
  go_ret2
  exact ⟨rfl, rfl⟩

theorem at_out {a c N : Nat} {t : List UInt8} (i : Nat) (w : World) (h : Ar w a c N t) (hi : t.length ≤ i) :
    Calls Tryd.prog 49 #[.pointer (some ⟨a, 0, none⟩), .int .i64 (i : Int)] w fun e w' => e = .returned (.tuple #[.int .u8 0, .int .i64 3]) ∧ w' = w := by
  have H1 := Lib.hid (len w h)
  have k1 : decide ((t.length : Int) ≤ (i : Int)) = true := by simp; omega
  have k2 : decide (t.length ≤ i) = true := by simp; omega
  clear h hi
  go_enter Tryd.func49, Tryd.ntmps49
  go_wp2_with (go_at_call 31; refine (H1.out).mono ?_; rintro e w1 ⟨rfl, hq⟩; obtain rfl := hq.symm)
  go_ret2
  exact ⟨rfl, rfl⟩

def allZ (l : List UInt8) : Bool := decide (∀ j, j < l.length → bt l j = 0)

theorem allZ_replicate (n : Nat) : allZ (List.replicate n 0) = true := by
  unfold allZ
  rw [decide_eq_true_iff]
  intro j hj
  unfold bt
  rw [List.length_replicate] at hj
  simp [List.getD_eq_getElem?_getD, hj]
theorem allZ_pad (t : List UInt8) (n : Nat) : allZ (t ++ List.replicate n 0) = allZ t := by
  have h0 := allZ_replicate n
  unfold allZ at h0 ⊢
  rw [decide_eq_true_iff] at h0
  rw [decide_eq_decide]
  constructor
  · intro h j hj
    rw [← bt_append_left hj (m := List.replicate n 0)]
    exact h j (by rw [List.length_append]; omega)
  · intro h j hj
    by_cases hjl : j < t.length
    · rw [bt_append_left hjl]; exact h j hjl
    · rw [bt_append_right (by omega)]
      exact h0 _ (by rw [List.length_append] at hj; omega)

set_option maxHeartbeats 1000000 in
theorem zero_c (l : List UInt8) (A : Option Addr) (cap : Nat) (w : World) (hA : BytesAt w A l) (hm : l.length ≤ 140737488355328) :
    Calls Tryd.prog 48 #[.slice A l.length cap] w fun e w' => e = .returned (.bool (allZ l)) ∧ w' = w := by
  have HA := Lib.hid hA
  clear hA
  obtain ⟨R, hR⟩ : ∃ R, allZ l = R := ⟨_, rfl⟩
  rw [hR]
  have HR := Lib.hid hR
  clear hR
  go_enter Tryd.func48, Tryd.ntmps48
  go_wp2
  go_loop [7] (fun i => ∃ j : Nat, i = .int .i64 (j : Int) ∧ j ≤ l.length ∧ Hid (∀ i, i < j → bt l i = 0)) (fun i => l.length - (RowKit.intOf i).toNat)
  case atStart => exact ⟨0, rfl, by omega, fun i h => absurd h (Nat.not_lt_zero _)⟩
  case round =>
    obtain ⟨j, rfl, hj, HJ⟩ := hrel
    by_cases hlt : j < l.length
    · have k0 : (j : Int) < (l.length : Int) := by omega
      obtain ⟨g, off, rfl, hg, hc⟩ := HA.out (List.length_pos_iff.1 (by omega : 0 < l.length))
      have q0 := hc j hlt
      clear hc hg
      obtain ⟨x, hx⟩ : ∃ x, bt l j = x := ⟨_, rfl⟩
      rw [hx] at q0
      have HX := Lib.hid hx
      clear hx
      by_cases hz : x = 0
      · subst hz
        go_wp2
        go_round
        case rel =>
          refine ⟨j + 1, by go_num, by omega, fun i hi => ?_⟩
          by_cases e : i = j
          · subst e; exact HX.out
          · exact HJ.out i (by omega)
        case measure => simp [RowKit.intOf]; omega
      · have k2 : ((x : Int) != 0) = true := by rw [bne_iff_ne]; omega
        go_wp2
        go_ret
        refine ⟨?_, rfl⟩
        have : allZ l = false := by
          unfold allZ
          rw [decide_eq_false_iff_not]
          intro h
          exact hz (by rw [← HX.out]; exact h j hlt)
        rw [← HR.out, this]; rfl
    · have hge : decide ((j : Int) < (l.length : Int)) = false := by simp; omega
      have hge' : decide (j < l.length) = false := by simp; omega
      have hjl : j = l.length := by omega
      have Hj := Lib.hid hjl
      clear hlt hjl
      go_wp2
      go_ret
      refine ⟨?_, rfl⟩
      have : allZ l = true := by
        unfold allZ
        rw [decide_eq_true_iff, ← Hj.out]
        exact HJ.out
      rw [← HR.out, this]; rfl

theorem cells_bytes {w : World} {c : Nat} {l : List UInt8} (h : Blk w c (cellsB l).toArray 5) (k : Nat) : BytesAt w (some ⟨c, k, none⟩) (l.drop k) := by
  intro hne
  refine ⟨c, k, rfl, h.lt, fun j hj => ?_⟩
  rw [List.length_drop] at hj
  have := cellsB_get l (k + j) (by omega)
  rw [h.cell (j := k + j) (v := .int .u8 ((l.getD (k + j) 0).toNat : Int)) (by simpa using this)]
  unfold bt
  rw [List.getD_eq_getElem?_getD, List.getD_eq_getElem?_getD, List.getElem?_drop]

theorem zeroA {a c N : Nat} {t : List UInt8} (w : World) (h : Ar w a c N t) :
    Calls Tryd.prog 27 #[.pointer (some ⟨a, 0, none⟩)] w fun e w' => e = .returned (.bool (allZ t)) ∧ w' = w := by
  have c0 := h.head.cell (j := 0) (v := .slice (some ⟨c, 0, none⟩) N N) rfl
  have hl : (t ++ List.replicate (N - t.length) (0 : UInt8)).length = N := by have := h.fit; simp; omega
  have hb := cells_bytes h.body 0
  rw [List.drop_zero] at hb
  have H1 := zero_c _ _ N w hb (by rw [hl]; have := h.max; omega)
  rw [hl, allZ_pad] at H1
  have H1 := Lib.hid H1
  clear hl hb h
  go_enter Tryd.func27, Tryd.ntmps27
  go_wp2_with (go_at_call 48; refine (H1.out).mono ?_; rintro e w1 ⟨rfl, hq⟩; obtain rfl := hq.symm)
  go_ret
  exact ⟨rfl, rfl⟩

set_option maxHeartbeats 1000000 in
theorem cleanA {a c N : Nat} {t : List UInt8} (w : World) (h : Ar w a c N t) :
    Calls Tryd.prog 35 #[.pointer (some ⟨a, 0, none⟩)] w fun e w' => e = .returned (.bool true) ∧ ∃ n, w' = w.drewN n := by
  have c0 := h.head.cell (j := 0) (v := .slice (some ⟨c, 0, none⟩) N N) rfl
  have c1 := h.head.cell (j := 1) (v := .int .i64 (t.length : Int)) rfl
  have htN : (t.length : Int) ≤ (N : Int) := by have := h.fit; omega
  have htn := h.fit
  have hb := cells_bytes h.body t.length
  have hmx := h.max
  rw [List.drop_left] at hb
  have HZ : Hid (∀ n A' m cap, A' = (if N = t.length then (some ⟨c, 0, none⟩ : Option Addr) else some ⟨c, t.length, none⟩) → m = N - t.length → Calls Tryd.prog 48 #[.slice A' m cap] (w.drewN n) fun e w' => e = .returned (.bool true) ∧ w' = w.drewN n) := by
    intro n A' m cap hA' hm
    have hb' : BytesAt (w.drewN n) A' (List.replicate m 0) := by
      intro hne
      rw [hA', if_neg (by intro e; rw [hm, e, Nat.sub_self] at hne; exact hne rfl)]
      rw [hm] at hne ⊢
      exact hb hne
    have := zero_c (List.replicate m 0) A' cap (w.drewN n) hb' (by rw [List.length_replicate]; omega)
    rw [List.length_replicate, allZ_replicate] at this
    exact this
  clear hb h hmx
  go_enter Tryd.func35, Tryd.ntmps35
  go_wp2
  go_quiet ((go_at_call 48; exact Calls.quiet_of_same (HZ.out _ _ _ _ rfl rfl)))
  go_wp2
  all_goals
    go_ret
    exact ⟨rfl, _, rfl⟩

theorem new_ex (n : Nat) (h1 : 1 ≤ n) (h2 : n ≤ 4096) (w : World) : Calls Tryd.prog 38 #[.int .i64 (n : Int)] w fun e w' => ∃ a c, e = .returned (.tuple #[.pointer (some ⟨a, 0, none⟩), .int .i64 0]) ∧ w.heap.size ≤ a ∧ w.heap.size ≤ c ∧ Ar w' a c n [] ∧ Below w.heap.size w w' :=
  (new n h1 h2 w).mono fun e w' ⟨he, h, hb⟩ => ⟨_, _, he, by omega, Nat.le_refl _, h, hb⟩

theorem cell_pad {a c N : Nat} {t : List UInt8} (i : Nat) (w : World) (h : Ar w a c N t) (hi : t.length ≤ i) (hN : i < N) :
    Calls Tryd.prog 65 #[.pointer (some ⟨a, 0, none⟩), .int .i64 (i : Int)] w fun e w' => e = .returned (.tuple #[.int .u8 0, .int .i64 0]) ∧ w' = w := by
  have c0 := h.head.cell (j := 0) (v := .slice (some ⟨c, 0, none⟩) N N) rfl
  have hl : i < (t ++ List.replicate (N - t.length) (0 : UInt8)).length := by rw [List.length_append, List.length_replicate]; omega
  have cv : w.cell? ⟨c, i, none⟩ = some (.int .u8 0) := by
    have := h.body.cell (j := i) (v := .int .u8 (((t ++ List.replicate (N - t.length) (0 : UInt8)).getD i 0).toNat : Int)) (by simpa using cellsB_get _ i hl)
    rw [this]
    rw [List.getD_eq_getElem?_getD, List.getElem?_append_right hi, List.getElem?_replicate_of_lt (by omega)]
    rfl
  have k0 : (i : Int) < (N : Int) := by omega
  have k1 : decide ((N : Int) ≤ (i : Int)) = false := by simp; omega
  clear h hi hl hN
  go_enter Tryd.func65, Tryd.ntmps65
  go_wp2
  go_ret2
  exact ⟨rfl, rfl⟩


end Go.Proofs.YtcakeolnokninaaDoor.Edit

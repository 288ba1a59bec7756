/- Texts joined: Obj; ArP; Arena; Arena2; Del. -/
import Derived.WalkKit
import Derived.ProofKit
import Derived.WalkSpells
import Derived.WalkLawsBesides
import Derived.Lib.Hide
import Derived.Below
import Derived.Laws.Rows
import Derived.Laws.CopyOwn
import Derived.Test.YtbflcikfaoojmaaDoorRows
import Derived.Deep.RegionLaw
import Derived.Laws.MakeOwn
import Derived.StillTailTactics
import Derived.IntWalk
import Derived.Deep.RegionHeldLaw
import Derived.Lib.SliceRun
/- Whole blocks of memory, and a world in which only some of them have turned. -/
set_option linter.unusedVariables false
namespace Go.Proofs.YtbflcikfaoojmaaDoor.Mem
open Go.RowKit Go.Lib

/-- The block b of w holds just these cells. -/
def Blk (w : World) (b : Nat) (cs : Array Value) (t : TypeId) : Prop := w.heap[b]? = some (.cells cs t (0, 0))

theorem Blk.lt {w : World} {b : Nat} {cs : Array Value} {t : TypeId} (h : Blk w b cs t) : b < w.heap.size := by
  have := (Array.getElem?_eq_some_iff.1 h).1
  exact this
theorem Blk.cell {w : World} {b : Nat} {cs : Array Value} {t : TypeId} (h : Blk w b cs t) {j : Nat} {v : Value} (hj : cs[j]? = some v) : w.cell? ⟨b, j, none⟩ = some v := by
  rw [cell_of_row _ _ j cs t (0, 0) h]; exact hj
theorem Blk.free {w : World} {b : Nat} {cs : Array Value} {t : TypeId} (h : Blk w b cs t) (j : Nat) : w.frozen? ⟨b, j, none⟩ = false := frozen_of_row _ _ _ _ _ h
theorem Blk.alloc {w : World} {b : Nat} {cs : Array Value} {t : TypeId} (h : Blk w b cs t) (o : Obj) : Blk (w.alloc o) b cs t := by
  unfold Blk; rw [Below.heap_alloc _ _ _ h.lt]; exact h
theorem Blk.new (w : World) (cs : Array Value) (t : TypeId) : Blk (w.alloc (.cells cs t)) w.heap.size cs t := heap_alloc_new w _
theorem Blk.drew {w : World} {b : Nat} {cs : Array Value} {t : TypeId} (h : Blk w b cs t) : Blk w.drew b cs t := h
theorem Blk.set {w : World} {b : Nat} {cs : Array Value} {t : TypeId} (h : Blk w b cs t) (j : Nat) (v : Value) : Blk (w.setCell ⟨b, j, none⟩ v) b (cs.setIfInBounds j v) t := heap_setCell_same _ _ _ _ _ _ h
theorem Blk.other {w : World} {b : Nat} {cs : Array Value} {t : TypeId} (h : Blk w b cs t) {a : Addr} (ha : b ≠ a.block) (v : Value) : Blk (w.setCell a v) b cs t := by
  unfold Blk; rw [heap_setCell_other _ _ _ _ ha]; exact h

/-- w' is as w but for the blocks of S, and new ones. -/
structure But (S : List Nat) (w w' : World) : Prop where
  os : w'.os = w.os
  tape : w'.tape = w.tape
  output : w'.output = w.output
  size : w.heap.size ≤ w'.heap.size
  block : ∀ k, k < w.heap.size → k ∉ S → w'.heap[k]? = w.heap[k]?

theorem But.refl (S : List Nat) (w : World) : But S w w := ⟨rfl, rfl, rfl, Nat.le_refl _, fun _ _ _ => rfl⟩
theorem But.trans {S : List Nat} {a b c : World} (h : But S a b) (k : But S b c) : But S a c :=
  ⟨k.os.trans h.os, k.tape.trans h.tape, k.output.trans h.output, Nat.le_trans h.size k.size, fun i hi hs => (k.block i (Nat.lt_of_lt_of_le hi h.size) hs).trans (h.block i hi hs)⟩
theorem But.mono {S T : List Nat} {a b : World} (h : But S a b) (hs : ∀ k, k ∈ S → k < a.heap.size → k ∈ T) : But T a b :=
  ⟨h.os, h.tape, h.output, h.size, fun i hi hn => h.block i hi (fun hk => hn (hs i hk hi))⟩
theorem But.drew {S : List Nat} {a w : World} (h : But S a w) : But S a w.drew := ⟨h.os, h.tape, h.output, h.size, h.block⟩
theorem But.alloc {S : List Nat} {a w : World} (h : But S a w) (o : Obj) : But S a (w.alloc o) :=
  h.trans ⟨rfl, rfl, rfl, by simp, fun k hk _ => Below.heap_alloc _ _ _ hk⟩
theorem But.set {S : List Nat} {a w : World} (h : But S a w) {p : Addr} (hp : p.block ∈ S ∨ a.heap.size ≤ p.block) (u : Value) : But S a (w.setCell p u) :=
  ⟨h.os, h.tape, h.output, by simp [World.setCell]; exact h.size, fun k hk hs => by
    rw [Below.heap_setCell _ _ _ _ (by intro e; subst e; rcases hp with hp | hp; exact hs hp; omega)]; exact h.block k hk hs⟩
theorem But.below {S : List Nat} {a w : World} {B : Nat} (h : But S a w) (hB : B ≤ a.heap.size) (hs : ∀ k ∈ S, B ≤ k) : Below B a w :=
  ⟨h.os, h.tape, h.output, h.size, fun k hk => h.block k (by omega) (fun hm => by have := hs k hm; omega)⟩
theorem But.of_below {S : List Nat} {a w : World} (h : Below a.heap.size a w) : But S a w := ⟨h.os, h.tape, h.output, h.size, fun k hk _ => h.block k hk⟩
theorem Blk.but {S : List Nat} {w w' : World} {b : Nat} {cs : Array Value} {t : TypeId} (h : Blk w b cs t) (hb : But S w w') (hs : b ∉ S) : Blk w' b cs t := by
  unfold Blk; rw [hb.block b h.lt hs]; exact h
theorem But.cell {S : List Nat} {w w' : World} (h : But S w w') {p : Addr} (hp : p.block < w.heap.size) (hs : p.block ∉ S) : w'.cell? p = w.cell? p := World.cell?_of_block (w := w) (h.block p.block hp hs)

theorem results_cell3 {P : Program} {fn : Func} {p u v : Tmp} {ty : TypeId} (h : fn.results = #[.cell p ty, .tmp u, .tmp v]) (tmps : Array Value) (w : World) (g : Nat) (t : TypeId) (cs : Array Value) (d : TypeDesc)
    (hp : tmps.getD p undef = .pointer (some ⟨g, 0, none⟩)) (hg : Blk w g cs t)
    (hu : P.underlying ty = some d) (hd : (match d with | .struct _ | .array _ _ => true | _ => false) = true) (hi : (P.info? ty).map (·.size) = some cs.size) :
    (results fn tmps).run P w = .ok (.tuple #[.agg cs, tmps.getD u undef, tmps.getD v undef]) w := by
  have hp' : tmps[p]?.getD undef = .pointer (some ⟨g, 0, none⟩) := by simpa using hp
  simp [results, h, hp', asAddr, run_loadVar_row w g t ty cs (0, 0) d hg hu hd hi]

end Go.Proofs.YtbflcikfaoojmaaDoor.Mem

/- The cells of an arena in plain lists: what a copy and a clearing do to them; blocks in which many cells turned. -/
set_option linter.unusedVariables false
namespace Go.Proofs.YtbflcikfaoojmaaDoor.Mem
open Go.RowKit Go.Lib

def cellsB (l : List UInt8) : List Value := l.map fun c => Value.int .u8 (c.toNat : Int)
theorem cellsB_length (l : List UInt8) : (cellsB l).length = l.length := by simp [cellsB]
theorem cellsB_append (l m : List UInt8) : cellsB (l ++ m) = cellsB l ++ cellsB m := by simp [cellsB]
theorem cellsB_take (l : List UInt8) (n : Nat) : cellsB (l.take n) = (cellsB l).take n := by simp [cellsB, List.map_take]
theorem cellsB_drop (l : List UInt8) (n : Nat) : cellsB (l.drop n) = (cellsB l).drop n := by simp [cellsB, List.map_drop]
theorem cellsB_splice (l m : List UInt8) (n : Nat) : splice (cellsB l) n (cellsB m) = cellsB (splice l n m) := by
  unfold splice
  rw [cellsB_append, cellsB_append, cellsB_take, cellsB_drop, cellsB_length]
theorem cellsB_one (l : List UInt8) : ∀ v ∈ cellsB l, v.oneCell' = true := by
  intro v hv
  simp only [cellsB, List.mem_map] at hv
  obtain ⟨c, _, rfl⟩ := hv
  rfl
theorem cellsB_zero (n : Nat) : List.replicate n (Value.int .u8 0) = cellsB (List.replicate n 0) := by simp [cellsB]
theorem cellsB_get (l : List UInt8) (j : Nat) (hj : j < l.length) : (cellsB l)[j]? = some (.int .u8 ((l.getD j 0).toNat : Int)) := by
  unfold cellsB
  rw [List.getElem?_map, List.getElem?_eq_getElem hj, List.getD_eq_getElem?_getD, List.getElem?_eq_getElem hj]
  rfl

/-- Bytes laid between: two copies. -/
theorem splice_insert {α : Type} (t Z b : List α) (at' : Nat) (ha : at' ≤ t.length) (hb : b.length ≤ Z.length) :
    splice (splice (t ++ Z) (at' + b.length) (t.drop at')) at' b = t.take at' ++ (b ++ (t.drop at' ++ Z.drop b.length)) := by
  unfold splice
  have e1 : (t ++ Z).drop (at' + b.length + (t.drop at').length) = Z.drop b.length := by
    rw [List.length_drop, show at' + b.length + (t.length - at') = t.length + b.length by omega, List.drop_append]
    simp
  rw [e1]
  have hl : ((t ++ Z).take (at' + b.length)).length = at' + b.length := by simp; omega
  rw [List.drop_append, List.drop_eq_nil_of_le (Nat.le_of_eq hl), hl, Nat.sub_self, List.drop_zero, List.nil_append]
  rw [List.take_append_of_le_length (Nat.le_trans (Nat.le_add_right _ _) (Nat.le_of_eq hl.symm)), List.take_take, Nat.min_eq_left (Nat.le_add_right _ _), List.take_append_of_le_length ha]

/-- Bytes taken away: a copy and a clearing. -/
theorem splice_delete {α : Type} (t Z O : List α) (from' to : Nat) (h : from' ≤ to) (ht : to ≤ t.length) (hO : O.length = to - from') :
    splice (splice (t ++ Z) from' (t.drop to)) (t.length - (to - from')) O = t.take from' ++ (t.drop to ++ (O ++ Z)) := by
  unfold splice
  have e0 : from' + (t.drop to).length = t.length - (to - from') := by simp; omega
  have hl : ((t ++ Z).take from').length = from' := by simp; omega
  have e3 : t.length - (to - from') + O.length = t.length := by omega
  rw [e3, e0]
  have e1 : ((t ++ Z).take from' ++ (t.drop to ++ (t ++ Z).drop (t.length - (to - from')))).take (t.length - (to - from')) = (t ++ Z).take from' ++ t.drop to := by
    rw [← List.append_assoc, List.take_append_of_le_length (by rw [List.length_append, hl]; omega), List.take_of_length_le (by rw [List.length_append, hl]; omega)]
  have e2 : ((t ++ Z).take from' ++ (t.drop to ++ (t ++ Z).drop (t.length - (to - from')))).drop t.length = Z := by
    rw [← List.append_assoc, List.drop_append, List.drop_eq_nil_of_le (by rw [List.length_append, hl]; omega), List.nil_append, List.length_append, hl, e0, List.drop_drop]
    rw [show t.length - (to - from') + (t.length - (t.length - (to - from'))) = t.length by omega, List.drop_append]
    simp
  rw [e1, e2, List.take_append_of_le_length (by omega)]
  simp

theorem setCells_nil (w : World) (b o : Nat) : w.setCells b o [] = w := rfl
theorem setCells_cons (w : World) (b o : Nat) (v : Value) (vs : List Value) : w.setCells b o (v :: vs) = (w.setCell ⟨b, o, none⟩ v).setCells b (o + 1) vs := rfl

theorem Blk.setCells {b : Nat} {t : TypeId} : ∀ (vs : List Value) (o : Nat) (w : World) (cs : List Value), Blk w b cs.toArray t → o + vs.length ≤ cs.length → Blk (w.setCells b o vs) b (splice cs o vs).toArray t
  | [], o, w, cs, h, ho => by
    rw [setCells_nil]; simpa [splice] using h
  | v :: vs, o, w, cs, h, ho => by
    rw [setCells_cons]
    simp only [List.length_cons] at ho
    have h1 := h.set o v
    have e : (cs.toArray.setIfInBounds o v) = (cs.set o v).toArray := by simp
    rw [e] at h1
    have := Blk.setCells vs (o + 1) _ _ h1 (by simp; omega)
    have e2 : splice (cs.set o v) (o + 1) vs = splice cs o (v :: vs) := by
      unfold splice
      rw [List.take_set, List.drop_set_of_lt (by omega)]
      rw [show cs.take (o + 1) = cs.take o ++ [cs[o]] by rw [List.take_succ_eq_append_getElem (by omega)]]
      rw [List.set_append_right _ _ (by rw [List.length_take]; exact Nat.min_le_left _ _)]
      simp
      rw [show min o cs.length = o from Nat.min_eq_left (by omega)]
      simp only [Nat.sub_self, List.set_cons_zero, List.cons_append, List.nil_append]
      rw [Nat.add_assoc o 1, Nat.add_comm 1]
    rw [e2] at this
    exact this

theorem But.setCells {S : List Nat} {a : World} {b : Nat} (hb : b ∈ S ∨ a.heap.size ≤ b) : ∀ (vs : List Value) (o : Nat) (w : World), But S a w → But S a (w.setCells b o vs)
  | [], o, w, h => h
  | v :: vs, o, w, h => by
    rw [setCells_cons]
    exact But.setCells hb vs (o + 1) _ (h.set hb v)

theorem But.setRow {S : List Nat} {a w : World} {b : Nat} (h : But S a w) (hb : b ∈ S ∨ a.heap.size ≤ b) (cs : Array Value) : But S a (w.setRow b cs) :=
  ⟨h.os, h.tape, h.output, by simp [World.setRow]; exact h.size, fun k hk hs => by
    rw [setRow_other _ _ _ _ (by intro e; subst e; rcases hb with hb | hb; exact hs hb; omega)]; exact h.block k hk hs⟩

theorem wpList_copy_but {P : Program} {w : World} {ops : Array Oper} {rest : List Oper} {o : Oper} {a : Act} {Q : Exit → Act → World → Prop} (hgd : o.guard = none) (d s : Operand) (dT sT : TypeId)
    (ho : o.op = .call { callee := .builtin .copy, args := #[d, s], argTypes := #[dT, sT] }) (elem : TypeId) (hu : P.underlying dT = some (.slice elem)) (hsz : (P.info? elem).map (·.size) = some 1)
    (dp sp : Option Addr) (dLen dCap sLen sCap : Nat) (hd : a.eval d = .slice dp dLen dCap) (hs : a.eval s = .slice sp sLen sCap)
    (g off : Nat) (cur : List Value) (t : TypeId) (hg : Blk w g cur.toArray t) (cs : List Value) (hn : cs.length = Nat.min sLen dLen)
    (hpos : 0 < cs.length → dp = some ⟨g, off, none⟩ ∧ ∃ ad, sp = some ad ∧ ∀ j v, cs[j]? = some v → w.cell? (ad.add j) = some v)
    (hfit : off + cs.length ≤ cur.length) (h1 : ∀ v ∈ cs, v.oneCell' = true)
    (h : ∀ w', Hid (Blk w' g (splice cur off cs).toArray t) → Hid (But [g] w w') → wpList P ops Q rest (a.put o.dst (goInt cs.length)) w') :
    wpList P ops Q (o :: rest) a w := by
  by_cases h0 : cs.length = 0
  · obtain rfl : cs = [] := List.eq_nil_of_length_eq_zero h0
    refine wpList_copy_nothing hgd d s dT sT ho elem hu hsz dp sp dLen dCap sLen sCap hd hs (by simpa using hn.symm) ?_
    exact h w (show Blk _ _ _ _ by simpa [splice] using hg) (But.refl _ _)
  · obtain ⟨rfl, ad, rfl, hsrc⟩ := hpos (by omega)
    refine wpList_copy_own hgd d s dT sT ho elem hu hsz g off dLen dCap ad sLen sCap hd hs cur.toArray t hg cs hn hsrc (by simpa using hfit) h1 ?_
    exact h _ (show Blk _ _ _ _ by simpa [splice, Blk] using setRow_heap w g _ _ t _ hg) (show But _ _ _ from (But.refl _ _).setRow (Or.inl (by simp)) _)

theorem step_copy_but {P : Program} {ops : Array Oper} {o : Oper} {a : Act} {w : World} {K : Act → World → Prop} {Q : Exit → Act → World → Prop} {E : Prop} (hgd : o.guard = none) (d s : Operand) (dT sT : TypeId)
    (ho : o.op = .call { callee := .builtin .copy, args := #[d, s], argTypes := #[dT, sT] }) (elem : TypeId) (hu : P.underlying dT = some (.slice elem)) (hsz : (P.info? elem).map (·.size) = some 1)
    (dp sp : Option Addr) (dLen dCap sLen sCap : Nat) (hd : a.eval d = .slice dp dLen dCap) (hs : a.eval s = .slice sp sLen sCap)
    (g off : Nat) (cur : List Value) (t : TypeId) (hg : Blk w g cur.toArray t) (cs : List Value) (hn : cs.length = Nat.min sLen dLen)
    (hpos : 0 < cs.length → dp = some ⟨g, off, none⟩ ∧ ∃ ad, sp = some ad ∧ ∀ j v, cs[j]? = some v → w.cell? (ad.add j) = some v)
    (hfit : off + cs.length ≤ cur.length) (h1 : ∀ v ∈ cs, v.oneCell' = true)
    (h : ∀ w', Hid (Blk w' g (splice cur off cs).toArray t) → Hid (But [g] w w') → K (a.put o.dst (goInt cs.length)) w') :
    if Region.wanted o (yielded ops a.tmps) = true then Oper.wp P o a w K Q else E := by
  have hw : Region.wanted o (yielded ops a.tmps) = true := by simp [Region.wanted, hgd]
  rw [if_pos hw]
  by_cases h0 : cs.length = 0
  · obtain rfl : cs = [] := List.eq_nil_of_length_eq_zero h0
    have hrun := run_copy_none (P := P) w dT sT o.type elem dp sp dLen dCap sLen sCap hu hsz (by simpa using hn.symm)
    unfold Oper.wp
    simp [execOp, ho, resolve, invoke, builtin, hd, hs, hrun, Result.andThen]
    exact h w (show Blk _ _ _ _ by simpa [splice] using hg) (But.refl _ _)
  · obtain ⟨rfl, ad, rfl, hsrc⟩ := hpos (by omega)
    have hrun := run_copy_row (P := P) w dT sT o.type elem g off dLen dCap ad sLen sCap cur.toArray t cs hu hsz hg hn hsrc (by simpa using hfit) h1
    unfold Oper.wp
    simp [execOp, ho, resolve, invoke, builtin, hd, hs, hrun, Result.andThen]
    exact h _ (show Blk _ _ _ _ by simpa [splice, Blk] using setRow_heap w g _ _ t _ hg) (show But _ _ _ from (But.refl _ _).setRow (Or.inl (by simp)) _)

end Go.Proofs.YtbflcikfaoojmaaDoor.Mem

/- An arena, walked: New, Insert, Len, Copy, Wipe, Cell, Zero. -/
set_option linter.unusedVariables false
namespace Go.Proofs.YtbflcikfaoojmaaDoor.Mem
open Go.RowKit Go.Lib ChangeShapes

theorem still_tail {P : Program} {id : Nat} {Q : Exit → Act → World → Prop} {a : Act} {w : World} {l : List Oper} (n : Nat) (hm : P.follows .mixedOrders = true) (hB : Region.lexTailB .any l.toArray n = true)
    (h : wpStill P l.toArray w.drew (fun a' => wpList P l.toArray Q (l.drop n) a' w.drew) (l.take n) a) : (Code.region id l.toArray true).wp P Q a w := wp_region_still_tail n hm hB h

theorem made_zero (n : Nat) : madeCells #[.int .u8 0] n = (cellsB (List.replicate n 0)).toArray := by
  unfold madeCells
  rw [← cellsB_zero]
  apply Array.ext
  · simp
  · intro i h1 h2
    simp [Nat.mod_one]

theorem make_bytes (w : World) (n : Nat) (h : n ≤ 4096) : (Instr.makeSlice 47 (.int .i64 (n : Int)) (.int .i64 (n : Int))).run Tryd.prog w = .ok (.slice (some ⟨w.heap.size, 0, none⟩) n n) (w.alloc (.cells (cellsB (List.replicate n 0)).toArray 5)) := by
  obtain ⟨i, hi⟩ := Option.isSome_iff_exists.1 (show (Tryd.prog.info? 5).isSome = true by kernel_rfl)
  have h1 : (Tryd.prog.info? 5).map (fun i => (i.zero, i.bytes, i.size)) = some (some (.int .u8 0), 1, 1) := by kernel_rfl
  rw [hi] at h1
  simp only [Option.map_some, Option.some.injEq, Prod.mk.injEq] at h1
  obtain ⟨hz, hb, hs⟩ := h1
  have := run_make (P := Tryd.prog) w 47 5 i (.int .u8 0) Tryd.underlying47 hi hz .i64 .i64 n n (by omega) (by omega) (by rw [hb]; omega) (by omega)
  rw [this, hs]
  simp only [Int.toNat_natCast, Nat.mul_one]
  rw [← made_zero]
  rfl

attribute [local go_sem ↓] make_bytes
/-- Bytes as cells, wherever they lie. -/
def Src (w : World) (A : Option Addr) (l : List UInt8) : Prop := 0 < l.length → ∃ ad, A = some ad ∧ ∀ j v, (cellsB l)[j]? = some v → w.cell? (ad.add j) = some v

end Go.Proofs.YtbflcikfaoojmaaDoor.Mem

/- An arena, walked: Wipe, Copy, Delete, Cell, At. -/
set_option linter.unusedVariables false
namespace Go.Proofs.YtbflcikfaoojmaaDoor.Mem
open Go.RowKit Go.Lib ChangeShapes

theorem run_clear_none {P : Program} (w : World) (t e ty : TypeId) (ht : P.underlying t = some (.slice e)) (dp : Option Addr) (c : Nat) :
    (Builtin.clear_ #[t] ty #[.slice dp 0 c]).run P w = .ok (.tuple #[]) w := by
  cases dp <;> simp [Builtin.clear_, run_underlying ht]

theorem wpList_clear_but {P : Program} {w : World} {ops : Array Oper} {rest : List Oper} {o : Oper} {a : Act} {Q : Exit → Act → World → Prop} (hgd : o.guard = none) (s : Operand) (T : TypeId)
    (ho : o.op = .call { callee := .builtin .clear, args := #[s], argTypes := #[T] }) (e : TypeId) (hu : P.underlying T = some (.slice e)) (hz : ∀ w, (zeroValue e).run P w = .ok (.int .u8 0) w)
    (dp : Option Addr) (n cap : Nat) (hs : a.eval s = .slice dp n cap) (g off : Nat) (cur : List Value) (t : TypeId) (hg : Blk w g cur.toArray t) (hfit : off + n ≤ cur.length) (hpos : 0 < n → dp = some ⟨g, off, none⟩)
    (h : ∀ w', Hid (Blk w' g (splice cur off (List.replicate n (.int .u8 0))).toArray t) → Hid (But [g] w w') → wpList P ops Q rest (a.put o.dst (.tuple #[])) w') :
    wpList P ops Q (o :: rest) a w := by
  refine wpList_plain hgd fun K hK => ?_
  rcases Nat.eq_zero_or_pos n with h0 | h0
  · subst h0
    have hrun := run_clear_none (P := P) w T e o.type hu dp cap
    unfold Oper.wp
    simp [execOp, ho, resolve, invoke, builtin, hs, hrun, Result.andThen]
    exact hK _ _ (h w (show Blk _ _ _ _ by simpa [splice] using hg) (But.refl _ _))
  · obtain rfl := hpos h0
    have hcell : ∀ j, j < n → (w.cell? ⟨g, off + j, none⟩).isSome = true := fun j hj => by
      have : cur.toArray[off + j]? = some (cur[off + j]'(by omega)) := by simp
      rw [hg.cell this]; rfl
    have hrun := run_clear_slice (P := P) w T e o.type (.int .u8 0) hu hz rfl rfl g off n cap h0 hcell (fun j _ => hg.free _)
    unfold Oper.wp
    simp [execOp, ho, resolve, invoke, builtin, hs, hrun, Result.andThen]
    exact hK _ _ (h _ (show Blk _ _ _ _ from Blk.setCells _ _ _ _ hg (by rw [List.length_replicate]; exact hfit)) (show But _ _ _ from But.setCells (Or.inl (by simp)) _ _ _ (But.refl _ _)))

theorem zero_u8 (w : World) : (zeroValue 5).run Tryd.prog w = .ok (.int .u8 0) w := by
  obtain ⟨i, hi⟩ := Option.isSome_iff_exists.1 (show (Tryd.prog.info? 5).isSome = true by kernel_rfl)
  have h1 : (Tryd.prog.info? 5).map (fun i => i.zero) = some (some (.int .u8 0)) := by kernel_rfl
  rw [hi] at h1
  simp only [Option.map_some, Option.some.injEq] at h1
  simp [zeroValue, typeInfo, hi, h1]

theorem splice_all (l m : List Value) (h : m.length = l.length) : splice l 0 m = m := by
  unfold splice
  rw [List.take_zero, List.nil_append, List.drop_eq_nil_of_le (by omega), List.append_nil]

/-- Cells in memory from a place on, not frozen. -/
structure Win (w : World) (g off : Nat) (cur : List Value) : Prop where
  cell : ∀ j v, cur[j]? = some v → w.cell? ⟨g, off + j, none⟩ = some v
  free : ∀ j, j < cur.length → w.frozen? ⟨g, off + j, none⟩ = false

theorem Blk.win {w : World} {g : Nat} {cur : List Value} {t : TypeId} (h : Blk w g cur.toArray t) : Win w g 0 cur :=
  ⟨fun j v hj => by rw [Nat.zero_add]; exact h.cell (by simpa using hj), fun j _ => h.free _⟩

theorem frozen_block {w w' : World} {p : Addr} (h : w'.heap[p.block]? = w.heap[p.block]?) : w'.frozen? p = w.frozen? p := by
  unfold World.frozen?
  rw [h]

theorem Win.but {S : List Nat} {w w' : World} {g off : Nat} {cur : List Value} (h : Win w g off cur) (hb : But S w w') (hg : g ∉ S) (hlt : g < w.heap.size) : Win w' g off cur :=
  ⟨fun j v hj => by rw [hb.cell (p := ⟨g, off + j, none⟩) hlt hg]; exact h.cell j v hj, fun j hj => by rw [frozen_block (p := ⟨g, off + j, none⟩) (hb.block g hlt hg)]; exact h.free j hj⟩

theorem Win.set {w : World} {g off : Nat} {cur : List Value} (h : Win w g off cur) (p : Addr) (hp : p.block ≠ g) (u : Value) : Win (w.setCell p u) g off cur :=
  ⟨fun j v hj => by rw [World.cell?_of_block (w := w) (heap_setCell_other _ _ _ _ (fun e => hp e.symm))]; exact h.cell j v hj, fun j hj => by rw [frozen_block (w := w) (heap_setCell_other _ _ _ _ (fun e => hp e.symm))]; exact h.free j hj⟩

theorem Win.setCells {w : World} {g off : Nat} {cur cs : List Value} (h : Win w g off cur) (hl : cs.length ≤ cur.length) : Win (w.setCells g off cs) g off (splice cur 0 cs) := by
  have hsome : ∀ j, j < cs.length → (w.cell? ⟨g, off + j, none⟩).isSome = true := fun j hj => by
    rw [h.cell j _ (List.getElem?_eq_getElem (by omega))]; rfl
  refine ⟨fun j v hj => ?_, fun j hj => ?_⟩
  · unfold splice at hj
    rw [List.take_zero, List.nil_append, Nat.zero_add] at hj
    by_cases hjc : j < cs.length
    · rw [List.getElem?_append_left hjc] at hj
      rw [World.cell?_setCells_in g cs off w hsome j hjc]
      rw [← hj, List.getElem?_eq_getElem hjc]
    · rw [List.getElem?_append_right (by omega), List.getElem?_drop] at hj
      rw [World.cell?_setCells_out g cs off w ⟨g, off + j, none⟩ (fun _ _ => Or.inr (by show off + cs.length ≤ off + j; omega))]
      exact h.cell j v (by rw [← hj]; congr 1; omega)
  · rw [World.frozen?_setCells]
    rw [length_splice _ _ _ (by omega)] at hj
    exact h.free j hj

theorem wpList_copy_win {P : Program} {w : World} {ops : Array Oper} {rest : List Oper} {o : Oper} {a : Act} {Q : Exit → Act → World → Prop} (hgd : o.guard = none) (d s : Operand) (dT sT : TypeId)
    (ho : o.op = .call { callee := .builtin .copy, args := #[d, s], argTypes := #[dT, sT] }) (elem : TypeId) (hu : P.underlying dT = some (.slice elem)) (hsz : (P.info? elem).map (·.size) = some 1)
    (dp sp : Option Addr) (dLen dCap sLen sCap : Nat) (hd : a.eval d = .slice dp dLen dCap) (hs : a.eval s = .slice sp sLen sCap)
    (g off : Nat) (cur : List Value) (hg : Win w g off cur) (cs : List Value) (hn : cs.length = Nat.min sLen dLen)
    (hpos : 0 < cs.length → dp = some ⟨g, off, none⟩ ∧ ∃ ad, sp = some ad ∧ ∀ j v, cs[j]? = some v → w.cell? (ad.add j) = some v)
    (hfit : cs.length ≤ cur.length) (h1 : ∀ v ∈ cs, v.oneCell' = true)
    (h : ∀ w', Hid (Win w' g off (splice cur 0 cs)) → Hid (But [g] w w') → wpList P ops Q rest (a.put o.dst (goInt cs.length)) w') :
    wpList P ops Q (o :: rest) a w := by
  by_cases h0 : cs.length = 0
  · obtain rfl : cs = [] := List.eq_nil_of_length_eq_zero h0
    refine wpList_copy_nothing hgd d s dT sT ho elem hu hsz dp sp dLen dCap sLen sCap hd hs (by simpa using hn.symm) ?_
    exact h w (show Win _ _ _ _ by simpa [splice] using hg) (But.refl _ _)
  · obtain ⟨rfl, ad, rfl, hsrc⟩ := hpos (by omega)
    refine wpList_plain hgd fun K hK => ?_
    have hrun := run_copy_cells (P := P) w dT sT o.type elem g off dLen dCap ad sLen sCap cs hu hsz hn hsrc (fun j hj => by rw [hg.cell j _ (List.getElem?_eq_getElem (by omega))]; rfl) (fun j hj => hg.free j (by omega)) h1
    unfold Oper.wp
    simp [execOp, ho, resolve, invoke, builtin, hd, hs, hrun, Result.andThen]
    exact hK _ _ (h _ (show Win _ _ _ _ from hg.setCells hfit) (show But _ _ _ from But.setCells (Or.inl (by simp)) _ _ _ (But.refl _ _)))

end Go.Proofs.YtbflcikfaoojmaaDoor.Mem

/- An arena: Delete, walked. -/
set_option linter.unusedVariables false
namespace Go.Proofs.YtbflcikfaoojmaaDoor.Mem
open Go.RowKit Go.Lib ChangeShapes

end Go.Proofs.YtbflcikfaoojmaaDoor.Mem

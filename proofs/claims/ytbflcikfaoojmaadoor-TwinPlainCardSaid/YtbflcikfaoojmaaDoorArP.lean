/- The cells of an arena in plain lists: what a copy and a clearing do to them; blocks in which many cells turned. -/
import Derived.Test.YtbflcikfaoojmaaDoorObj
import Derived.Laws.CopyOwn
set_option linter.unusedVariables false
namespace Go.Proofs.YtbflcikfaoojmaaDoor.Mem
open Go.RowKit Go.Lib

def cellsB (l : List UInt8) : List Value := l.map fun c => Value.int .u8 (c.toNat : Int)
theorem cellsB_length (l : List UInt8) : (cellsB l).length = l.length := by simp [cellsB]
theorem cellsB_append (l m : List UInt8) : cellsB (l ++ m) = cellsB l ++ cellsB m := by simp [cellsB]
theorem cellsB_take (l : List UInt8) (n : Nat) : cellsB (l.take n) = (cellsB l).take n := by simp [cellsB, List.map_take]
theorem cellsB_drop (l : List UInt8) (n : Nat) : cellsB (l.drop n) = (cellsB l).drop n := by simp [cellsB, List.map_drop]
theorem cellsB_splice (l m : List UInt8) (n : Nat) : splice (cellsB l) n (cellsB m) = cellsB (splice l n m) := by
  unfold splice
  rw [cellsB_append, cellsB_append, cellsB_take, cellsB_drop, cellsB_length]
theorem cellsB_one (l : List UInt8) : ∀ v ∈ cellsB l, v.oneCell' = true := by
  intro v hv
  simp only [cellsB, List.mem_map] at hv
  obtain ⟨c, _, rfl⟩ := hv
  rfl
theorem cellsB_zero (n : Nat) : List.replicate n (Value.int .u8 0) = cellsB (List.replicate n 0) := by simp [cellsB]
theorem cellsB_get (l : List UInt8) (j : Nat) (hj : j < l.length) : (cellsB l)[j]? = some (.int .u8 ((l.getD j 0).toNat : Int)) := by
  unfold cellsB
  rw [List.getElem?_map, List.getElem?_eq_getElem hj, List.getD_eq_getElem?_getD, List.getElem?_eq_getElem hj]
  rfl

/-- Bytes laid between: two copies. -/
theorem splice_insert {α : Type} (t Z b : List α) (at' : Nat) (ha : at' ≤ t.length) (hb : b.length ≤ Z.length) :
    splice (splice (t ++ Z) (at' + b.length) (t.drop at')) at' b = t.take at' ++ (b ++ (t.drop at' ++ Z.drop b.length)) := by
  unfold splice
  have e1 : (t ++ Z).drop (at' + b.length + (t.drop at').length) = Z.drop b.length := by
    rw [List.length_drop, show at' + b.length + (t.length - at') = t.length + b.length by omega, List.drop_append]
    simp
  rw [e1]
  have hl : ((t ++ Z).take (at' + b.length)).length = at' + b.length := by simp; omega
  rw [List.drop_append, List.drop_eq_nil_of_le (Nat.le_of_eq hl), hl, Nat.sub_self, List.drop_zero, List.nil_append]
  rw [List.take_append_of_le_length (Nat.le_trans (Nat.le_add_right _ _) (Nat.le_of_eq hl.symm)), List.take_take, Nat.min_eq_left (Nat.le_add_right _ _), List.take_append_of_le_length ha]

/-- Bytes taken away: a copy and a clearing. -/
theorem splice_delete {α : Type} (t Z O : List α) (from' to : Nat) (h : from' ≤ to) (ht : to ≤ t.length) (hO : O.length = to - from') :
    splice (splice (t ++ Z) from' (t.drop to)) (t.length - (to - from')) O = t.take from' ++ (t.drop to ++ (O ++ Z)) := by
  unfold splice
  have e0 : from' + (t.drop to).length = t.length - (to - from') := by simp; omega
  have hl : ((t ++ Z).take from').length = from' := by simp; omega
  have e3 : t.length - (to - from') + O.length = t.length := by omega
  rw [e3, e0]
  have e1 : ((t ++ Z).take from' ++ (t.drop to ++ (t ++ Z).drop (t.length - (to - from')))).take (t.length - (to - from')) = (t ++ Z).take from' ++ t.drop to := by
    rw [← List.append_assoc, List.take_append_of_le_length (by rw [List.length_append, hl]; omega), List.take_of_length_le (by rw [List.length_append, hl]; omega)]
  have e2 : ((t ++ Z).take from' ++ (t.drop to ++ (t ++ Z).drop (t.length - (to - from')))).drop t.length = Z := by
    rw [← List.append_assoc, List.drop_append, List.drop_eq_nil_of_le (by rw [List.length_append, hl]; omega), List.nil_append, List.length_append, hl, e0, List.drop_drop]
    rw [show t.length - (to - from') + (t.length - (t.length - (to - from'))) = t.length by omega, List.drop_append]
    simp
  rw [e1, e2, List.take_append_of_le_length (by omega)]
  simp

theorem setCells_nil (w : World) (b o : Nat) : w.setCells b o [] = w := rfl
theorem setCells_cons (w : World) (b o : Nat) (v : Value) (vs : List Value) : w.setCells b o (v :: vs) = (w.setCell ⟨b, o, none⟩ v).setCells b (o + 1) vs := rfl

theorem Blk.setCells {b : Nat} {t : TypeId} : ∀ (vs : List Value) (o : Nat) (w : World) (cs : List Value), Blk w b cs.toArray t → o + vs.length ≤ cs.length → Blk (w.setCells b o vs) b (splice cs o vs).toArray t
  | [], o, w, cs, h, ho => by
    rw [setCells_nil]; simpa [splice] using h
  | v :: vs, o, w, cs, h, ho => by
    rw [setCells_cons]
    simp only [List.length_cons] at ho
    have h1 := h.set o v
    have e : (cs.toArray.setIfInBounds o v) = (cs.set o v).toArray := by simp
    rw [e] at h1
    have := Blk.setCells vs (o + 1) _ _ h1 (by simp; omega)
    have e2 : splice (cs.set o v) (o + 1) vs = splice cs o (v :: vs) := by
      unfold splice
      rw [List.take_set, List.drop_set_of_lt (by omega)]
      rw [show cs.take (o + 1) = cs.take o ++ [cs[o]] by rw [List.take_succ_eq_append_getElem (by omega)]]
      rw [List.set_append_right _ _ (by rw [List.length_take]; exact Nat.min_le_left _ _)]
      simp
      rw [show min o cs.length = o from Nat.min_eq_left (by omega)]
      simp only [Nat.sub_self, List.set_cons_zero, List.cons_append, List.nil_append]
      rw [Nat.add_assoc o 1, Nat.add_comm 1]
    rw [e2] at this
    exact this

theorem But.setCells {S : List Nat} {a : World} {b : Nat} (hb : b ∈ S ∨ a.heap.size ≤ b) : ∀ (vs : List Value) (o : Nat) (w : World), But S a w → But S a (w.setCells b o vs)
  | [], o, w, h => h
  | v :: vs, o, w, h => by
    rw [setCells_cons]
    exact But.setCells hb vs (o + 1) _ (h.set hb v)

theorem But.setRow {S : List Nat} {a w : World} {b : Nat} (h : But S a w) (hb : b ∈ S ∨ a.heap.size ≤ b) (cs : Array Value) : But S a (w.setRow b cs) :=
  ⟨h.os, h.tape, h.output, by simp [World.setRow]; exact h.size, fun k hk hs => by
    rw [setRow_other _ _ _ _ (by intro e; subst e; rcases hb with hb | hb; exact hs hb; omega)]; exact h.block k hk hs⟩

theorem wpList_copy_but {P : Program} {w : World} {ops : Array Oper} {rest : List Oper} {o : Oper} {a : Act} {Q : Exit → Act → World → Prop} (hgd : o.guard = none) (d s : Operand) (dT sT : TypeId)
    (ho : o.op = .call { callee := .builtin .copy, args := #[d, s], argTypes := #[dT, sT] }) (elem : TypeId) (hu : P.underlying dT = some (.slice elem)) (hsz : (P.info? elem).map (·.size) = some 1)
    (dp sp : Option Addr) (dLen dCap sLen sCap : Nat) (hd : a.eval d = .slice dp dLen dCap) (hs : a.eval s = .slice sp sLen sCap)
    (g off : Nat) (cur : List Value) (t : TypeId) (hg : Blk w g cur.toArray t) (cs : List Value) (hn : cs.length = Nat.min sLen dLen)
    (hpos : 0 < cs.length → dp = some ⟨g, off, none⟩ ∧ ∃ ad, sp = some ad ∧ ∀ j v, cs[j]? = some v → w.cell? (ad.add j) = some v)
    (hfit : off + cs.length ≤ cur.length) (h1 : ∀ v ∈ cs, v.oneCell' = true)
    (h : ∀ w', Hid (Blk w' g (splice cur off cs).toArray t) → Hid (But [g] w w') → wpList P ops Q rest (a.put o.dst (goInt cs.length)) w') :
    wpList P ops Q (o :: rest) a w := by
  by_cases h0 : cs.length = 0
  · obtain rfl : cs = [] := List.eq_nil_of_length_eq_zero h0
    refine wpList_copy_nothing hgd d s dT sT ho elem hu hsz dp sp dLen dCap sLen sCap hd hs (by simpa using hn.symm) ?_
    exact h w (show Blk _ _ _ _ by simpa [splice] using hg) (But.refl _ _)
  · obtain ⟨rfl, ad, rfl, hsrc⟩ := hpos (by omega)
    refine wpList_copy_own hgd d s dT sT ho elem hu hsz g off dLen dCap ad sLen sCap hd hs cur.toArray t hg cs hn hsrc (by simpa using hfit) h1 ?_
    exact h _ (show Blk _ _ _ _ by simpa [splice, Blk] using setRow_heap w g _ _ t _ hg) (show But _ _ _ from (But.refl _ _).setRow (Or.inl (by simp)) _)

theorem step_copy_but {P : Program} {ops : Array Oper} {o : Oper} {a : Act} {w : World} {K : Act → World → Prop} {Q : Exit → Act → World → Prop} {E : Prop} (hgd : o.guard = none) (d s : Operand) (dT sT : TypeId)
    (ho : o.op = .call { callee := .builtin .copy, args := #[d, s], argTypes := #[dT, sT] }) (elem : TypeId) (hu : P.underlying dT = some (.slice elem)) (hsz : (P.info? elem).map (·.size) = some 1)
    (dp sp : Option Addr) (dLen dCap sLen sCap : Nat) (hd : a.eval d = .slice dp dLen dCap) (hs : a.eval s = .slice sp sLen sCap)
    (g off : Nat) (cur : List Value) (t : TypeId) (hg : Blk w g cur.toArray t) (cs : List Value) (hn : cs.length = Nat.min sLen dLen)
    (hpos : 0 < cs.length → dp = some ⟨g, off, none⟩ ∧ ∃ ad, sp = some ad ∧ ∀ j v, cs[j]? = some v → w.cell? (ad.add j) = some v)
    (hfit : off + cs.length ≤ cur.length) (h1 : ∀ v ∈ cs, v.oneCell' = true)
    (h : ∀ w', Hid (Blk w' g (splice cur off cs).toArray t) → Hid (But [g] w w') → K (a.put o.dst (goInt cs.length)) w') :
    if Region.wanted o (yielded ops a.tmps) = true then Oper.wp P o a w K Q else E := by
  have hw : Region.wanted o (yielded ops a.tmps) = true := by simp [Region.wanted, hgd]
  rw [if_pos hw]
  by_cases h0 : cs.length = 0
  · obtain rfl : cs = [] := List.eq_nil_of_length_eq_zero h0
    have hrun := run_copy_none (P := P) w dT sT o.type elem dp sp dLen dCap sLen sCap hu hsz (by simpa using hn.symm)
    unfold Oper.wp
    simp [execOp, ho, resolve, invoke, builtin, hd, hs, hrun, Result.andThen]
    exact h w (show Blk _ _ _ _ by simpa [splice] using hg) (But.refl _ _)
  · obtain ⟨rfl, ad, rfl, hsrc⟩ := hpos (by omega)
    have hrun := run_copy_row (P := P) w dT sT o.type elem g off dLen dCap ad sLen sCap cur.toArray t cs hu hsz hg hn hsrc (by simpa using hfit) h1
    unfold Oper.wp
    simp [execOp, ho, resolve, invoke, builtin, hd, hs, hrun, Result.andThen]
    exact h _ (show Blk _ _ _ _ by simpa [splice, Blk] using setRow_heap w g _ _ t _ hg) (show But _ _ _ from (But.refl _ _).setRow (Or.inl (by simp)) _)

end Go.Proofs.YtbflcikfaoojmaaDoor.Mem

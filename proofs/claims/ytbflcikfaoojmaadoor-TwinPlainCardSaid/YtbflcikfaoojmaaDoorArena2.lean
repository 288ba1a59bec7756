/- An arena, walked: Wipe, Copy, Delete, Cell, At. -/
import Derived.Test.YtbflcikfaoojmaaDoorArena
import Derived.Lib.SliceRun
set_option linter.unusedVariables false
namespace Go.Proofs.YtbflcikfaoojmaaDoor.Mem
open Go.RowKit Go.Lib ChangeShapes

theorem run_clear_none {P : Program} (w : World) (t e ty : TypeId) (ht : P.underlying t = some (.slice e)) (dp : Option Addr) (c : Nat) :
    (Builtin.clear_ #[t] ty #[.slice dp 0 c]).run P w = .ok (.tuple #[]) w := by
  cases dp <;> simp [Builtin.clear_, run_underlying ht]

theorem wpList_clear_but {P : Program} {w : World} {ops : Array Oper} {rest : List Oper} {o : Oper} {a : Act} {Q : Exit → Act → World → Prop} (hgd : o.guard = none) (s : Operand) (T : TypeId)
    (ho : o.op = .call { callee := .builtin .clear, args := #[s], argTypes := #[T] }) (e : TypeId) (hu : P.underlying T = some (.slice e)) (hz : ∀ w, (zeroValue e).run P w = .ok (.int .u8 0) w)
    (dp : Option Addr) (n cap : Nat) (hs : a.eval s = .slice dp n cap) (g off : Nat) (cur : List Value) (t : TypeId) (hg : Blk w g cur.toArray t) (hfit : off + n ≤ cur.length) (hpos : 0 < n → dp = some ⟨g, off, none⟩)
    (h : ∀ w', Hid (Blk w' g (splice cur off (List.replicate n (.int .u8 0))).toArray t) → Hid (But [g] w w') → wpList P ops Q rest (a.put o.dst (.tuple #[])) w') :
    wpList P ops Q (o :: rest) a w := by
  refine wpList_plain hgd fun K hK => ?_
  rcases Nat.eq_zero_or_pos n with h0 | h0
  · subst h0
    have hrun := run_clear_none (P := P) w T e o.type hu dp cap
    unfold Oper.wp
    simp [execOp, ho, resolve, invoke, builtin, hs, hrun, Result.andThen]
    exact hK _ _ (h w (show Blk _ _ _ _ by simpa [splice] using hg) (But.refl _ _))
  · obtain rfl := hpos h0
    have hcell : ∀ j, j < n → (w.cell? ⟨g, off + j, none⟩).isSome = true := fun j hj => by
      have : cur.toArray[off + j]? = some (cur[off + j]'(by omega)) := by simp
      rw [hg.cell this]; rfl
    have hrun := run_clear_slice (P := P) w T e o.type (.int .u8 0) hu hz rfl rfl g off n cap h0 hcell (fun j _ => hg.free _)
    unfold Oper.wp
    simp [execOp, ho, resolve, invoke, builtin, hs, hrun, Result.andThen]
    exact hK _ _ (h _ (show Blk _ _ _ _ from Blk.setCells _ _ _ _ hg (by rw [List.length_replicate]; exact hfit)) (show But _ _ _ from But.setCells (Or.inl (by simp)) _ _ _ (But.refl _ _)))

theorem zero_u8 (w : World) : (zeroValue 5).run Tryd.prog w = .ok (.int .u8 0) w := by
  obtain ⟨i, hi⟩ := Option.isSome_iff_exists.1 (show (Tryd.prog.info? 5).isSome = true by kernel_rfl)
  have h1 : (Tryd.prog.info? 5).map (fun i => i.zero) = some (some (.int .u8 0)) := by kernel_rfl
  rw [hi] at h1
  simp only [Option.map_some, Option.some.injEq] at h1
  simp [zeroValue, typeInfo, hi, h1]

theorem splice_all (l m : List Value) (h : m.length = l.length) : splice l 0 m = m := by
  unfold splice
  rw [List.take_zero, List.nil_append, List.drop_eq_nil_of_le (by omega), List.append_nil]

/-- Cells in memory from a place on, not frozen. -/
structure Win (w : World) (g off : Nat) (cur : List Value) : Prop where
  cell : ∀ j v, cur[j]? = some v → w.cell? ⟨g, off + j, none⟩ = some v
  free : ∀ j, j < cur.length → w.frozen? ⟨g, off + j, none⟩ = false

theorem Blk.win {w : World} {g : Nat} {cur : List Value} {t : TypeId} (h : Blk w g cur.toArray t) : Win w g 0 cur :=
  ⟨fun j v hj => by rw [Nat.zero_add]; exact h.cell (by simpa using hj), fun j _ => h.free _⟩

theorem frozen_block {w w' : World} {p : Addr} (h : w'.heap[p.block]? = w.heap[p.block]?) : w'.frozen? p = w.frozen? p := by
  unfold World.frozen?
  rw [h]

theorem Win.but {S : List Nat} {w w' : World} {g off : Nat} {cur : List Value} (h : Win w g off cur) (hb : But S w w') (hg : g ∉ S) (hlt : g < w.heap.size) : Win w' g off cur :=
  ⟨fun j v hj => by rw [hb.cell (p := ⟨g, off + j, none⟩) hlt hg]; exact h.cell j v hj, fun j hj => by rw [frozen_block (p := ⟨g, off + j, none⟩) (hb.block g hlt hg)]; exact h.free j hj⟩

theorem Win.set {w : World} {g off : Nat} {cur : List Value} (h : Win w g off cur) (p : Addr) (hp : p.block ≠ g) (u : Value) : Win (w.setCell p u) g off cur :=
  ⟨fun j v hj => by rw [World.cell?_of_block (w := w) (heap_setCell_other _ _ _ _ (fun e => hp e.symm))]; exact h.cell j v hj, fun j hj => by rw [frozen_block (w := w) (heap_setCell_other _ _ _ _ (fun e => hp e.symm))]; exact h.free j hj⟩

theorem Win.setCells {w : World} {g off : Nat} {cur cs : List Value} (h : Win w g off cur) (hl : cs.length ≤ cur.length) : Win (w.setCells g off cs) g off (splice cur 0 cs) := by
  have hsome : ∀ j, j < cs.length → (w.cell? ⟨g, off + j, none⟩).isSome = true := fun j hj => by
    rw [h.cell j _ (List.getElem?_eq_getElem (by omega))]; rfl
  refine ⟨fun j v hj => ?_, fun j hj => ?_⟩
  · unfold splice at hj
    rw [List.take_zero, List.nil_append, Nat.zero_add] at hj
    by_cases hjc : j < cs.length
    · rw [List.getElem?_append_left hjc] at hj
      rw [World.cell?_setCells_in g cs off w hsome j hjc]
      rw [← hj, List.getElem?_eq_getElem hjc]
    · rw [List.getElem?_append_right (by omega), List.getElem?_drop] at hj
      rw [World.cell?_setCells_out g cs off w ⟨g, off + j, none⟩ (fun _ _ => Or.inr (by show off + cs.length ≤ off + j; omega))]
      exact h.cell j v (by rw [← hj]; congr 1; omega)
  · rw [World.frozen?_setCells]
    rw [length_splice _ _ _ (by omega)] at hj
    exact h.free j hj

theorem wpList_copy_win {P : Program} {w : World} {ops : Array Oper} {rest : List Oper} {o : Oper} {a : Act} {Q : Exit → Act → World → Prop} (hgd : o.guard = none) (d s : Operand) (dT sT : TypeId)
    (ho : o.op = .call { callee := .builtin .copy, args := #[d, s], argTypes := #[dT, sT] }) (elem : TypeId) (hu : P.underlying dT = some (.slice elem)) (hsz : (P.info? elem).map (·.size) = some 1)
    (dp sp : Option Addr) (dLen dCap sLen sCap : Nat) (hd : a.eval d = .slice dp dLen dCap) (hs : a.eval s = .slice sp sLen sCap)
    (g off : Nat) (cur : List Value) (hg : Win w g off cur) (cs : List Value) (hn : cs.length = Nat.min sLen dLen)
    (hpos : 0 < cs.length → dp = some ⟨g, off, none⟩ ∧ ∃ ad, sp = some ad ∧ ∀ j v, cs[j]? = some v → w.cell? (ad.add j) = some v)
    (hfit : cs.length ≤ cur.length) (h1 : ∀ v ∈ cs, v.oneCell' = true)
    (h : ∀ w', Hid (Win w' g off (splice cur 0 cs)) → Hid (But [g] w w') → wpList P ops Q rest (a.put o.dst (goInt cs.length)) w') :
    wpList P ops Q (o :: rest) a w := by
  by_cases h0 : cs.length = 0
  · obtain rfl : cs = [] := List.eq_nil_of_length_eq_zero h0
    refine wpList_copy_nothing hgd d s dT sT ho elem hu hsz dp sp dLen dCap sLen sCap hd hs (by simpa using hn.symm) ?_
    exact h w (show Win _ _ _ _ by simpa [splice] using hg) (But.refl _ _)
  · obtain ⟨rfl, ad, rfl, hsrc⟩ := hpos (by omega)
    refine wpList_plain hgd fun K hK => ?_
    have hrun := run_copy_cells (P := P) w dT sT o.type elem g off dLen dCap ad sLen sCap cs hu hsz hn hsrc (fun j hj => by rw [hg.cell j _ (List.getElem?_eq_getElem (by omega))]; rfl) (fun j hj => hg.free j (by omega)) h1
    unfold Oper.wp
    simp [execOp, ho, resolve, invoke, builtin, hd, hs, hrun, Result.andThen]
    exact hK _ _ (h _ (show Win _ _ _ _ from hg.setCells hfit) (show But _ _ _ from But.setCells (Or.inl (by simp)) _ _ _ (But.refl _ _)))

end Go.Proofs.YtbflcikfaoojmaaDoor.Mem

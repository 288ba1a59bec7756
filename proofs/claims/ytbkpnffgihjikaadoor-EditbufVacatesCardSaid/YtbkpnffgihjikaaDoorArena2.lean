/- An arena, walked: Wipe, Copy, Delete, Cell, At. -/
import Derived.Test.YtbkpnffgihjikaaDoorArena
import Derived.Lib.SliceRun
set_option linter.unusedVariables false
namespace Go.Proofs.YtbkpnffgihjikaaDoor.Mem
open Go.RowKit Go.Lib ChangeShapes

theorem run_clear_none {P : Program} (w : World) (t e ty : TypeId) (ht : P.underlying t = some (.slice e)) (dp : Option Addr) (c : Nat) :
    (Builtin.clear_ #[t] ty #[.slice dp 0 c]).run P w = .ok (.tuple #[]) w := by
  cases dp <;> simp [Builtin.clear_, run_underlying ht]

theorem wpList_clear_but {P : Program} {w : World} {ops : Array Oper} {rest : List Oper} {o : Oper} {a : Act} {Q : Exit → Act → World → Prop} (hgd : o.guard = none) (s : Operand) (T : TypeId)
    (ho : o.op = .call { callee := .builtin .clear, args := #[s], argTypes := #[T] }) (e : TypeId) (hu : P.underlying T = some (.slice e)) (hz : ∀ w, (zeroValue e).run P w = .ok (.int .u8 0) w)
    (dp : Option Addr) (n cap : Nat) (hs : a.eval s = .slice dp n cap) (g off : Nat) (cur : List Value) (t : TypeId) (hg : Blk w g cur.toArray t) (hfit : off + n ≤ cur.length) (hpos : 0 < n → dp = some ⟨g, off, none⟩)
    (h : ∀ w', Hid (Blk w' g (splice cur off (List.replicate n (.int .u8 0))).toArray t) → Hid (But [g] w w') → wpList P ops Q rest (a.put o.dst (.tuple #[])) w') :
    wpList P ops Q (o :: rest) a w := by
  refine wpList_plain hgd fun K hK => ?_
  rcases Nat.eq_zero_or_pos n with h0 | h0
  · subst h0
    have hrun := run_clear_none (P := P) w T e o.type hu dp cap
    unfold Oper.wp
    simp [execOp, ho, resolve, invoke, builtin, hs, hrun, Result.andThen]
    exact hK _ _ (h w (show Blk _ _ _ _ by simpa [splice] using hg) (But.refl _ _))
  · obtain rfl := hpos h0
    have hcell : ∀ j, j < n → (w.cell? ⟨g, off + j, none⟩).isSome = true := fun j hj => by
      have : cur.toArray[off + j]? = some (cur[off + j]'(by omega)) := by simp
      rw [hg.cell this]; rfl
    have hrun := run_clear_slice (P := P) w T e o.type (.int .u8 0) hu hz rfl rfl g off n cap h0 hcell (fun j _ => hg.free _)
    unfold Oper.wp
    simp [execOp, ho, resolve, invoke, builtin, hs, hrun, Result.andThen]
    exact hK _ _ (h _ (show Blk _ _ _ _ from Blk.setCells _ _ _ _ hg (by rw [List.length_replicate]; exact hfit)) (show But _ _ _ from But.setCells (Or.inl (by simp)) _ _ _ (But.refl _ _)))

theorem zero_u8 (w : World) : (zeroValue 5).run Tryd.prog w = .ok (.int .u8 0) w := by
  obtain ⟨i, hi⟩ := Option.isSome_iff_exists.1 (show (Tryd.prog.info? 5).isSome = true by kernel_rfl)
  have h1 : (Tryd.prog.info? 5).map (fun i => i.zero) = some (some (.int .u8 0)) := by kernel_rfl
  rw [hi] at h1
  simp only [Option.map_some, Option.some.injEq] at h1
  simp [zeroValue, typeInfo, hi, h1]

theorem splice_all (l m : List Value) (h : m.length = l.length) : splice l 0 m = m := by
  unfold splice
  rw [List.take_zero, List.nil_append, List.drop_eq_nil_of_le (by omega), List.append_nil]

set_option maxHeartbeats 1000000 in
theorem wipe {a c N : Nat} {t : List UInt8} (w : World) (h : Ar w a c N t) :
    Calls Tryd.prog 60 #[.pointer (some ⟨a, 0, none⟩)] w fun e w' => e = .returned (.tuple #[]) ∧ Ar w' a c N [] ∧ But [a, c] w w' := by
  have H := Lib.hid h
  have c0 := h.head.cell (j := 0) (v := .slice (some ⟨c, 0, none⟩) N N) rfl
  have hl : (t ++ List.replicate (N - t.length) (0 : UInt8)).length = N := by have := h.fit; simp; omega
  have HL : Hid (0 + N ≤ (cellsB (t ++ List.replicate (N - t.length) 0)).length) := by rw [cellsB_length, hl]; show 0 + N ≤ N; omega
  have HL2 := Lib.hid hl
  clear h hl
  go_enter Tryd.func60, Tryd.ntmps60
  go_wp2_with (with_reducible refine wpList_clear_but rfl (.tmp 7) 22 rfl 5 Tryd.underlying22 zero_u8 _ _ _ rfl c 0 (cellsB (t ++ List.replicate (N - t.length) 0)) 5 H.out.body HL.out (fun _ => rfl) ?_; intro w5 hg5 hb5; have hh5 : Blk w5 a #[.slice (some ⟨c, 0, none⟩) N N, .int .i64 (t.length : Int)] 95 := Blk.but H.out.head hb5.out (by simp; exact H.out.ne); have g1 := hh5.cell (j := 1) (v := .int .i64 (t.length : Int)) rfl; have gf := hh5.free 1; have HH5 := Lib.hid hh5; clear hh5)
  go_end0
  refine ⟨rfl, ⟨Blk.set HH5.out 1 _, ?_, H.out.ne, by simp, H.out.pos, H.out.max⟩, (hb5.out.mono (by simp)).set (Or.inl (by simp)) _⟩
  have h := Blk.other hg5.out (a := ⟨a, 1, none⟩) (fun e => H.out.ne e.symm) (.int .i64 0)
  rw [cellsB_zero, splice_all _ _ (by rw [cellsB_length, cellsB_length, HL2.out, List.length_replicate])] at h
  simpa using h

/-- Cells in memory from a place on, not frozen. -/
structure Win (w : World) (g off : Nat) (cur : List Value) : Prop where
  cell : ∀ j v, cur[j]? = some v → w.cell? ⟨g, off + j, none⟩ = some v
  free : ∀ j, j < cur.length → w.frozen? ⟨g, off + j, none⟩ = false

theorem Blk.win {w : World} {g : Nat} {cur : List Value} {t : TypeId} (h : Blk w g cur.toArray t) : Win w g 0 cur :=
  ⟨fun j v hj => by rw [Nat.zero_add]; exact h.cell (by simpa using hj), fun j _ => h.free _⟩

theorem frozen_block {w w' : World} {p : Addr} (h : w'.heap[p.block]? = w.heap[p.block]?) : w'.frozen? p = w.frozen? p := by
  unfold World.frozen?
  rw [h]

theorem Win.but {S : List Nat} {w w' : World} {g off : Nat} {cur : List Value} (h : Win w g off cur) (hb : But S w w') (hg : g ∉ S) (hlt : g < w.heap.size) : Win w' g off cur :=
  ⟨fun j v hj => by rw [hb.cell (p := ⟨g, off + j, none⟩) hlt hg]; exact h.cell j v hj, fun j hj => by rw [frozen_block (p := ⟨g, off + j, none⟩) (hb.block g hlt hg)]; exact h.free j hj⟩

theorem Win.set {w : World} {g off : Nat} {cur : List Value} (h : Win w g off cur) (p : Addr) (hp : p.block ≠ g) (u : Value) : Win (w.setCell p u) g off cur :=
  ⟨fun j v hj => by rw [World.cell?_of_block (w := w) (heap_setCell_other _ _ _ _ (fun e => hp e.symm))]; exact h.cell j v hj, fun j hj => by rw [frozen_block (w := w) (heap_setCell_other _ _ _ _ (fun e => hp e.symm))]; exact h.free j hj⟩

theorem Win.setCells {w : World} {g off : Nat} {cur cs : List Value} (h : Win w g off cur) (hl : cs.length ≤ cur.length) : Win (w.setCells g off cs) g off (splice cur 0 cs) := by
  have hsome : ∀ j, j < cs.length → (w.cell? ⟨g, off + j, none⟩).isSome = true := fun j hj => by
    rw [h.cell j _ (List.getElem?_eq_getElem (by omega))]; rfl
  refine ⟨fun j v hj => ?_, fun j hj => ?_⟩
  · unfold splice at hj
    rw [List.take_zero, List.nil_append, Nat.zero_add] at hj
    by_cases hjc : j < cs.length
    · rw [List.getElem?_append_left hjc] at hj
      rw [World.cell?_setCells_in g cs off w hsome j hjc]
      rw [← hj, List.getElem?_eq_getElem hjc]
    · rw [List.getElem?_append_right (by omega), List.getElem?_drop] at hj
      rw [World.cell?_setCells_out g cs off w ⟨g, off + j, none⟩ (fun _ _ => Or.inr (by show off + cs.length ≤ off + j; omega))]
      exact h.cell j v (by rw [← hj]; congr 1; omega)
  · rw [World.frozen?_setCells]
    rw [length_splice _ _ _ (by omega)] at hj
    exact h.free j hj

theorem wpList_copy_win {P : Program} {w : World} {ops : Array Oper} {rest : List Oper} {o : Oper} {a : Act} {Q : Exit → Act → World → Prop} (hgd : o.guard = none) (d s : Operand) (dT sT : TypeId)
    (ho : o.op = .call { callee := .builtin .copy, args := #[d, s], argTypes := #[dT, sT] }) (elem : TypeId) (hu : P.underlying dT = some (.slice elem)) (hsz : (P.info? elem).map (·.size) = some 1)
    (dp sp : Option Addr) (dLen dCap sLen sCap : Nat) (hd : a.eval d = .slice dp dLen dCap) (hs : a.eval s = .slice sp sLen sCap)
    (g off : Nat) (cur : List Value) (hg : Win w g off cur) (cs : List Value) (hn : cs.length = Nat.min sLen dLen)
    (hpos : 0 < cs.length → dp = some ⟨g, off, none⟩ ∧ ∃ ad, sp = some ad ∧ ∀ j v, cs[j]? = some v → w.cell? (ad.add j) = some v)
    (hfit : cs.length ≤ cur.length) (h1 : ∀ v ∈ cs, v.oneCell' = true)
    (h : ∀ w', Hid (Win w' g off (splice cur 0 cs)) → Hid (But [g] w w') → wpList P ops Q rest (a.put o.dst (goInt cs.length)) w') :
    wpList P ops Q (o :: rest) a w := by
  by_cases h0 : cs.length = 0
  · obtain rfl : cs = [] := List.eq_nil_of_length_eq_zero h0
    refine wpList_copy_nothing hgd d s dT sT ho elem hu hsz dp sp dLen dCap sLen sCap hd hs (by simpa using hn.symm) ?_
    exact h w (show Win _ _ _ _ by simpa [splice] using hg) (But.refl _ _)
  · obtain ⟨rfl, ad, rfl, hsrc⟩ := hpos (by omega)
    refine wpList_plain hgd fun K hK => ?_
    have hrun := run_copy_cells (P := P) w dT sT o.type elem g off dLen dCap ad sLen sCap cs hu hsz hn hsrc (fun j hj => by rw [hg.cell j _ (List.getElem?_eq_getElem (by omega))]; rfl) (fun j hj => hg.free j (by omega)) h1
    unfold Oper.wp
    simp [execOp, ho, resolve, invoke, builtin, hd, hs, hrun, Result.andThen]
    exact hK _ _ (h _ (show Win _ _ _ _ from hg.setCells hfit) (show But _ _ _ from But.setCells (Or.inl (by simp)) _ _ _ (But.refl _ _)))

theorem copy_nil (v : Value) (w : World) : Calls Tryd.prog 62 #[.pointer none, v] w fun e w' => e = .returned (.int .i64 0) ∧ w' = w := by
  go_enter Tryd.func62, Tryd.ntmps62
  go_wp2
  go_ret
  exact ⟨rfl, rfl⟩

set_option maxRecDepth 100000 in
set_option maxHeartbeats 1000000 in
theorem copy_c {a c N : Nat} {t : List UInt8} (A : Option Addr) (m cap : Nat) (g off : Nat) (cur : List Value) (w : World) (h : Ar w a c N t) (hg : Win w g off cur) (hA : 0 < m → A = some ⟨g, off, none⟩) (hfit : m ≤ cur.length) :
    Calls Tryd.prog 62 #[.pointer (some ⟨a, 0, none⟩), .slice A m cap] w fun e w' => e = .returned (.int .i64 ((min m t.length : Nat) : Int)) ∧ Win w' g off (splice cur 0 (cellsB (t.take m))) ∧ But [g] w w' := by
  have H := Lib.hid h
  have c0 := h.head.cell (j := 0) (v := .slice (some ⟨c, 0, none⟩) N N) rfl
  have c1 := h.head.cell (j := 1) (v := .int .i64 (t.length : Int)) rfl
  have htN : (t.length : Int) ≤ (N : Int) := by have := h.fit; omega
  have htn := h.fit
  have HS : Hid (0 < (cellsB (t.take m)).length → A = some ⟨g, off, none⟩ ∧ ∃ ad, some (⟨c, 0, none⟩ : Addr) = some ad ∧ ∀ j v, (cellsB (t.take m))[j]? = some v → w.cell? (ad.add j) = some v) := fun h0 => by
    rw [cellsB_length, List.length_take] at h0
    refine ⟨hA (by omega), _, rfl, fun j v hj => ?_⟩
    rw [WideShapes.add_plain]
    refine h.body.cell ?_
    rw [cellsB_take, List.getElem?_take] at hj
    split at hj
    · rw [cellsB_append]
      simp only [List.getElem?_toArray, Nat.zero_add]
      rw [List.getElem?_append_left (List.getElem?_eq_some_iff.1 hj).1]
      exact hj
    · cases hj
  have HG := Lib.hid hg
  have HF : Hid ((cellsB (t.take m)).length ≤ cur.length) := by rw [cellsB_length, List.length_take]; show min _ _ ≤ _; omega
  clear h hg hA hfit
  go_enter Tryd.func62, Tryd.ntmps62
  go_wp2
  obtain ⟨w2, hw2⟩ : ∃ w2, w.drew = w2 := ⟨_, rfl⟩
  have d0 : w2.cell? ⟨a, 0, none⟩ = some (.slice (some ⟨c, 0, none⟩) N N) := by rw [← hw2]; exact c0
  have d1 : w2.cell? ⟨a, 1, none⟩ = some (.int .i64 (t.length : Int)) := by rw [← hw2]; exact c1
  refine still_tail 10 (by kernel_rfl) (by kernel_rfl) ?_
  rw [hw2]
  simp only [List.take_succ_cons, List.take_zero, List.drop_succ_cons, List.drop_zero]
  repeat still_step
  refine wpStill_nil ?_
  refine wpList_copy_win rfl (.tmp 7) (.tmp 16) 22 22 rfl 5 Tryd.underlying22 (by kernel_rfl) _ _ _ _ _ _ rfl rfl g off cur (by rw [← hw2]; exact ⟨HG.out.cell, HG.out.free⟩) (cellsB (t.take m)) (by rw [cellsB_length, List.length_take]; simp only [Nat.min_def]; split <;> split <;> omega) (by rw [← hw2]; exact HS.out) HF.out (cellsB_one _) ?_
  intro w4 hg4 hb4
  go_wp2
  go_ret
  refine ⟨?_, hg4.out, ?_⟩
  · simp [cellsB_length]
  · have := hb4.out
    rw [← hw2] at this
    exact (But.refl _ _).drew.trans this

end Go.Proofs.YtbkpnffgihjikaaDoor.Mem

/- Texts joined: PlF; PlK; PlJ. -/
import Derived.Test.YtbflcikfaoojmaaDoorHPlS
import Derived.Test.YtbflcikfaoojmaaDoorGT5
import Derived.Test.YtbflcikfaoojmaaDoorGT4
/- The new plan's items: plain, and in memory. -/
set_option linter.unusedVariables false
set_option linter.unusedSimpArgs false
namespace Go.Proofs.YtbflcikfaoojmaaDoor.Edit
open Go.RowKit Go.Lib Go.Shelf ChangeShapes Mem Utf UtfP

abbrev Core := Nat × Int × Int × List UInt8
/-- one item's bytes set -/
def setL (c : List Core) (j : Nat) (l : List UInt8) : List Core := c.modify j fun x => (x.1, x.2.1, x.2.2.1, l)
/-- bytes cut to items, as they come -/
def cutE (its : List It) : List Int → List UInt8 → List Core → List Core
  | [], _, c => c
  | i :: o, b, c => cutE its o (b.drop (dat its i).length) (setL c i.toNat (b.take (dat its i).length))
def newC (its : List It) (z : Int) : List Core := cutE its (ordE its) (planE z (allE its)) (its.map It.core)
/-- how many bytes are still to come -/
def remL (its : List It) (o : List Int) : Nat := (o.map fun i => (dat its i).length).sum
theorem remL_all (its : List It) : remL its (ordE its) = (allE its).length := by
  unfold remL allE
  rw [List.length_flatMap]
theorem drop_at {α : Type} {l : List α} {j : Nat} {i : α} (h : l[j]? = some i) : l.drop j = i :: l.drop (j + 1) := by
  have hl := (List.getElem?_eq_some_iff.1 h).1
  rw [List.drop_eq_getElem_cons hl, (List.getElem?_eq_some_iff.1 h).2]
theorem cellsI_set : ∀ (l : List It) (j : Nat) (x : It) (v : Value) (y : It), l[j]? = some x → y = { x with l := y.l, A := y.A, cap := y.cap } → v = .slice y.A y.l.length y.cap → cellsI (l.set j y) = (cellsI l).set (j * 4 + 3) v := by
  intro l
  induction l with
  | nil => intro j x v y h; simp at h
  | cons a r ih =>
    intro j x v y h hy hv
    have e : ∀ b : It, ∀ s, cellsI (b :: s) = .float .f64 b.t :: .int .i64 b.k :: .int .i64 b.n :: .slice b.A b.l.length b.cap :: cellsI s := fun _ _ => rfl
    cases j with
    | zero =>
      simp at h
      subst h
      rw [List.set_cons_zero, e, e, hv]
      have h1 : y.t = a.t := by rw [hy]
      have h2 : y.k = a.k := by rw [hy]
      have h3 : y.n = a.n := by rw [hy]
      rw [h1, h2, h3]
      rfl
    | succ j =>
      rw [List.set_cons_succ, e, e, ih j x v y (by simpa using h) hy hv, show (j + 1) * 4 + 3 = j * 4 + 3 + 1 + 1 + 1 + 1 by omega]
      rfl
theorem core_set {l : List It} {j : Nat} {x y : It} (h : l[j]? = some x) (hy : y = { x with l := y.l, A := y.A, cap := y.cap }) : (l.set j y).map It.core = setL (l.map It.core) j y.l := by
  apply List.ext_getElem?
  intro m
  unfold setL
  rw [List.getElem?_map, List.getElem?_modify, List.getElem?_map, List.getElem?_set]
  by_cases e : j = m
  · subst e
    have hl := (List.getElem?_eq_some_iff.1 h).1
    rw [if_pos rfl, if_pos hl, h]
    simp only [Option.map_some, if_true]
    have h1 : y.t = x.t := by rw [hy]
    have h2 : y.k = x.k := by rw [hy]
    have h3 : y.n = x.n := by rw [hy]
    show some (y.t, y.k, y.n, y.l) = some (x.t, x.k, x.n, y.l)
    rw [h1, h2, h3]
  · rw [if_neg e]
    cases l[m]? with
    | none => rfl
    | some a => simp [e]

/-- the items' row in a block of its own, where none of their bytes lie -/
structure QIts (w : World) (lo : Nat) (v : Value) (its : List It) : Prop where
  row : w.ownsRow lo 49 4 v its.length (cellsI its)
  ok : ∀ x ∈ its, x.Ok w
  out : ∀ x ∈ its, x.l ≠ [] → ∀ a, x.A = some a → v.ownBlock ≠ some a.block
theorem QIts.but {S : List Nat} {w w' : World} {lo : Nat} {v : Value} {its : List It} (h : QIts w lo v its) (hb : But S w w') (hS : ∀ k, v.ownBlock = some k → k ∉ S) (hS2 : ∀ x ∈ its, x.l ≠ [] → ∀ a, x.A = some a → a.block ∉ S) : QIts w' lo v its := by
  refine ⟨⟨h.row.1, ?_⟩, fun x hx => ?_, h.out⟩
  · rcases h.row.2 with h0 | ⟨g, cap, cur, rfl, hB, hg, hr⟩
    · exact .inl h0
    · refine .inr ⟨g, cap, cur, rfl, hB, ?_, hr⟩
      rw [hb.block g ((Array.getElem?_eq_some_iff.1 hg).1) (hS g rfl)]
      exact hg
  · have := h.ok x hx
    refine ⟨this.t, this.k, this.n, this.cap, this.nil, fun hne => ?_⟩
    obtain ⟨b, off, hA, hl, hc⟩ := this.bytes hne
    refine ⟨b, off, hA, Nat.lt_of_lt_of_le hl hb.size, fun i hi => ?_⟩
    rw [But.cell hb (p := ⟨b, off + i, none⟩) hl (hS2 x hx hne ⟨b, off, none⟩ hA)]
    exact hc i hi
theorem QIts.below {w w' : World} {lo : Nat} {v : Value} {its : List It} (h : QIts w lo v its) (hb : Below w.heap.size w w') : QIts w' lo v its := h.but (But.of_below (S := []) hb) (fun _ _ => List.not_mem_nil) (fun _ _ _ _ _ => List.not_mem_nil)
theorem QIts.its {w : World} {lo : Nat} {v : Value} {its : List It} (h : QIts w lo v its) : ∃ B c, v = .slice B its.length c ∧ its.length ≤ c ∧ (B = none → its = [] ∧ c = 0) ∧ ItsAt w B its ∧ (∀ a, B = some a → lo ≤ a.block ∧ a.block < w.heap.size) := by
  rcases h.row.2 with ⟨rfl, h0⟩ | ⟨g, cap, cur, rfl, hB, hg, hn, hm, hs, ht⟩
  · have := List.eq_nil_of_length_eq_zero h0
    subst this
    exact ⟨none, 0, rfl, Nat.le_refl _, fun _ => ⟨rfl, rfl⟩, ⟨fun hne => absurd rfl hne, h.ok⟩, fun _ h => by cases h⟩
  · have hlt := (Array.getElem?_eq_some_iff.1 hg).1
    refine ⟨some ⟨g, 0, none⟩, cap, rfl, hn, fun h => (by cases h), ⟨fun hne => ⟨g, 0, rfl, hlt, fun j u hu => ?_⟩, h.ok⟩, fun a ha => (by cases ha; exact ⟨hB, hlt⟩)⟩
    rw [Nat.zero_add, cell_of_row w g j cur _ (0, 0) hg, ← Array.getElem?_toList]
    rw [← ht] at hu
    have hj : j < its.length * 4 := by
      rcases Nat.lt_or_ge j (its.length * 4) with h' | h'
      · exact h'
      · rw [List.getElem?_take_eq_none h'] at hu; cases hu
    rwa [List.getElem?_take_of_lt hj] at hu
/-- the cell that is to be set is one's own -/
theorem QIts.at {w : World} {lo : Nat} {v : Value} {its : List It} (h : QIts w lo v its) {j : Nat} {x : It} (hj : its[j]? = some x) : ∃ g c, v = .slice (some ⟨g, 0, none⟩) its.length c ∧ lo ≤ g ∧ g < w.heap.size ∧ w.cell? ⟨g, j * 4 + 3, none⟩ = some (.slice x.A x.l.length x.cap) ∧ w.frozen? ⟨g, j * 4 + 3, none⟩ = false := by
  have hjl := (List.getElem?_eq_some_iff.1 hj).1
  rcases h.row.2 with ⟨rfl, h0⟩ | ⟨g, cap, cur, rfl, hB, hg, hn, hm, hs, ht⟩
  · omega
  · obtain ⟨_, _, _, d3⟩ := cellsI_at its j x hj
    refine ⟨g, cap, rfl, hB, (Array.getElem?_eq_some_iff.1 hg).1, ?_, frozen_of_row _ _ _ _ _ hg⟩
    rw [cell_of_row w g _ cur _ (0, 0) hg, ← Array.getElem?_toList]
    rw [← ht, List.getElem?_take_of_lt (by omega)] at d3
    exact d3
theorem QIts.set {w : World} {lo g c : Nat} {its : List It} (h : QIts w lo (.slice (some ⟨g, 0, none⟩) its.length c) its) {j : Nat} {x : It} (hj : its[j]? = some x) (l : List UInt8) (A : Option Addr) (cap : Nat)
    (hA : BytesAt w A l) (hcap : l.length ≤ cap) (hnil : A = none → l = [] ∧ cap = 0) (hne : l ≠ [] → ∀ a, A = some a → a.block ≠ g) :
    QIts (w.setCell ⟨g, j * 4 + 3, none⟩ (.slice A l.length cap)) lo (.slice (some ⟨g, 0, none⟩) its.length c) (its.set j { x with l := l, A := A, cap := cap }) := by
  have hbt : But [g] w (w.setCell ⟨g, j * 4 + 3, none⟩ (.slice A l.length cap)) := (But.refl _ _).set (.inl (by simp)) _
  have hok : ∀ y ∈ its.set j { x with l := l, A := A, cap := cap }, y.Ok w ∧ (y.l ≠ [] → ∀ a, y.A = some a → a.block ≠ g) := by
    intro y hy
    rcases List.mem_or_eq_of_mem_set hy with hy | rfl
    · exact ⟨h.ok y hy, fun hl a ha e => h.out y hy hl a ha (by rw [e]; rfl)⟩
    · have := h.ok x (List.mem_of_getElem? hj)
      exact ⟨⟨this.t, this.k, this.n, hcap, hnil, hA⟩, hne⟩
  have hlen : (its.set j { x with l := l, A := A, cap := cap }).length = its.length := List.length_set
  refine ⟨?_, fun y hy => ?_, fun y hy hl a ha e => (hok y hy).2 hl a ha (by simp [Value.ownBlock] at e; exact e.symm)⟩
  · rcases h.row.2 with ⟨h0, _⟩ | ⟨g', cap', cur, hv, hB, hg, hn, hm, hs, ht⟩
    · cases h0
    · cases hv
      rw [hlen]
      refine ⟨by rw [cellsI_length, hlen], .inr ⟨g, c, cur.setIfInBounds (j * 4 + 3) (.slice A l.length cap), rfl, hB, heap_setCell_same _ _ _ _ _ _ hg, hn, hm, by simpa using hs, ?_⟩⟩
      rw [cellsI_set its j x (.slice A l.length cap) { x with l := l, A := A, cap := cap } hj rfl rfl, ← ht, Array.toList_setIfInBounds, List.take_set]
  · obtain ⟨h1, h2⟩ := hok y hy
    refine ⟨h1.t, h1.k, h1.n, h1.cap, h1.nil, fun hne => ?_⟩
    obtain ⟨b, off, hA', hl, hc⟩ := h1.bytes hne
    refine ⟨b, off, hA', Nat.lt_of_lt_of_le hl hbt.size, fun i hi => ?_⟩
    rw [But.cell hbt (p := ⟨b, off + i, none⟩) hl (by rw [List.mem_singleton]; exact h2 hne ⟨b, off, none⟩ hA')]
    exact hc i hi

theorem ownsRow_below {w w' : World} {B : Nat} {e : TypeId} {s n : Nat} {v : Value} {xs : List Value} (h : w.ownsRow B e s v n xs) (hb : Below w.heap.size w w') : w'.ownsRow B e s v n xs := by
  refine ⟨h.1, ?_⟩
  rcases h.2 with h0 | ⟨g, cap, cur, hv, hB, hg, hr⟩
  · exact .inl h0
  · exact .inr ⟨g, cap, cur, hv, hB, (hb.block g ((Array.getElem?_eq_some_iff.1 hg).1)).trans hg, hr⟩
theorem ownsRow_but {S : List Nat} {w w' : World} {B : Nat} {e : TypeId} {s n : Nat} {v : Value} {xs : List Value} (h : w.ownsRow B e s v n xs) (hb : But S w w') (hS : ∀ k, v.ownBlock = some k → k ∉ S) : w'.ownsRow B e s v n xs := by
  refine ⟨h.1, ?_⟩
  rcases h.2 with h0 | ⟨g, cap, cur, rfl, hB, hg, hr⟩
  · exact .inl h0
  · exact .inr ⟨g, cap, cur, rfl, hB, (hb.block g ((Array.getElem?_eq_some_iff.1 hg).1) (hS g rfl)).trans hg, hr⟩
/-- numbers that are owned are a plan's -/
theorem OwnI.nums {w : World} {B : Nat} {A : Option Addr} {c : Nat} {l : List Int} (h : OwnI w B (.slice A l.length c) l) (hw : ∀ i ∈ l, IntKind.i64.wrap i = i) : Nums.Ok w ⟨l, A, c⟩ := by
  rcases h.2 with ⟨h0, h1⟩ | ⟨g, cap, cur, hv, hB, hg, hn, hm, hs, ht⟩
  · have := List.eq_nil_of_length_eq_zero h1
    subst this
    cases h0
    exact ⟨fun hne => absurd rfl hne, Nat.le_refl _, fun _ => ⟨rfl, rfl⟩, hw⟩
  · injection hv with h1 _ h3
    subst h1 h3
    refine ⟨fun _ => ⟨g, 0, rfl, (Array.getElem?_eq_some_iff.1 hg).1, fun j u hu => ?_⟩, hn, fun h => (by cases h), hw⟩
    rw [Nat.zero_add, cell_of_row w g j cur _ (0, 0) hg, ← Array.getElem?_toList]
    have hu' := hu
    rw [← ht] at hu
    have hj : j < l.length * 1 := by
      have := (List.getElem?_eq_some_iff.1 hu').1
      simpa using this
    rwa [List.getElem?_take_of_lt hj] at hu

end Go.Proofs.YtbflcikfaoojmaaDoor.Edit

/- Copies of any plan's lists: slices.Clone. -/
set_option linter.unusedVariables false
set_option linter.unusedSimpArgs false
namespace Go.Proofs.YtbflcikfaoojmaaDoor.Edit
open Go.RowKit Go.Lib Go.Shelf ChangeShapes Mem Utf UtfP

attribute [local go_sem] nilB nilI nilP

set_option maxRecDepth 100000 in
set_option maxHeartbeats 1000000 in
theorem iclone_c (x : Nums) (w : World) (h : x.Ok w) (hl : x.l.length ≤ 4000) : Calls Tryd.prog 35 #[.slice x.A x.l.length x.cap] w fun e w' => ∃ v, e = .returned v ∧ OwnI w' w.heap.size v x.l ∧ Below w.heap.size w w' := by
  obtain ⟨l, A, cap⟩ := x
  dsimp only at hl ⊢
  rcases A with _ | ad
  · obtain ⟨h1, h2⟩ := h.nil rfl
    dsimp only at h1 h2
    subst h1 h2
    clear h hl
    go_enter Tryd.func35, Tryd.ntmps35
    go_wp2
    go_ret
    exact ⟨_, rfl, OwnI.nil _ _, Below.refl _ _⟩
  · have hb0 : Below w.heap.size w (w.alloc (.cells #[] 3)) := (Below.refl _ w).alloc (Nat.le_refl _) _
    have HC : Hid (CellsAt (w.alloc (.cells #[] 3)) (some ad) (l.map fun i => .int .i64 i)) := CellsAt.below h.row hb0
    have HOW : Hid ((w.alloc (.cells #[] 3)).ownsRow w.heap.size 3 1 (.slice (some ⟨w.heap.size, 0, none⟩) 0 0) 0 []) := ⟨rfl, .inr ⟨w.heap.size, 0, #[], rfl, Nat.le_refl _, heap_alloc_new w _, Nat.le_refl _, by decide, rfl, rfl⟩⟩
    clear h hb0
    go_enter Tryd.func35, Tryd.ntmps35
    go_wp2_with (at_builtin; (refine wpList_append_cells rfl _ _ rfl Tryd.underlying33 infoI rfl (by decide) rfl HOW.out rfl (m := l.length) (by simp) HC.out (by intro u hu; simp at hu; obtain ⟨i, _, rfl⟩ := hu; rfl) (by unfold maxLen; omega) (by omega) (by simp) ?_))
    intro v' w2 ho2 hg2
    have hb2 : Below w.heap.size w w2 := Below.of_grown ((Below.refl _ w).alloc (Nat.le_refl _) (.cells #[] 3)) hg2 (by simp) (fun k hk => by simp [Value.ownBlock] at hk; omega)
    have ho3 : OwnI w2 w.heap.size v' l := by
      unfold OwnI
      exact ho2
    have HO3 := Lib.hid ho3
    have HB3 := Lib.hid hb2
    clear ho2 hg2 hb2 ho3
    go_wp2
    go_ret
    exact ⟨_, rfl, HO3.out, HB3.out⟩

theorem cellsI_one (its : List It) : ∀ u ∈ cellsI its, u.oneCell' = true := by
  intro u hu
  obtain ⟨x, _, hx⟩ := List.mem_flatMap.1 hu
  unfold It.cells at hx
  simp at hx
  rcases hx with rfl | rfl | rfl | rfl <;> rfl

set_option maxRecDepth 100000 in
set_option maxHeartbeats 1000000 in
theorem pclone_c (p : Pl) (w : World) (h : p.Ok w) (hn : p.its.length ≤ 300) : Calls Tryd.prog 34 #[.slice p.B p.its.length p.cap] w fun e w' => ∃ v, e = .returned v ∧ w'.ownsRow w.heap.size 49 4 v p.its.length (cellsI p.its) ∧ Below w.heap.size w w' := by
  obtain ⟨a1, a2, a3, its, B, cap, ws, gs, ss⟩ := p
  dsimp only at hn ⊢
  rcases B with _ | ad
  · obtain ⟨h1, h2⟩ := h.nil rfl
    dsimp only at h1 h2
    subst h1 h2
    clear h hn
    go_enter Tryd.func34, Tryd.ntmps34
    go_wp2
    go_ret
    exact ⟨_, rfl, ⟨rfl, .inl ⟨rfl, rfl⟩⟩, Below.refl _ _⟩
  · have hb0 : Below w.heap.size w (w.alloc (.cells #[] 49)) := (Below.refl _ w).alloc (Nat.le_refl _) _
    have HC : Hid (CellsAt (w.alloc (.cells #[] 49)) (some ad) (cellsI its)) := CellsAt.below h.its.row hb0
    have HOW : Hid ((w.alloc (.cells #[] 49)).ownsRow w.heap.size 49 4 (.slice (some ⟨w.heap.size, 0, none⟩) 0 0) 0 []) := ⟨rfl, .inr ⟨w.heap.size, 0, #[], rfl, Nat.le_refl _, heap_alloc_new w _, Nat.le_refl _, by decide, rfl, rfl⟩⟩
    clear h hb0
    go_enter Tryd.func34, Tryd.ntmps34
    go_wp2_with (at_builtin; (refine wpList_append_cells rfl _ _ rfl Tryd.underlying32 infoItem rfl (by decide) rfl HOW.out rfl (m := its.length) (by rw [cellsI_length]) HC.out (cellsI_one its) (by unfold maxLen; omega) (by omega) (by simp) ?_))
    intro v' w2 ho2 hg2
    have hb2 : Below w.heap.size w w2 := Below.of_grown ((Below.refl _ w).alloc (Nat.le_refl _) (.cells #[] 49)) hg2 (by simp) (fun k hk => by simp [Value.ownBlock] at hk; omega)
    have HO3 := Lib.hid ho2
    have HB3 := Lib.hid hb2
    clear ho2 hg2 hb2
    go_wp2
    go_ret
    exact ⟨_, rfl, HO3.out, HB3.out⟩

end Go.Proofs.YtbflcikfaoojmaaDoor.Edit

/- One round of the cutting: plain. -/
set_option linter.unusedVariables false
set_option linter.unusedSimpArgs false
namespace Go.Proofs.YtbflcikfaoojmaaDoor.Edit
open Go.RowKit Go.Lib Go.Shelf ChangeShapes Mem Utf UtfP

theorem cut_step {its its' : List It} {z : Int} {rest : List UInt8} {j k : Nat} {i : Int} {x y : It} (h : cutE its ((ordE its).drop j) rest (its'.map It.core) = newC its z) (hoj : (ordE its)[j]? = some i) (hi : i = (k : Int)) (hx : its[k]? = some x) (hy : its'[k]? = some y) (A : Option Addr) (cap : Nat) :
    cutE its ((ordE its).drop (j + 1)) (rest.drop x.l.length) ((its'.set k { y with l := rest.take x.l.length, A := A, cap := cap }).map It.core) = newC its z := by
  rw [drop_at hoj, hi] at h
  rw [core_set hy rfl]
  have e : cutE its ((k : Int) :: (ordE its).drop (j + 1)) rest (its'.map It.core) = cutE its ((ordE its).drop (j + 1)) (rest.drop (dat its (k : Int)).length) (setL (its'.map It.core) (k : Int).toNat (rest.take (dat its (k : Int)).length)) := rfl
  rw [e, dat_of hx, Int.toNat_natCast] at h
  exact h
theorem rem_step {its : List It} {rest : List UInt8} {j k : Nat} {i : Int} {x : It} (h : rest.length = remL its ((ordE its).drop j)) (hoj : (ordE its)[j]? = some i) (hi : i = (k : Int)) (hx : its[k]? = some x) :
    x.l.length ≤ rest.length ∧ (rest.drop x.l.length).length = remL its ((ordE its).drop (j + 1)) := by
  rw [drop_at hoj, hi] at h
  have e : remL its ((k : Int) :: (ordE its).drop (j + 1)) = (dat its (k : Int)).length + remL its ((ordE its).drop (j + 1)) := by unfold remL; rw [List.map_cons, List.sum_cons]
  rw [e, dat_of hx] at h
  rw [List.length_drop]
  omega
theorem cut_end {its its' : List It} {z : Int} {rest : List UInt8} {j : Nat} (h : cutE its ((ordE its).drop j) rest (its'.map It.core) = newC its z) (hj : j = its.length) : its'.map It.core = newC its z := by
  rw [hj, List.drop_eq_nil_of_le (by rw [ordE_len]; exact Nat.le_refl _)] at h
  exact h
/-- a slice's first bytes, and the others -/
theorem opt_block {A : Option Addr} {c n b : Nat} (h : ∀ a, A = some a → a.block < b) : ∀ a, (if c = n then A else A.map (·.add n)) = some a → a.block < b := by
  intro a ha
  by_cases e : c = n
  · rw [if_pos e] at ha; exact h a ha
  · rw [if_neg e] at ha
    cases A with
    | none => cases ha
    | some x =>
      simp at ha
      have := h x rfl
      rw [← ha]
      unfold Addr.add
      split <;> exact this
theorem opt_none {A : Option Addr} {c n : Nat} {rest : List UInt8} (h : A = none → rest = [] ∧ c = 0) : (if c = n then A else A.map (·.add n)) = none → rest.drop n = [] ∧ c - n = 0 := by
  intro ha
  have : A = none := by
    by_cases e : c = n
    · rw [if_pos e] at ha; exact ha
    · rw [if_neg e] at ha
      cases A with
      | none => rfl
      | some x => simp at ha
  obtain ⟨h1, h2⟩ := h this
  rw [h1, h2]
  exact ⟨by simp, by omega⟩

/-- the other plan -/
structure NewP (p : Pl) (z : Int) (q : Pl) : Prop where
  a1 : q.a1 = p.a1
  a2 : q.a2 = p.a2
  a3 : q.a3 = p.a3
  its : q.its.map It.core = newC p.its z
  ws : q.ws.l = p.ws.l
  gs : q.gs.l = p.gs.l
  ss : q.ss.l = p.ss.l

theorem newP_ok {WF : World} {lo n c1 : Nat} {A1 : Option Addr} {its' : List It} {a1 a2 a3 : Int} (hQ : QIts WF lo (.slice A1 n c1) its') (hlen : its'.length = n) (ws gs ss : Nums) (h2 : ws.Ok WF) (h3 : gs.Ok WF) (h4 : ss.Ok WF) (w1 : IntKind.u32.wrap a1 = a1) (w2 : IntKind.u8.wrap a2 = a2) (w3 : IntKind.u8.wrap a3 = a3) :
    Pl.Ok WF ⟨a1, a2, a3, its', A1, c1, ws, gs, ss⟩ := by
  obtain ⟨Bq, cq, hv, k1, k2, k3, _⟩ := hQ.its
  injection hv with e1 e2 e3
  subst e1 e3
  exact ⟨k3, k1, k2, h2, h3, h4, w1, w2, w3⟩

end Go.Proofs.YtbflcikfaoojmaaDoor.Edit

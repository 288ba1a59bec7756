/- Texts joined: PlE; PlG. -/
import Derived.Test.YtbflcikfaoojmaaDoorGS3
import Derived.Test.YtbflcikfaoojmaaDoorGT4
/- The items' order is a permutation: plain. -/
set_option linter.unusedVariables false
set_option linter.unusedSimpArgs false
namespace Go.Proofs.YtbflcikfaoojmaaDoor.Edit
open Go.RowKit Go.Lib Go.Shelf ChangeShapes Mem Utf UtfP

section
variable (key : Int → Int)
theorem mrg_perm : ∀ (k : Nat) (l r : List Int), l.length + r.length ≤ k → (mrg key l r).Perm (l ++ r) := by
  intro k
  induction k with
  | zero =>
    intro l r h
    obtain rfl := List.eq_nil_of_length_eq_zero (show l.length = 0 by omega)
    rw [nil_mrg]; exact List.Perm.refl _
  | succ k ih =>
    intro l r h
    cases l with
    | nil => rw [nil_mrg]; exact List.Perm.refl _
    | cons x l =>
      cases r with
      | nil => rw [mrg_nil, List.append_nil]
      | cons y r =>
        by_cases hh : key y < key x
        · rw [mrg_lt key l r hh]
          have := ih (x :: l) r (by simp at h ⊢; omega)
          exact (List.Perm.cons y this).trans (List.perm_middle.symm)
        · rw [mrg_ge key l r hh]
          exact List.Perm.cons x (ih l (y :: r) (by simp at h ⊢; omega))
theorem srtE_perm : ∀ xs : List Int, (srtE key xs).Perm xs := by
  refine snoc_ind (List.Perm.refl _) ?_
  intro xs x ih
  rw [srt_append, srtE_one]
  exact (mrg_perm key _ _ _ (Nat.le_refl _)).trans (List.Perm.append_right _ ih)
end

theorem ordE_perm (its : List It) : (ordE its).Perm ((List.range its.length).map fun (i : Nat) => (i : Int)) := srtE_perm _ _
theorem ordE_nodup (its : List It) : (ordE its).Nodup := by
  rw [(ordE_perm its).nodup_iff]
  unfold List.Nodup
  rw [List.pairwise_map]
  refine List.Pairwise.imp (fun {a b} (h : a ≠ b) => ?_) (List.nodup_range (n := its.length))
  intro (e : (a : Int) = (b : Int))
  exact h (by omega)
theorem perm_sum {l m : List Nat} (h : l.Perm m) : l.sum = m.sum := by
  induction h with
  | nil => rfl
  | cons x _ ih => rw [List.sum_cons, List.sum_cons, ih]
  | swap x y l => simp only [List.sum_cons]; omega
  | trans _ _ ih1 ih2 => exact ih1.trans ih2
theorem range_dat (its : List It) : ((List.range its.length).map fun (i : Nat) => (i : Int)).map (fun i => (dat its i).length) = its.map fun x => x.l.length := by
  apply List.ext_getElem?
  intro j
  rw [List.map_map, List.getElem?_map, List.getElem?_map]
  by_cases h : j < its.length
  · rw [List.getElem?_range h, List.getElem?_eq_getElem h]
    show some ((dat its (j : Int)).length) = some ((its[j]).l.length)
    rw [dat_of (List.getElem?_eq_getElem h)]
  · rw [List.getElem?_eq_none (by simp; omega), List.getElem?_eq_none (by omega)]
    rfl
theorem allE_len (its : List It) : (allE its).length = (its.map fun x => x.l.length).sum := by
  unfold allE
  rw [List.length_flatMap]
  have h := perm_sum ((ordE_perm its).map (fun i => (dat its i).length))
  rw [range_dat] at h
  exact h
/-- how many, and how many bytes -/
def szI (its : List It) : Nat := (its.map fun x => 1 + x.l.length).sum
theorem szI_split (its : List It) : szI its = its.length + (its.map fun x => x.l.length).sum := by
  unfold szI
  induction its with
  | nil => rfl
  | cons x r ih => simp only [List.map_cons, List.sum_cons, List.length_cons, ih]; omega
theorem szI_mem {its : List It} {x : It} (h : x ∈ its) : x.l.length ≤ szI its := by
  unfold szI
  induction its with
  | nil => cases h
  | cons y r ih =>
    simp only [List.map_cons, List.sum_cons]
    rcases List.mem_cons.1 h with rfl | h
    · omega
    · have := ih h; omega
theorem allE_le (its : List It) : (allE its).length ≤ szI its := by rw [allE_len, szI_split]; omega
theorem szI_take {its : List It} {j : Nat} {x : It} (h : its[j]? = some x) : szI (its.take (j + 1)) = szI (its.take j) + (1 + x.l.length) := by
  unfold szI
  rw [List.take_add_one, h, List.map_append, List.sum_append]
  simp

end Go.Proofs.YtbflcikfaoojmaaDoor.Edit

/- whispererlaw16.Great. -/
set_option linter.unusedVariables false
set_option linter.unusedSimpArgs false
namespace Go.Proofs.YtbflcikfaoojmaaDoor.Edit
open Go.RowKit Go.Lib Go.Shelf ChangeShapes Mem Utf UtfP

attribute [local go_sem] run_store_float

/-- a plan's lists are of a size that can be -/
structure Pl.Fits (p : Pl) : Prop where
  its : p.its.length ≤ 140737488355328
  ws : p.ws.l.length ≤ 140737488355328
  gs : p.gs.l.length ≤ 140737488355328
  ss : p.ss.l.length ≤ 140737488355328
  l : ∀ x ∈ p.its, x.l.length ≤ 140737488355328
/-- all that is counted -/
def Pl.sz (p : Pl) : Nat := p.ws.l.length + p.gs.l.length + p.ss.l.length + szI p.its
def Pl.small (p : Pl) : Prop := p.its.length ≤ 300 ∧ p.sz ≤ 4000

theorem szI_bd {its : List It} (h : ∀ x ∈ its, x.l.length ≤ 140737488355328) : szI its ≤ its.length * 140737488355329 := by
  unfold szI
  induction its with
  | nil => exact Nat.le_refl _
  | cons x r ih =>
    have h1 := h x (by simp)
    have h2 := ih (fun y hy => h y (by simp [hy]))
    simp only [List.map_cons, List.sum_cons, List.length_cons]
    omega

set_option maxRecDepth 100000 in
set_option maxHeartbeats 4000000 in
theorem great_big (p : Pl) (w : World) (h : p.Ok w) (hf : p.Fits) (hn : 300 < p.its.length) : Calls Tryd.prog 13 #[p.v] w fun e w' => e = .returned (.int .i64 1) ∧ Below w.heap.size w w' := by
  obtain ⟨W0, hW0⟩ : ∃ W0, w.alloc (.cells p.cs 35) = W0 := ⟨_, rfl⟩
  have hb0 : Below w.heap.size w W0 := by rw [← hW0]; exact (Below.refl _ w).alloc (Nat.le_refl _) _
  have hp0 : Blk W0 w.heap.size p.cs 35 := by rw [← hW0]; exact Blk.new _ _ _
  have hs0 : W0.heap.size = w.heap.size + 1 := by rw [← hW0]; simp
  have H := Lib.hid h
  have HP := Lib.hid hp0
  have HB0 := Lib.hid hb0
  have HF := Lib.hid hf
  have c3 : W0.cell? ⟨w.heap.size, 3, none⟩ = some (.slice p.B p.its.length p.cap) := hp0.cell rfl
  have c4 : W0.cell? ⟨w.heap.size, 4, none⟩ = some (.slice p.ws.A p.ws.l.length p.ws.cap) := hp0.cell rfl
  have c5 : W0.cell? ⟨w.heap.size, 5, none⟩ = some (.slice p.gs.A p.gs.l.length p.gs.cap) := hp0.cell rfl
  have c6 : W0.cell? ⟨w.heap.size, 6, none⟩ = some (.slice p.ss.A p.ss.l.length p.ss.cap) := hp0.cell rfl
  have n1 : decide ((300 : Int) < (p.its.length : Int)) = true := by simp; omega
  have n2 : 300 < p.its.length := hn
  clear h hb0 hp0 hf hn
  unfold Pl.v
  unfold Pl.cs at hW0 ⊢
  go_enter Tryd.func13, Tryd.ntmps13
  go_wp2
  (try rw [hW0])
  clear hW0
  go_loopw [3, 20] (fun s i wr => (∃ z : Int, s = .int .i64 z) ∧ ∃ j : Nat, i = .int .i64 (j : Int) ∧ j ≤ p.its.length ∧ Hid (Below W0.heap.size W0 wr)) (fun _ i _ => p.its.length - (RowKit.intOf i).toNat)
  case atStart => exact ⟨⟨_, rfl⟩, 0, rfl, by omega, Below.refl _ _⟩
  case round =>
    obtain ⟨⟨z, rfl⟩, j, rfl, hj, HB⟩ := hrel
    have hs := HB.out.size
    have c3' := (HB.out.cell (p := ⟨w.heap.size, 3, none⟩) HP.out.lt).trans c3
    clear c3 c4 c5 c6
    by_cases hlt : j < p.its.length
    · obtain ⟨x, hx⟩ : ∃ x, p.its[j]? = some x := ⟨_, List.getElem?_eq_getElem hlt⟩
      obtain ⟨b, off, hb, hbl, d0, d1, d2, d3⟩ := (H.out.its.below HB0.out).at hx
      have hbl' : b < W0.heap.size := hbl
      replace d0 := (HB.out.cell (p := ⟨b, off + j * 4, none⟩) hbl').trans d0
      replace d1 := (HB.out.cell (p := ⟨b, off + j * 4 + 1, none⟩) hbl').trans d1
      replace d2 := (HB.out.cell (p := ⟨b, off + j * 4 + 2, none⟩) hbl').trans d2
      replace d3 := (HB.out.cell (p := ⟨b, off + j * 4 + 3, none⟩) hbl').trans d3
      have q1 : (j : Int) < (p.its.length : Int) := by omega
      obtain ⟨t, k, n, l, A, cap⟩ := x
      dsimp only at d0 d1 d2 d3
      rw [hb] at c3'
      rw [hb]
      have hll := HF.out.l _ (List.mem_of_getElem? hx)
      dsimp only at hll
      have s1 : IntKind.i64.wrap (1 + (l.length : Int)) = 1 + (l.length : Int) := IntWalk.i64_in _ (by omega)
      have hfi := HF.out.its
      clear hx hb
      go_wp2_with fail
      go_roundw
      case rel => exact ⟨⟨_, rfl⟩, j + 1, by go_num, by omega, HB.out.alloc hs _⟩
      case measure => simp [RowKit.intOf]; omega
    · have q1 : ¬ (j : Int) < (p.its.length : Int) := by omega
      go_wp2_with fail
      go_ret
      exact ⟨rfl, HB0.out.trans (HB.out.mono (by omega))⟩

set_option maxRecDepth 100000 in
set_option maxHeartbeats 4000000 in
theorem great_less (p : Pl) (w : World) (h : p.Ok w) (hf : p.Fits) (hn : p.its.length ≤ 300) (g : Int) (hg : (p.sz ≤ 4000 ∧ g = 0) ∨ (4000 < p.sz ∧ g = 1)) : Calls Tryd.prog 13 #[p.v] w fun e w' => e = .returned (.int .i64 g) ∧ Below w.heap.size w w' := by
  obtain ⟨W0, hW0⟩ : ∃ W0, w.alloc (.cells p.cs 35) = W0 := ⟨_, rfl⟩
  have hb0 : Below w.heap.size w W0 := by rw [← hW0]; exact (Below.refl _ w).alloc (Nat.le_refl _) _
  have hp0 : Blk W0 w.heap.size p.cs 35 := by rw [← hW0]; exact Blk.new _ _ _
  have hs0 : W0.heap.size = w.heap.size + 1 := by rw [← hW0]; simp
  have H := Lib.hid h
  have HP := Lib.hid hp0
  have HB0 := Lib.hid hb0
  have HF := Lib.hid hf
  have HG := Lib.hid hg
  have c3 : W0.cell? ⟨w.heap.size, 3, none⟩ = some (.slice p.B p.its.length p.cap) := hp0.cell rfl
  have c4 : W0.cell? ⟨w.heap.size, 4, none⟩ = some (.slice p.ws.A p.ws.l.length p.ws.cap) := hp0.cell rfl
  have c5 : W0.cell? ⟨w.heap.size, 5, none⟩ = some (.slice p.gs.A p.gs.l.length p.gs.cap) := hp0.cell rfl
  have c6 : W0.cell? ⟨w.heap.size, 6, none⟩ = some (.slice p.ss.A p.ss.l.length p.ss.cap) := hp0.cell rfl
  have n1 : decide ((300 : Int) < (p.its.length : Int)) = false := by simp; omega
  have n2 : ¬ 300 < p.its.length := by omega
  have hw1 := hf.ws
  have hw2 := hf.gs
  have hw3 := hf.ss
  obtain ⟨k1, hk1⟩ : ∃ k1, p.ws.l.length + p.gs.l.length = k1 := ⟨_, rfl⟩
  obtain ⟨k2, hk2⟩ : ∃ k2, p.ws.l.length + p.gs.l.length + p.ss.l.length = k2 := ⟨_, rfl⟩
  have s1 : IntKind.i64.wrap ((p.ws.l.length : Int) + (p.gs.l.length : Int)) = (k1 : Int) := by rw [IntWalk.i64_in _ (by omega)]; omega
  have s2 : IntKind.i64.wrap ((k1 : Int) + (p.ss.l.length : Int)) = (k2 : Int) := by rw [IntWalk.i64_in _ (by omega)]; omega
  have hsz : p.sz = k2 + szI p.its := by unfold Pl.sz; rw [hk2]
  rw [hsz] at HG
  have hk2b : k2 ≤ 422212465065984 := by omega
  clear h hb0 hp0 hf hg hk1 hk2 hw1 hw2 hw3 hsz
  unfold Pl.v
  unfold Pl.cs at hW0 ⊢
  go_enter Tryd.func13, Tryd.ntmps13
  go_wp2
  (try rw [hW0])
  clear hW0 s1 s2
  go_loopw [3, 20] (fun s i wr => ∃ j : Nat, s = .int .i64 ((k2 + szI (p.its.take j) : Nat) : Int) ∧ i = .int .i64 (j : Int) ∧ j ≤ p.its.length ∧ Hid (Below W0.heap.size W0 wr)) (fun _ i _ => p.its.length - (RowKit.intOf i).toNat)
  case atStart => exact ⟨0, rfl, rfl, by omega, Below.refl _ _⟩
  case round =>
    obtain ⟨j, rfl, rfl, hj, HB⟩ := hrel
    have hs := HB.out.size
    have c3' := (HB.out.cell (p := ⟨w.heap.size, 3, none⟩) HP.out.lt).trans c3
    clear c3 c4 c5 c6
    by_cases hlt : j < p.its.length
    · obtain ⟨x, hx⟩ : ∃ x, p.its[j]? = some x := ⟨_, List.getElem?_eq_getElem hlt⟩
      obtain ⟨b, off, hb, hbl, d0, d1, d2, d3⟩ := (H.out.its.below HB0.out).at hx
      have hbl' : b < W0.heap.size := hbl
      replace d0 := (HB.out.cell (p := ⟨b, off + j * 4, none⟩) hbl').trans d0
      replace d1 := (HB.out.cell (p := ⟨b, off + j * 4 + 1, none⟩) hbl').trans d1
      replace d2 := (HB.out.cell (p := ⟨b, off + j * 4 + 2, none⟩) hbl').trans d2
      replace d3 := (HB.out.cell (p := ⟨b, off + j * 4 + 3, none⟩) hbl').trans d3
      have q1 : (j : Int) < (p.its.length : Int) := by omega
      have HT := Lib.hid (szI_take hx)
      have hbd := szI_bd (its := p.its.take j) (fun y hy => HF.out.l y (List.mem_of_mem_take hy))
      rw [List.length_take] at hbd
      obtain ⟨t, k, n, l, A, cap⟩ := x
      dsimp only at d0 d1 d2 d3 HT
      rw [hb] at c3'
      rw [hb]
      have hll := HF.out.l _ (List.mem_of_getElem? hx)
      dsimp only at hll
      obtain ⟨u, hu⟩ : ∃ u, k2 + szI (p.its.take j) = u := ⟨_, rfl⟩
      rw [hu]
      have hub : u ≤ 84442493013196800 := by omega
      have s1 : IntKind.i64.wrap (1 + (l.length : Int)) = 1 + (l.length : Int) := IntWalk.i64_in _ (by omega)
      have s2 : IntKind.i64.wrap ((u : Int) + (1 + (l.length : Int))) = ((u + (1 + l.length) : Nat) : Int) := by rw [IntWalk.i64_in _ (by omega)]; omega
      have HU := Lib.hid hu
      clear hx hb hu hbd
      go_wp2_with fail
      go_roundw
      case rel => exact ⟨j + 1, by rw [HT.out, ← Nat.add_assoc, HU.out]; go_num, by go_num, by omega, HB.out.alloc hs _⟩
      case measure => simp [RowKit.intOf]; omega
    · have hje : j = p.its.length := by omega
      have q1 : ¬ (j : Int) < (p.its.length : Int) := by omega
      rw [hje, List.take_length]
      obtain ⟨u, hu⟩ : ∃ u, k2 + szI p.its = u := ⟨_, rfl⟩
      rw [hu] at HG ⊢
      clear hje hu hlt
      rcases HG.out with ⟨hg, rfl⟩ | ⟨hg, rfl⟩
      · have n3 : decide ((4000 : Int) < (u : Int)) = false := by simp; omega
        have n4 : ¬ 4000 < u := by omega
        go_wp2_with fail
        go_ret
        exact ⟨rfl, HB0.out.trans (HB.out.mono (by omega))⟩
      · have n3 : decide ((4000 : Int) < (u : Int)) = true := by simp; omega
        go_wp2_with fail
        go_ret
        exact ⟨rfl, HB0.out.trans (HB.out.mono (by omega))⟩

end Go.Proofs.YtbflcikfaoojmaaDoor.Edit

/- What may be wrong with a plan: world.Check and whispererref16.Check. -/
import Derived.Test.YtbflcikfaoojmaaDoorGS2
import Derived.Test.YtbflcikfaoojmaaDoorGT4
set_option linter.unusedVariables false
set_option linter.unusedSimpArgs false
namespace Go.Proofs.YtbflcikfaoojmaaDoor.Edit
open Go.RowKit Go.Lib Go.Shelf ChangeShapes Mem Utf UtfP

attribute [local go_sem] run_store_float

/-- what is wrong with an item -/
def chk1 (x : It) : Int := if x.k < 0 ∨ 2 < x.k then 9 else if (x.k ≠ 0 ∧ x.l ≠ []) ∨ (x.k ≠ 1 ∧ x.n ≠ 0) then 2 else if x.n < 0 then 3 else 0
def chkE : List It → Int
  | [] => 0
  | x :: r => if chk1 x = 0 then chkE r else chk1 x
theorem chk_drop {its : List It} {j : Nat} {x : It} (h : its[j]? = some x) : chkE (its.drop j) = if chk1 x = 0 then chkE (its.drop (j + 1)) else chk1 x := by
  have hl := (List.getElem?_eq_some_iff.1 h).1
  rw [List.drop_eq_getElem_cons hl, (List.getElem?_eq_some_iff.1 h).2]
  rfl
theorem chk_end (its : List It) : chkE (its.drop its.length) = 0 := by rw [List.drop_length]; rfl
theorem chk1_case (x : It) : (x.k < 0 ∧ chk1 x = 9) ∨ (2 < x.k ∧ chk1 x = 9) ∨
    (x.k = 0 ∧ x.n ≠ 0 ∧ chk1 x = 2) ∨ (x.k = 0 ∧ x.n = 0 ∧ chk1 x = 0) ∨
    (x.k = 1 ∧ x.l ≠ [] ∧ chk1 x = 2) ∨ (x.k = 1 ∧ x.l = [] ∧ x.n < 0 ∧ chk1 x = 3) ∨ (x.k = 1 ∧ x.l = [] ∧ 0 ≤ x.n ∧ chk1 x = 0) ∨
    (x.k = 2 ∧ x.l ≠ [] ∧ chk1 x = 2) ∨ (x.k = 2 ∧ x.l = [] ∧ x.n ≠ 0 ∧ chk1 x = 2) ∨ (x.k = 2 ∧ x.l = [] ∧ x.n = 0 ∧ chk1 x = 0) := by
  obtain ⟨t, k, n, l, A, cap⟩ := x
  unfold chk1
  dsimp only
  by_cases h1 : k < 0
  · left; exact ⟨h1, if_pos (.inl h1)⟩
  right
  by_cases h2 : 2 < k
  · left; exact ⟨h2, if_pos (.inr h2)⟩
  right
  rw [if_neg (by omega)]
  obtain rfl | rfl | rfl : k = 0 ∨ k = 1 ∨ k = 2 := by omega
  · by_cases hn : n = 0
    · subst hn; right; left; simp
    · left; exact ⟨rfl, hn, if_pos (.inr ⟨by decide, hn⟩)⟩
  · by_cases hl : l = []
    · subst hl
      by_cases hn : n < 0
      · right; right; right; left; refine ⟨rfl, rfl, hn, ?_⟩; rw [if_neg (by simp), if_pos hn]
      · right; right; right; right; left; refine ⟨rfl, rfl, by omega, ?_⟩; rw [if_neg (by simp), if_neg hn]
    · right; right; left; exact ⟨rfl, hl, if_pos (.inl ⟨by decide, hl⟩)⟩
  · by_cases hl : l = []
    · subst hl
      by_cases hn : n = 0
      · subst hn; right; right; right; right; right; right; right; refine ⟨rfl, rfl, rfl, ?_⟩; simp
      · right; right; right; right; right; right; left; refine ⟨rfl, rfl, hn, if_pos (.inr ⟨by decide, hn⟩)⟩
    · right; right; right; right; right; left; exact ⟨rfl, hl, if_pos (.inl ⟨by decide, hl⟩)⟩

set_option maxRecDepth 100000 in
set_option maxHeartbeats 4000000 in
theorem check_c (p : Pl) (w : World) (h : p.Ok w) (hn : p.its.length ≤ 300) : Calls Tryd.prog 30 #[p.v] w fun e w' => e = .returned (.int .i64 (chkE p.its)) ∧ Below w.heap.size w w' := by
  obtain ⟨W0, hW0⟩ : ∃ W0, w.alloc (.cells p.cs 35) = W0 := ⟨_, rfl⟩
  have hb0 : Below w.heap.size w W0 := by rw [← hW0]; exact (Below.refl _ w).alloc (Nat.le_refl _) _
  have hp0 : Blk W0 w.heap.size p.cs 35 := by rw [← hW0]; exact Blk.new _ _ _
  have hs0 : W0.heap.size = w.heap.size + 1 := by rw [← hW0]; simp
  have H := Lib.hid h
  have HP := Lib.hid hp0
  have HB0 := Lib.hid hb0
  have c3 : W0.cell? ⟨w.heap.size, 3, none⟩ = some (.slice p.B p.its.length p.cap) := hp0.cell rfl
  have n1 : ¬ (4096 : Int) < (p.its.length : Int) := by omega
  clear h hb0 hp0
  unfold Pl.v
  unfold Pl.cs at hW0 ⊢
  go_enter Tryd.func30, Tryd.ntmps30
  go_wp2
  (try rw [hW0])
  clear hW0
  go_loopw [12] (fun i wr => ∃ j : Nat, i = .int .i64 (j : Int) ∧ j ≤ p.its.length ∧ Hid (chkE (p.its.drop j) = chkE p.its) ∧ Hid (Below W0.heap.size W0 wr)) (fun i _ => p.its.length - (RowKit.intOf i).toNat)
  case atStart => exact ⟨0, rfl, by omega, rfl, Below.refl _ _⟩
  case round =>
    obtain ⟨j, rfl, hj, HC, HB⟩ := hrel
    have c3' := (HB.out.cell (p := ⟨w.heap.size, 3, none⟩) HP.out.lt).trans c3
    clear c3
    by_cases hlt : j < p.its.length
    · obtain ⟨x, hx⟩ : ∃ x, p.its[j]? = some x := ⟨_, List.getElem?_eq_getElem hlt⟩
      obtain ⟨b, off, hb, hbl, d0, d1, d2, d3⟩ := (H.out.its.below HB0.out).at hx
      have hbl' : b < W0.heap.size := hbl
      replace d0 := (HB.out.cell (p := ⟨b, off + j * 4, none⟩) hbl').trans d0
      replace d1 := (HB.out.cell (p := ⟨b, off + j * 4 + 1, none⟩) hbl').trans d1
      replace d2 := (HB.out.cell (p := ⟨b, off + j * 4 + 2, none⟩) hbl').trans d2
      replace d3 := (HB.out.cell (p := ⟨b, off + j * 4 + 3, none⟩) hbl').trans d3
      have hd := chk_drop hx
      rw [HC.out] at hd
      have HD := Lib.hid hd
      have hs := HB.out.size
      have q1 : (j : Int) < (p.its.length : Int) := by omega
      obtain ⟨t, k, n, l, A, cap⟩ := x
      dsimp only at d0 d1 d2 d3
      have hcs := chk1_case ⟨t, k, n, l, A, cap⟩
      dsimp only at hcs
      rw [hb] at c3'
      rw [hb]
      clear hx hd hb
      rcases hcs with ⟨h1, hr⟩ | ⟨h1, hr⟩ | ⟨rfl, h2, hr⟩ | ⟨rfl, rfl, hr⟩ | ⟨rfl, h2, hr⟩ | ⟨rfl, rfl, h3, hr⟩ | ⟨rfl, rfl, h3, hr⟩ | ⟨rfl, h2, hr⟩ | ⟨rfl, rfl, h3, hr⟩ | ⟨rfl, rfl, rfl, hr⟩
      all_goals
        rw [hr] at HD
        clear hr
      all_goals (try have hl0 : ((l.length : Int) == 0) = false := by (have := List.length_pos_iff.2 h2; simp; omega))
      all_goals (try have hl1 : (0 : Int) < (l.length : Int) := by (have := List.length_pos_iff.2 h2; omega))
      all_goals (try have hl2 : 0 < l.length := List.length_pos_iff.2 h2)
      all_goals (try have hn0 : (n == 0) = false := by simpa using h2)
      all_goals (try have hn0 : (n == 0) = false := by simpa using h3)
      all_goals (try have hn1 : ¬ n < 0 := by omega)
      all_goals (try have hk0 : ¬ k < 0 := by omega)
      all_goals (try have hnd : decide (n < 0) = true := by simp; omega)
      all_goals (try have hnd : decide (n < 0) = false := by simp; omega)
      all_goals (try clear h2)
      all_goals go_wp2_with fail
      all_goals first
        | (go_ret; exact ⟨by rw [HD.out]; rfl, HB0.out.trans ((HB.out.alloc hs _).mono (by omega))⟩)
        | (go_roundw
           case rel => exact ⟨j + 1, by go_num, by omega, HD.out.symm, HB.out.alloc hs _⟩
           case measure => simp [RowKit.intOf]; omega)
    · have hje : j = p.its.length := by omega
      have q1 : ¬ (j : Int) < (p.its.length : Int) := by omega
      have HE : Hid (chkE p.its = 0) := by
        have := HC.out
        rw [hje, chk_end] at this
        exact this.symm
      clear hje HC
      go_wp2_with fail
      go_ret
      exact ⟨by rw [HE.out]; rfl, HB0.out.trans (HB.out.mono (by omega))⟩

set_option maxRecDepth 100000 in
set_option maxHeartbeats 4000000 in
theorem rcheck_c (p : Pl) (w : World) (h : p.Ok w) (hn : p.its.length ≤ 300) : Calls Tryd.prog 17 #[p.v] w fun e w' => e = .returned (.int .i64 (chkE p.its)) ∧ Below w.heap.size w w' := by
  obtain ⟨W0, hW0⟩ : ∃ W0, w.alloc (.cells p.cs 35) = W0 := ⟨_, rfl⟩
  have hb0 : Below w.heap.size w W0 := by rw [← hW0]; exact (Below.refl _ w).alloc (Nat.le_refl _) _
  have hp0 : Blk W0 w.heap.size p.cs 35 := by rw [← hW0]; exact Blk.new _ _ _
  have hs0 : W0.heap.size = w.heap.size + 1 := by rw [← hW0]; simp
  have H := Lib.hid h
  have HP := Lib.hid hp0
  have HB0 := Lib.hid hb0
  have c3 : W0.cell? ⟨w.heap.size, 3, none⟩ = some (.slice p.B p.its.length p.cap) := hp0.cell rfl
  have n1 : ¬ (4096 : Int) < (p.its.length : Int) := by omega
  clear h hb0 hp0
  unfold Pl.v
  unfold Pl.cs at hW0 ⊢
  go_enter Tryd.func17, Tryd.ntmps17
  go_wp2
  (try rw [hW0])
  clear hW0
  go_loopw [3] (fun i wr => ∃ j : Nat, i = .int .i64 (j : Int) ∧ j ≤ p.its.length ∧ Hid (chkE (p.its.drop j) = chkE p.its) ∧ Hid (Below W0.heap.size W0 wr)) (fun i _ => p.its.length - (RowKit.intOf i).toNat)
  case atStart => exact ⟨0, rfl, by omega, rfl, Below.refl _ _⟩
  case round =>
    obtain ⟨j, rfl, hj, HC, HB⟩ := hrel
    have c3' := (HB.out.cell (p := ⟨w.heap.size, 3, none⟩) HP.out.lt).trans c3
    clear c3
    by_cases hlt : j < p.its.length
    · obtain ⟨x, hx⟩ : ∃ x, p.its[j]? = some x := ⟨_, List.getElem?_eq_getElem hlt⟩
      obtain ⟨b, off, hb, hbl, d0, d1, d2, d3⟩ := (H.out.its.below HB0.out).at hx
      have hbl' : b < W0.heap.size := hbl
      replace d0 := (HB.out.cell (p := ⟨b, off + j * 4, none⟩) hbl').trans d0
      replace d1 := (HB.out.cell (p := ⟨b, off + j * 4 + 1, none⟩) hbl').trans d1
      replace d2 := (HB.out.cell (p := ⟨b, off + j * 4 + 2, none⟩) hbl').trans d2
      replace d3 := (HB.out.cell (p := ⟨b, off + j * 4 + 3, none⟩) hbl').trans d3
      have hd := chk_drop hx
      rw [HC.out] at hd
      have HD := Lib.hid hd
      have hs := HB.out.size
      have q1 : (j : Int) < (p.its.length : Int) := by omega
      obtain ⟨t, k, n, l, A, cap⟩ := x
      dsimp only at d0 d1 d2 d3
      have hcs := chk1_case ⟨t, k, n, l, A, cap⟩
      dsimp only at hcs
      rw [hb] at c3'
      rw [hb]
      clear hx hd hb
      rcases hcs with ⟨h1, hr⟩ | ⟨h1, hr⟩ | ⟨rfl, h2, hr⟩ | ⟨rfl, rfl, hr⟩ | ⟨rfl, h2, hr⟩ | ⟨rfl, rfl, h3, hr⟩ | ⟨rfl, rfl, h3, hr⟩ | ⟨rfl, h2, hr⟩ | ⟨rfl, rfl, h3, hr⟩ | ⟨rfl, rfl, rfl, hr⟩
      all_goals
        rw [hr] at HD
        clear hr
      all_goals (try have hl0 : ((l.length : Int) == 0) = false := by (have := List.length_pos_iff.2 h2; simp; omega))
      all_goals (try have hl1 : (0 : Int) < (l.length : Int) := by (have := List.length_pos_iff.2 h2; omega))
      all_goals (try have hl2 : 0 < l.length := List.length_pos_iff.2 h2)
      all_goals (try have hn0 : (n == 0) = false := by simpa using h2)
      all_goals (try have hn0 : (n == 0) = false := by simpa using h3)
      all_goals (try have hn1 : ¬ n < 0 := by omega)
      all_goals (try have hk0 : ¬ k < 0 := by omega)
      all_goals (try have hnd : decide (n < 0) = true := by simp; omega)
      all_goals (try have hnd : decide (n < 0) = false := by simp; omega)
      all_goals (try clear h2)
      all_goals go_wp2_with fail
      all_goals first
        | (go_ret; exact ⟨by rw [HD.out]; rfl, HB0.out.trans ((HB.out.alloc hs _).mono (by omega))⟩)
        | (go_roundw
           case rel => exact ⟨j + 1, by go_num, by omega, HD.out.symm, HB.out.alloc hs _⟩
           case measure => simp [RowKit.intOf]; omega)
    · have hje : j = p.its.length := by omega
      have q1 : ¬ (j : Int) < (p.its.length : Int) := by omega
      have HE : Hid (chkE p.its = 0) := by
        have := HC.out
        rw [hje, chk_end] at this
        exact this.symm
      clear hje HC
      go_wp2_with fail
      go_ret
      exact ⟨by rw [HE.out]; rfl, HB0.out.trans (HB.out.mono (by omega))⟩

end Go.Proofs.YtbflcikfaoojmaaDoor.Edit

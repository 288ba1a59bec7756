/- Texts joined: Pl5; Pl6. -/
import Derived.Test.YtbflcikfaoojmaaDoorGS2
import Derived.Test.YtbflcikfaoojmaaDoorGT9
/- whispererref02.Compare; whispererref20.order and all. -/
set_option linter.unusedVariables false
set_option linter.unusedSimpArgs false
namespace Go.Proofs.YtbflcikfaoojmaaDoor.Edit
open Go.RowKit Go.Lib Go.Shelf ChangeShapes Mem Utf UtfP

theorem kd6 {a : Nat} : Fl.kd a = 6 ↔ Fl.isN a = true := by
  unfold Fl.kd
  constructor
  · intro h
    by_cases hn : Fl.isN a = true
    · exact hn
    · rw [if_neg hn] at h
      (repeat' split at h) <;> cases h
  · intro h; rw [if_pos h]

/-- what the two numbers' comparing comes to -/
theorem rcmp_case (a b : Nat) (ha : a < 18446744073709551616) (hb : b < 18446744073709551616) :
    ((Fl.kd a : Int) < (Fl.kd b : Int) ∧ cv (Fl.mkey a) (Fl.mkey b) = -1) ∨ ((Fl.kd b : Int) < (Fl.kd a : Int) ∧ cv (Fl.mkey a) (Fl.mkey b) = 1) ∨
    ((Fl.kd a : Int) = 6 ∧ (Fl.kd b : Int) = 6 ∧ cv (Fl.mkey a) (Fl.mkey b) = 0) ∨
    ((Fl.kd a : Int) = (Fl.kd b : Int) ∧ (Fl.kd b : Int) ≠ 6 ∧ ((FloatKind.f64.format.order a b = some .lt ∧ cv (Fl.mkey a) (Fl.mkey b) = -1) ∨ (FloatKind.f64.format.order a b = some .gt ∧ cv (Fl.mkey a) (Fl.mkey b) = 1) ∨ (FloatKind.f64.format.order a b = some .eq ∧ cv (Fl.mkey a) (Fl.mkey b) = 0))) := by
  have h1 := Fl.kd_key ha hb
  have h2 := Fl.kd_key hb ha
  have c1 : Fl.mkey a < Fl.mkey b → cv (Fl.mkey a) (Fl.mkey b) = -1 := fun h => by unfold cv; rw [if_pos (by omega)]
  have c2 : Fl.mkey b < Fl.mkey a → cv (Fl.mkey a) (Fl.mkey b) = 1 := fun h => by unfold cv; rw [if_neg (by omega), if_pos (by omega)]
  have c3 : ¬ Fl.mkey a < Fl.mkey b → ¬ Fl.mkey b < Fl.mkey a → cv (Fl.mkey a) (Fl.mkey b) = 0 := fun h h' => by unfold cv; rw [if_neg (by omega), if_neg (by omega)]
  by_cases k1 : Fl.kd a < Fl.kd b
  · exact .inl ⟨by omega, c1 (h1.1 (.inl k1))⟩
  by_cases k2 : Fl.kd b < Fl.kd a
  · exact .inr (.inl ⟨by omega, c2 (h2.1 (.inl k2))⟩)
  have ke : Fl.kd a = Fl.kd b := by omega
  by_cases k6 : Fl.kd a = 6
  · refine .inr (.inr (.inl ⟨by omega, by omega, c3 (fun h => ?_) (fun h => ?_)⟩))
    · rcases h1.2 h with h | ⟨_, h, _⟩
      · exact k1 h
      · exact h k6
    · rcases h2.2 h with h | ⟨_, h, _⟩
      · exact k2 h
      · exact h (by omega)
  · refine .inr (.inr (.inr ⟨by omega, by omega, ?_⟩))
    have na : Fl.isN a = false := by cases h : Fl.isN a with | false => rfl | true => exact absurd (kd6.2 h) k6
    have nb : Fl.isN b = false := by cases h : Fl.isN b with | false => rfl | true => exact absurd (kd6.2 h) (by omega)
    have o1 := Fl.lt_iff ha hb na nb
    have o2 := Fl.gt_iff ha hb na nb
    have ho := Fl.order_of ha hb na nb
    have hfo : FloatKind.f64.format.order a b = Ieee.double.order a b := rfl
    rw [hfo]
    rw [ho] at o1 o2 ⊢
    cases hc : compare (Fl.sv a) (Fl.sv b)
    · rw [hc] at o1
      have hs : Fl.sr a < Fl.sr b := by simpa using o1
      exact .inl ⟨rfl, c1 (h1.1 (.inr ⟨ke, k6, hs⟩))⟩
    · rw [hc] at o1 o2
      have hs1 : ¬ Fl.sr a < Fl.sr b := by simpa using o1
      have hs2 : ¬ Fl.sr b < Fl.sr a := by simpa using o2
      refine .inr (.inr ⟨rfl, c3 (fun h => ?_) (fun h => ?_)⟩)
      · rcases h1.2 h with h | ⟨_, _, h⟩
        · exact k1 h
        · exact hs1 h
      · rcases h2.2 h with h | ⟨_, _, h⟩
        · exact k2 h
        · exact hs2 h
    · rw [hc] at o2
      have hs : Fl.sr b < Fl.sr a := by simpa using o2
      exact .inr (.inl ⟨rfl, c2 (h2.1 (.inr ⟨ke.symm, by omega, hs⟩))⟩)

set_option maxRecDepth 100000 in
set_option maxHeartbeats 2000000 in
theorem rcmp_c (a b : Nat) (ha : a < 18446744073709551616) (hb : b < 18446744073709551616) (w : World) : Calls Tryd.prog 54 #[.float .f64 a, .float .f64 b] w fun e w' => e = .returned (.int .i64 (cv (Fl.mkey a) (Fl.mkey b))) ∧ w' = w := by
  have K1 := fun V => Lib.hid (kind_c a ha V)
  have K2 := fun V => Lib.hid (kind_c b hb V)
  have hcs := rcmp_case a b ha hb
  obtain ⟨u, hu⟩ : ∃ u : Int, (Fl.kd a : Int) = u := ⟨_, rfl⟩
  obtain ⟨v, hv⟩ : ∃ v : Int, (Fl.kd b : Int) = v := ⟨_, rfl⟩
  rw [hu] at K1 hcs
  rw [hv] at K2 hcs
  obtain ⟨r, hr⟩ : ∃ r : Int, cv (Fl.mkey a) (Fl.mkey b) = r := ⟨_, rfl⟩
  rw [hr] at hcs ⊢
  clear hu hv hr ha hb
  go_enter Tryd.func54, Tryd.ntmps54
  go_wp2_with fail
  refine ((K1 _).out).mono ?_
  rintro e w1 ⟨rfl, rfl⟩
  go_wp2_with fail
  refine ((K2 _).out).mono ?_
  rintro e w1 ⟨rfl, rfl⟩
  clear K1 K2
  rcases hcs with ⟨h1, rfl⟩ | ⟨h1, rfl⟩ | ⟨rfl, rfl, rfl⟩ | ⟨rfl, h1, h2⟩
  · go_wp2_with fail
    go_ret
    exact ⟨rfl, rfl⟩
  · have h2 : ¬ u < v := by omega
    have h3 : (u == v) = false := by simp; omega
    go_wp2_with fail
    go_ret
    exact ⟨rfl, rfl⟩
  · go_wp2_with fail
    go_ret
    exact ⟨rfl, rfl⟩
  · have h3 : (u == 6) = false := by simpa using h1
    have h5 : (u != 6) = true := by simpa using h1
    have h4 : ¬ u < u := by omega
    rcases h2 with ⟨ho, rfl⟩ | ⟨ho, rfl⟩ | ⟨ho, rfl⟩
    all_goals
      go_wp2_with fail
      go_ret
      exact ⟨rfl, rfl⟩

end Go.Proofs.YtbflcikfaoojmaaDoor.Edit

/- whispererref20.order. -/
set_option linter.unusedVariables false
set_option linter.unusedSimpArgs false
namespace Go.Proofs.YtbflcikfaoojmaaDoor.Edit
open Go.RowKit Go.Lib Go.Shelf ChangeShapes Mem Utf UtfP

theorem sg_get1 (F : Nat → Int) (n t : Nat) (ht : t < n) : (sg F 0 n)[t]? = some (F t) := by
  unfold sg
  rw [List.getElem?_map, List.getElem?_range (by omega)]
  simp
/-- n numbers at the head of a block of c cells -/
def IRc (w : World) (g n c : Nat) (F : Nat → Int) : Prop := ∃ cur, Blk w g cur 3 ∧ cur.size = c ∧ n ≤ c ∧ ∀ t, t < n → cur[t]? = some (.int .i64 (F t))
theorem IRc.cell {w : World} {g n c : Nat} {F : Nat → Int} (h : IRc w g n c F) {t : Nat} (ht : t < n) : w.cell? ⟨g, t, none⟩ = some (.int .i64 (F t)) := by
  obtain ⟨cur, hb, _, _, hc⟩ := h
  exact hb.cell (hc t ht)
theorem IRc.free {w : World} {g n c : Nat} {F : Nat → Int} (h : IRc w g n c F) (t : Nat) : w.frozen? ⟨g, t, none⟩ = false := by
  obtain ⟨cur, hb, _, _, _⟩ := h
  exact hb.free t
theorem IRc.lt {w : World} {g n c : Nat} {F : Nat → Int} (h : IRc w g n c F) : g < w.heap.size := by
  obtain ⟨cur, hb, _, _, _⟩ := h
  exact hb.lt
theorem IRc.set {w : World} {g n c : Nat} {F : Nat → Int} (h : IRc w g n c F) (j : Nat) (v : Int) : IRc (w.setCell ⟨g, j, none⟩ (.int .i64 v)) g n c (fun t => if t = j then v else F t) := by
  obtain ⟨cur, hb, hs, hn, hc⟩ := h
  refine ⟨_, hb.set j _, by simpa using hs, hn, fun t ht => ?_⟩
  by_cases e : t = j
  · subst e
    rw [Array.getElem?_setIfInBounds_self_of_lt (by omega)]
    show _ = some (Value.int .i64 (if t = t then v else F t))
    rw [if_pos rfl]
  · rw [Array.getElem?_setIfInBounds_ne (fun h => e h.symm), hc t ht]
    show _ = some (Value.int .i64 (if t = j then v else F t))
    rw [if_neg e]
theorem IRc.drew {w : World} {g n c : Nat} {F : Nat → Int} (h : IRc w g n c F) (k : Nat) : IRc (w.drewN k) g n c F := h
theorem IRc.congr {w : World} {g n c : Nat} {F G : Nat → Int} (h : IRc w g n c F) (he : ∀ t, t < n → F t = G t) : IRc w g n c G := by
  obtain ⟨cur, hk, h1, hn, h2⟩ := h
  exact ⟨cur, hk, h1, hn, fun t ht => by rw [h2 t ht, he t ht]⟩
theorem IRc.but {S : List Nat} {w w' : World} {g n c : Nat} {F : Nat → Int} (h : IRc w g n c F) (hb : But S w w') (hs : g ∉ S) : IRc w' g n c F := by
  obtain ⟨cur, hk, h1, h2⟩ := h
  exact ⟨cur, hk.but hb hs, h1, h2⟩
/-- numbers in a row that is owned -/
def OwnI (w : World) (B : Nat) (v : Value) (l : List Int) : Prop := w.ownsRow B 3 1 v l.length (l.map fun i => .int .i64 i)
theorem IRc.own {w : World} {g n c B : Nat} {F : Nat → Int} (h : IRc w g n c F) (hB : B ≤ g) (hc : c ≤ maxLen) : OwnI w B (.slice (some ⟨g, 0, none⟩) n c) (sg F 0 n) := by
  obtain ⟨cur, hk, h1, hn, h2⟩ := h
  have hl := sg_len F 0 n
  rw [Nat.sub_zero] at hl
  refine ⟨by simp, .inr ⟨g, c, cur, by rw [hl], hB, hk, by omega, hc, by omega, ?_⟩⟩
  rw [hl, Nat.mul_one]
  apply List.ext_getElem?
  intro t
  by_cases ht : t < n
  · rw [List.getElem?_take_of_lt ht, Array.getElem?_toList, h2 t ht, List.getElem?_map, sg_get1 F n t ht]
    rfl
  · rw [List.getElem?_eq_none (by simp; omega), List.getElem?_eq_none (by simp; omega)]
theorem OwnI.row {w : World} {B : Nat} {v : Value} {l : List Int} (h : OwnI w B v l) (hl : l ≠ []) : ∃ g c, v = .slice (some ⟨g, 0, none⟩) l.length c ∧ B ≤ g ∧ c ≤ maxLen ∧ IRc w g l.length c (fun t => l.getD t 0) := by
  rcases h.2 with ⟨_, h0⟩ | ⟨g, cap, cur, hv, hB, hg, hn, hm, hs, ht⟩
  · exact absurd (List.eq_nil_of_length_eq_zero h0) hl
  · refine ⟨g, cap, hv, hB, hm, cur, hg, by omega, hn, fun t htl => ?_⟩
    rw [← Array.getElem?_toList, ← List.getElem?_take_of_lt (show t < l.length * 1 by omega), ht, List.getElem?_map, List.getElem?_eq_getElem htl]
    show _ = some (Value.int .i64 (l.getD t 0))
    rw [List.getD_eq_getElem?_getD, List.getElem?_eq_getElem htl]
    rfl
theorem OwnI.nil (w : World) (B : Nat) : OwnI w B (.slice none 0 0) [] := ⟨rfl, .inl ⟨rfl, rfl⟩⟩
theorem OwnI.form {w : World} {B : Nat} {v : Value} {l : List Int} (h : OwnI w B v l) : ∃ A c, v = .slice A l.length c ∧ l.length ≤ c := by
  rcases h.2 with ⟨rfl, h0⟩ | ⟨g, cap, cur, hv, hB, hg, hn, _⟩
  · exact ⟨none, 0, by rw [h0], by omega⟩
  · exact ⟨_, _, hv, hn⟩
theorem OwnI.below {w w' : World} {B : Nat} {v : Value} {l : List Int} (h : OwnI w B v l) (hb : Below w.heap.size w w') : OwnI w' B v l := by
  refine ⟨h.1, ?_⟩
  rcases h.2 with h0 | ⟨g, cap, cur, hv, hB, hg, hr⟩
  · exact .inl h0
  · exact .inr ⟨g, cap, cur, hv, hB, (hb.block g ((Array.getElem?_eq_some_iff.1 hg).1)).trans hg, hr⟩
theorem OwnI.base {w : World} {B B' : Nat} {v : Value} {l : List Int} (h : OwnI w B v l) (hb : B' ≤ B) : OwnI w B' v l := ownsRow_base h hb
theorem OwnI.alloc {w : World} {B : Nat} {v : Value} {l : List Int} (h : OwnI w B v l) (o : Obj) : OwnI (w.alloc o) B v l := h.below ((Below.refl _ w).alloc (Nat.le_refl _) o)

/-- one number more -/
theorem app_own {w1 : World} {B : Nat} {v' : Value} {l : List Int} {x : Int} (h : w1.ownsRow B 3 1 v' (l.length + 1) ((l.map fun i => .int .i64 i) ++ [.int .i64 x])) : ∃ g c N, v' = .slice (some ⟨g, 0, none⟩) N c ∧ Hid (N = l.length + 1) ∧ Hid (OwnI w1 B (.slice (some ⟨g, 0, none⟩) N c) (l ++ [x])) ∧ B ≤ g ∧ c ≤ maxLen ∧ Hid (IRc w1 g N c (fun t => (l ++ [x]).getD t 0)) := by
  have h1 : OwnI w1 B v' (l ++ [x]) := by
    unfold OwnI
    rw [List.length_append, List.map_append]
    exact h
  have hl : (l ++ [x]).length = l.length + 1 := by rw [List.length_append]; rfl
  obtain ⟨g, c, hv, h2, h3, h4⟩ := h1.row (by simp)
  rw [hl] at hv h4
  subst hv
  exact ⟨g, c, l.length + 1, rfl, rfl, h1, h2, h3, h4⟩

/-- the first numbers -/
def iot (n : Nat) : List Int := (List.range n).map fun (i : Nat) => (i : Int)
theorem iot_succ (n : Nat) : iot (n + 1) = iot n ++ [(n : Int)] := by unfold iot; rw [List.range_succ, List.map_append]; rfl
theorem iot_len (n : Nat) : (iot n).length = n := by simp [iot]
theorem sg_getD (l : List Int) {m : Nat} (h : m ≤ l.length) : sg (fun t => l.getD t 0) 0 m = l.take m := by
  apply List.ext_getElem?
  intro t
  by_cases ht : t < m
  · rw [sg_get1 _ _ _ ht, List.getElem?_take_of_lt ht, List.getElem?_eq_getElem (by omega), List.getD_eq_getElem?_getD, List.getElem?_eq_getElem (by omega)]
    rfl
  · rw [List.getElem?_eq_none (by rw [sg_len]; omega), List.getElem?_eq_none (by simp; omega)]

section
variable (key : Int → Int)
/-- as far as the first n numbers are in order -/
def ordP (n : Nat) : List Int := srtE key (iot n)
theorem ordP_len (n : Nat) : (ordP key n).length = n := by unfold ordP; rw [srtE_len, iot_len]
theorem ordP_succ (n : Nat) : ordP key (n + 1) = mrg key (ordP key n) [(n : Int)] := by unfold ordP; rw [iot_succ, srt_append, srtE_one]
theorem ordP_mem {n : Nat} {i : Int} : i ∈ ordP key n ↔ 0 ≤ i ∧ i < (n : Int) := by
  unfold ordP
  rw [srt_mem]
  unfold iot
  simp only [List.mem_map, List.mem_range]
  constructor
  · rintro ⟨j, h, rfl⟩; omega
  · rintro ⟨h1, h2⟩; exact ⟨i.toNat, by omega, by omega⟩
end

theorem below_drews {n : Nat} {w w' : World} (h : Below n w w') (k : Nat) : Below n w (w'.drewN k) := ⟨h.os, h.tape, h.output, h.size, h.block⟩
/-- the inner loop -/
def RQi (key : Int → Int) (W0 : World) (g N c i : Nat) (G : Nat → Int) (s : Value) (wr : World) : Prop :=
  ∃ k : Nat, s = .int .i64 (k : Int) ∧ k ≤ i ∧ Hid (IRc wr g N c (rotR G k i (i + 1))) ∧ Hid (Below W0.heap.size W0 wr) ∧ Hid (∀ t, k ≤ t → t < i → key (G i) < key (G t))

set_option maxRecDepth 100000 in
set_option maxHeartbeats 8000000 in
theorem rorder_c (p : Pl) (w : World) (h : p.Ok w) (hn : p.its.length ≤ 300) : Calls Tryd.prog 40 #[p.v] w fun e w' => ∃ v, e = .returned v ∧ OwnI w' w.heap.size v (ordE p.its) ∧ Below w.heap.size w w' := by
  obtain ⟨i0, hi, hz0, hz1, hz2⟩ := info_parts infoI
  obtain ⟨W0, hW0⟩ : ∃ W0, w.alloc (.cells p.cs 35) = W0 := ⟨_, rfl⟩
  have hb0 : Below w.heap.size w W0 := by rw [← hW0]; exact (Below.refl _ w).alloc (Nat.le_refl _) _
  have hp0 : Blk W0 w.heap.size p.cs 35 := by rw [← hW0]; exact Blk.new _ _ _
  have hs0 : W0.heap.size = w.heap.size + 1 := by rw [← hW0]; simp
  have HOK := Lib.hid (h.below hb0)
  have HP := Lib.hid hp0
  have HB0 := Lib.hid hb0
  clear h hb0 hp0
  have HC3 : Hid (∀ V, Below W0.heap.size W0 V → V.cell? ⟨w.heap.size, 3, none⟩ = some (.slice p.B p.its.length p.cap)) := fun V hV => (hV.cell (p := ⟨w.heap.size, 3, none⟩) HP.out.lt).trans (HP.out.cell rfl)
  obtain ⟨n, hnn⟩ : ∃ n, p.its.length = n := ⟨_, rfl⟩
  rw [hnn] at HC3
  unfold Pl.v
  unfold Pl.cs at hW0 ⊢
  rw [hnn] at hW0 ⊢
  have HNN := Lib.hid hnn
  have hn3 : n ≤ 300 := by omega
  clear hnn hn
  go_enter Tryd.func40, Tryd.ntmps40
  go_wp2
  (try rw [hW0])
  clear hW0
  go_loopw [3, 4] (fun v i wr => ∃ j : Nat, i = .int .i64 (j : Int) ∧ j ≤ n ∧ Hid (OwnI wr W0.heap.size v (ordP (ky p.its) j)) ∧ Hid (Below W0.heap.size W0 wr)) (fun _ i _ => n - (RowKit.intOf i).toNat)
  case atStart => exact ⟨0, rfl, by omega, OwnI.nil _ _, Below.refl _ _⟩
  case round =>
    obtain ⟨j, rfl, hj, HO, HB⟩ := hrel
    have c3 := HC3.out _ HB.out
    have hsr := HB.out.size
    by_cases hlt : j < n
    · have q1 : (j : Int) < (n : Int) := by omega
      have HLT := Lib.hid hlt
      clear hlt
      go_wp2_with (at_builtin; go_loud (refine wpList_append_own _ rfl _ _ 33 rfl W0.heap.size 3 i0 (.int .i64 0) 1 8 Tryd.underlying33 hi hz0 hz1 hz2 rfl (by decide) _ _ _ rfl (HO.out.alloc _) ⟨wr.heap.size, 0, none⟩ 1 1 [.int .i64 (j : Int)] rfl rfl (cell_one_new _ _ _) (by simp [Value.oneCell']) (by rw [ordP_len]; unfold maxLen; omega) (by rw [ordP_len]; omega) (by simp; omega) ?_); intro v' w1 hown' hgrow hnil; clear hnil; obtain ⟨g, c, N, rfl, HN', HO1, hgB, hcm, HRW⟩ := app_own hown')
      have hb1 : Below W0.heap.size W0 w1 := Below.of_grown (HB.out.alloc hsr _) hgrow (by simp; omega) (fun k hk => ownsRow_blk HO.out k hk)
      have hN := HN'.out
      rw [ordP_len] at hN
      have hrow := HRW.out
      obtain ⟨G, hG⟩ : ∃ G : Nat → Int, (fun t => (ordP (ky p.its) j ++ [(j : Int)]).getD t 0) = G := ⟨_, rfl⟩
      rw [hG] at hrow
      have hGj : G j = (j : Int) := by
        rw [← hG]
        show (ordP (ky p.its) j ++ [(j : Int)]).getD j 0 = _
        rw [List.getD_eq_getElem?_getD, List.getElem?_append_right (by rw [ordP_len]; exact Nat.le_refl _), ordP_len]
        simp
      have hGs : sg G 0 j = ordP (ky p.its) j := by
        rw [← hG, sg_getD _ (by rw [List.length_append, ordP_len]; omega)]
        have : (ordP (ky p.its) j).length = j := ordP_len _ _
        conv => lhs; rw [← this]
        rw [this, List.take_append_of_le_length (by omega), List.take_of_length_le (by omega)]
      have hGD : ∀ t, t < j → Dm p.its (G t) := by
        intro t ht
        have := sg_get1 G j t ht
        rw [hGs] at this
        have := (ordP_mem (ky p.its)).1 (List.mem_of_getElem? this)
        exact ⟨this.1, by have := HNN.out; omega⟩
      have hso : Srt (ky p.its) (sg G 0 j) := by rw [hGs]; exact srtE_srt _ _
      have hout : ∀ k, k ≤ j → (∀ t, k ≤ t → t < j → ky p.its (G j) < ky p.its (G t)) → (0 < k → ky p.its (G (k - 1)) ≤ ky p.its (G j)) → sg (rotR G k j (j + 1)) 0 (j + 1) = ordP (ky p.its) (j + 1) := by
        intro k h2 h3 h4
        rw [(ins_ok (ky p.its) (Nat.zero_le k) h2 hso h3 h4).1, sg_one, hGs, hGj, ordP_succ]
      have HOUT := Lib.hid hout
      have HGD := Lib.hid hGD
      have HROW := Lib.hid hrow
      have HB1 := Lib.hid hb1
      have s1 : IntKind.i64.wrap ((N : Int) - 1) = (j : Int) := by rw [IntWalk.i64_in _ (by omega)]; omega
      have HN := Lib.hid hN
      clear hN
      clear hG hGs hso hout hGD hrow hown' hgrow hb1 c3
      go_wp2_with fail
      go_loopw [5] (fun s wr2 => RQi (ky p.its) W0 g N c j G s wr2) (fun s _ => (RowKit.intOf s).toNat)
      case atStart => exact ⟨j, congrArg _ (by have := HN.out; unfold wrap64; omega), Nat.le_refl _, HROW.out.congr (fun t _ => (rot_same G j t).symm), HB1.out, fun t h1 h2 => by omega⟩
      case round =>
        obtain ⟨k, rfl, hkj, HIj, HBj, HG⟩ := hrel
        have c3 := HC3.out _ HBj.out
        have hlt := HLT.out
        by_cases hk0 : 0 < k
        · have x0 := HIj.out.cell (t := k) (by have := HN.out; omega)
          have x1 := HIj.out.cell (t := k - 1) (by have := HN.out; omega)
          have r1 : rotR G k j (j + 1) k = G j := by unfold rotR; rw [if_pos (by omega)]; congr 1; omega
          have r2 : rotR G k j (j + 1) (k - 1) = G (k - 1) := by unfold rotR; rw [if_neg (by omega), if_neg (by omega)]
          rw [r1, hGj] at x0
          rw [r2] at x1
          obtain ⟨q, hq⟩ : ∃ q, k - 1 = q := ⟨_, rfl⟩
          have s2 : IntKind.i64.wrap ((k : Int) - 1) = (q : Int) := by rw [← hq, IntWalk.i64_in _ (by omega)]; omega
          rw [hq] at x1
          obtain ⟨m, y, hm, hy, hky⟩ := (HGD.out q (by omega)).get
          obtain ⟨x, hx⟩ : ∃ x, p.its[j]? = some x := ⟨_, List.getElem?_eq_getElem (by have := HNN.out; omega)⟩
          have hkx : ky p.its (G j) = (Fl.mkey x.t : Int) := by
            rw [hGj]; unfold ky; rw [Int.toNat_natCast, hx]; rfl
          obtain ⟨b, off, hb, hbl, dx, _⟩ := HOK.out.its.at hx
          obtain ⟨b2, off2, hb2, _, dy, _⟩ := HOK.out.its.at hy
          rw [hb] at hb2
          cases hb2
          replace dx := (HBj.out.cell (p := ⟨b, off + j * 4, none⟩) hbl).trans dx
          replace dy := (HBj.out.cell (p := ⟨b, off + m * 4, none⟩) hbl).trans dy
          rw [hb] at c3
          have hgm := hm
          rw [hm] at x1
          have HRS : Hid (∀ t, (if t = q then (j : Int) else if t = k then (m : Int) else rotR G k j (j + 1) t) = rotR G q j (j + 1) t) := by
            intro t
            have := rot_step G k j hk0 hkj t
            rw [r1, r2, hq, hGj, hm] at this
            exact this
          have HCC := fun V => Lib.hid (rcmp_c x.t y.t (HOK.out.its.ok x (List.mem_of_getElem? hx)).t (HOK.out.its.ok y (List.mem_of_getElem? hy)).t V)
          have hml : m < n := by rw [← HNN.out]; exact (List.getElem?_eq_some_iff.1 hy).1
          have m1 : (k : Int) < (N : Int) := by have := HN.out; omega
          have m2 : (q : Int) < (N : Int) := by have := HN.out; omega
          have m3 : decide ((0 : Int) < (k : Int)) = true := by simp; omega
          have m5 : (j : Int) < (n : Int) := by omega
          have m6 : (m : Int) < (n : Int) := by omega
          obtain ⟨cc, hcc⟩ : ∃ cc : Int, cv (Fl.mkey x.t) (Fl.mkey y.t) = cc := ⟨_, rfl⟩
          have hcv : cc < 0 ↔ ky p.its (G j) < ky p.its (G q) := by rw [← hcc, hkx, hky]; exact cv_lt _ _
          rw [hcc] at HCC
          have HCV := Lib.hid hcv
          have HGM := Lib.hid hgm
          have HKQ := Lib.hid hq
          clear hcc hx hy hkx hky hb hcv hgm r1 r2
          go_wp2_with fail
          go_quiet (first | (go_at_call 54; exact Calls.quiet_of_same ((HCC _).out)))
          have HI1 := Lib.hid (HIj.out.drew nq)
          have hb1 : Below W0.heap.size W0 (wr.drewN nq) := below_drews HBj.out nq
          have HB1' := Lib.hid hb1
          have x0' := HI1.out.cell (t := k) (by have := HN.out; omega)
          have x1' := HI1.out.cell (t := q) (by have := HN.out; omega)
          rw [show rotR G k j (j + 1) k = (j : Int) by rw [← hGj]; unfold rotR; rw [if_pos (by omega)]; congr 1; omega] at x0'
          rw [show rotR G k j (j + 1) q = (m : Int) by rw [← HGM.out]; unfold rotR; rw [if_neg (by have := HKQ.out; omega), if_neg (by have := HKQ.out; omega)]] at x1'
          have z0 := HI1.out.free k
          have z1 := HI1.out.free q
          clear hb1
          by_cases hlk : cc < 0
          · have m4 : decide (cc < 0) = true := by simp [hlk]
            have HGN : Hid (∀ t, q ≤ t → t < j → ky p.its (G j) < ky p.its (G t)) := by
              intro t h1 h2
              by_cases e : t = q
              · subst e; exact HCV.out.1 hlk
              · exact HG.out t (by have := HKQ.out; omega) h2
            have hkq : ¬ k = q := by have := HKQ.out; omega
            have hqk : ¬ q = k := fun e => hkq e.symm
            go_wp2_with fail
            go_roundw
            case rel => exact ⟨q, by go_num, by have := HKQ.out; omega, IRc.congr ((HI1.out.set k (m : Int)).set q (j : Int)) (fun t _ => HRS.out t), (HB1'.out.setCell (p := ⟨g, k, none⟩) hgB _).setCell (p := ⟨g, q, none⟩) hgB _, HGN.out⟩
            case measure => have := HKQ.out; simp [RowKit.intOf]; omega
          · have m4 : decide (cc < 0) = false := by simp; omega
            have ho : OwnI (wr.drewN nq) W0.heap.size (.slice (some ⟨g, 0, none⟩) N c) (ordP (ky p.its) (j + 1)) := by
              have h := HI1.out.own hgB hcm
              rw [HN.out, HOUT.out k hkj HG.out (fun _ => by rw [HKQ.out]; have := HCV.out; omega)] at h
              rw [HN.out]
              exact h
            have HO3 := Lib.hid ho
            clear ho
            go_wp2_with fail
            go_roundw
            case rel => exact ⟨j + 1, by go_num, by omega, HO3.out, HB1'.out⟩
            case measure => simp [RowKit.intOf]; omega
        · have hk00 : k = 0 := by omega
          have m3 : decide ((0 : Int) < (k : Int)) = false := by simp; omega
          have HI1 := HIj
          have ho : ∀ m, OwnI (wr.drewN m) W0.heap.size (.slice (some ⟨g, 0, none⟩) N c) (ordP (ky p.its) (j + 1)) := by
            intro m
            have h := (HI1.out.drew m).own hgB hcm
            rw [HN.out, HOUT.out k hkj HG.out (fun h => by omega)] at h
            rw [HN.out]
            exact h
          have HO3 := Lib.hid ho
          clear ho hk00
          go_wp2_with fail
          go_quiet (fail)
          go_wp2_with fail
          go_roundw
          case rel => exact ⟨j + 1, by go_num, by omega, HO3.out _, below_drews HBj.out _⟩
          case measure => simp [RowKit.intOf]; omega
    · have hje : j = n := by omega
      have q1 : ¬ (j : Int) < (n : Int) := by omega
      have h := HO.out
      rw [hje, ← HNN.out] at h
      have h2 := h.base (B' := w.heap.size) (by omega)
      have HOE := Lib.hid h2
      clear h h2
      clear hje HO
      go_wp2_with fail
      go_ret
      exact ⟨_, rfl, HOE.out, HB0.out.trans (HB.out.mono (by omega))⟩

end Go.Proofs.YtbflcikfaoojmaaDoor.Edit

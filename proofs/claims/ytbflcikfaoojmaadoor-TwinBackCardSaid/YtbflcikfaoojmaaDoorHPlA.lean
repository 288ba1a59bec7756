/- twin.Secret and Count of any plan. -/
import Derived.Test.YtbflcikfaoojmaaDoorGS3
import Derived.Test.YtbflcikfaoojmaaDoorHPl4
import Derived.Test.YtbflcikfaoojmaaDoorGT9
set_option linter.unusedVariables false
set_option linter.unusedSimpArgs false
namespace Go.Proofs.YtbflcikfaoojmaaDoor.Edit
open Go.RowKit Go.Lib Go.Shelf ChangeShapes Mem Utf UtfP

section
attribute [local go_sem] Oper.semAt_some

set_option maxRecDepth 100000 in
set_option maxHeartbeats 2000000 in
theorem secret_p (p : Pl) (w : World) (h : p.Ok w) (hn : p.its.length ≤ 300) (hmx : ∀ x ∈ p.its, x.l.length ≤ 4000) (hal : (allE p.its).length ≤ 4000) (hc : chkE p.its = 0) (hT : Tabs w) : Calls Tryd.prog 15 #[p.v] w fun e w' => ∃ v, e = .returned (.tuple #[v, .int .i64 0]) ∧ w'.ownsRow w.heap.size 3 1 v (secE (allE p.its)).length ((secE (allE p.its)).map fun x => .int .i64 x.2) ∧ Below w.heap.size w w' := by
  obtain ⟨l, hl⟩ : ∃ l, allE p.its = l := ⟨_, rfl⟩
  rw [hl] at hal ⊢
  have hm : l.length ≤ 1000000 := by omega
  obtain ⟨i0, hi, hz0, hz1, hz2⟩ := info_parts infoI
  obtain ⟨W0, hW0⟩ : ∃ W0, w.alloc (.cells #[.int .u32 p.a1, .int .u8 p.a2, .int .u8 p.a3, .slice p.B p.its.length p.cap, .slice p.ws.A p.ws.l.length p.ws.cap, .slice p.gs.A p.gs.l.length p.gs.cap, .slice p.ss.A p.ss.l.length p.ss.cap] 35) = W0 := ⟨_, rfl⟩
  have hb0 : Below w.heap.size w W0 := by rw [← hW0]; exact (Below.refl _ w).alloc (Nat.le_refl _) _
  have hp0 : Blk W0 w.heap.size #[.int .u32 p.a1, .int .u8 p.a2, .int .u8 p.a3, .slice p.B p.its.length p.cap, .slice p.ws.A p.ws.l.length p.ws.cap, .slice p.gs.A p.gs.l.length p.gs.cap, .slice p.ss.A p.ss.l.length p.ss.cap] 35 := by rw [← hW0]; exact Blk.new _ _ _
  have hs0 : W0.heap.size = w.heap.size + 1 := by rw [← hW0]; simp
  have HC := Lib.hid (check_c p W0 (h.below hb0) hn)
  rw [hc] at HC
  have p0 := hp0.cell (j := 0) rfl
  have p1 := hp0.cell (j := 1) rfl
  have p2 := hp0.cell (j := 2) rfl
  have p3 := hp0.cell (j := 3) rfl
  have p4 := hp0.cell (j := 4) rfl
  have p5 := hp0.cell (j := 5) rfl
  have p6 := hp0.cell (j := 6) rfl
  have H := Lib.hid h
  have HP := Lib.hid hp0
  have HB0 := Lib.hid hb0
  have HT := Lib.hid hT
  clear h hp0 hb0 hT hc
  unfold Pl.v Pl.cs at HC ⊢
  refine (callsIn_wide (n := 3)).1 ?_
  refine callsIn_of_wp_marks Tryd.func15 rfl trivial ?_ rfl
  simp only [Tryd.ntmps15, List.size_toArray, List.length_cons, List.length_nil, Nat.reduceAdd, Nat.reduceSub, Array.replicate_succ, Array.replicate_zero, List.push_toArray, List.append_toArray, List.nil_append, List.cons_append]
  gi_wp2_with fail
  refine ⟨trivial, (callsIn_wide.2 HC.out).mono ?_⟩
  rintro e w2 ⟨rfl, hb2⟩
  have hs2 := hb2.size
  have hp2 := HP.out.but (But.of_below (S := []) hb2) (by intro h; cases h)
  have HB2 := Lib.hid (HB0.out.trans (hb2.mono (by omega)))
  obtain ⟨W3, hW3⟩ : ∃ W3, w2.alloc (.cells #[.slice none 0 0] 33) = W3 := ⟨_, rfl⟩
  have hb3 : Below w2.heap.size w2 W3 := by rw [← hW3]; exact (Below.refl _ w2).alloc (Nat.le_refl _) _
  have hp3 := hp2.but (But.of_below (S := []) hb3) (by intro h; cases h)
  have bX3 : Boxed W3 w2.heap.size 33 (.slice none 0 0) := by rw [← hW3]; exact Boxed.new _ _ _
  have hs3 : W3.heap.size = w2.heap.size + 1 := by rw [← hW3]; simp
  have HB3 := Lib.hid (HB2.out.trans (hb3.mono HB2.out.size))
  have HA := Lib.hid (all_c p W3 (H.out.below HB3.out) hn hmx)
  rw [hl] at HA
  have HX3 := Lib.hid bX3
  clear p0 p1 p2 p3 p4 p5 p6 hb2 hp2 hb3 bX3
  have p0 := hp3.cell (j := 0) rfl
  have p1 := hp3.cell (j := 1) rfl
  have p2 := hp3.cell (j := 2) rfl
  have p3 := hp3.cell (j := 3) rfl
  have p4 := hp3.cell (j := 4) rfl
  have p5 := hp3.cell (j := 5) rfl
  have p6 := hp3.cell (j := 6) rfl
  clear hp3
  unfold Pl.v Pl.cs at HA
  clear hl
  gi_wp2_with fail
  refine ⟨trivial, (callsIn_wide.2 HA.out).mono ?_⟩
  rintro e w4 ⟨v4, rfl, ho4, hb4⟩
  have hlt4 := fun k hk => OwnB.lt ho4 (k := k) hk
  obtain ⟨A4, cap4, rfl, hcap4, hby4, hA4, hob4⟩ := OwnB.form ho4
  rw [hob4] at hlt4
  have HLT4 := Lib.hid hlt4
  have HB4 := Lib.hid (HB3.out.trans (hb4.mono HB3.out.size))
  have HX4 : Hid (Boxed w4 w2.heap.size 33 (.slice none 0 0)) := (hb4.block w2.heap.size (by omega)).trans HX3.out
  have hs4 := hb4.size
  have HS := Lib.hid (secret_c (.slice A4 l.length cap4) w4 ⟨_, _, _, rfl⟩)
  have HA4 := Lib.hid hA4
  have HBY4 := Lib.hid hby4
  clear p0 p1 p2 p3 p4 p5 p6 hb4 ho4 hA4 hby4 hob4 hlt4
  gi_wp2_with fail
  refine ⟨trivial, (callsIn_wide.2 HS.out).mono ?_⟩
  rintro e w5 ⟨rfl, rfl⟩
  gi_wp2_with fail
  obtain ⟨W5, hW5⟩ : ∃ W5, w4.alloc (.cells #[.slice A4 l.length cap4] 47) = W5 := ⟨_, rfl⟩
  have hb5 : Below w4.heap.size w4 W5 := by rw [← hW5]; exact (Below.refl _ w4).alloc (Nat.le_refl _) _
  have hc5 : W5.cell? ⟨w4.heap.size, 0, none⟩ = some (.slice A4 l.length cap4) := by rw [← hW5]; exact cell_alloc_new _ _ _ 0
  have hs5 : W5.heap.size = w4.heap.size + 1 := by rw [← hW5]; simp
  have HX5 : Hid (Boxed W5 w2.heap.size 33 (.slice none 0 0)) := (hb5.block w2.heap.size (by omega)).trans HX4.out
  have HB5 := Lib.hid (HB4.out.trans (hb5.mono HB4.out.size))
  rw [hW5]
  obtain ⟨S, hS⟩ : ∃ S, w4.heap.size :: (A4.map (·.block)).toList = S := ⟨_, rfl⟩
  have HSM : Hid (∀ k ∈ S, k < W5.heap.size ∧ k ≠ w2.heap.size) := by
    intro k hk
    rw [← hS] at hk
    rcases List.mem_cons.1 hk with rfl | hk
    · exact ⟨by omega, by omega⟩
    · have := HLT4.out k (by simpa using hk)
      exact ⟨by omega, by omega⟩
  refine wpIn_rangeFunc_ownG rfl (by omega) (gf := 48) (lb := #[.pointer (some ⟨w4.heap.size, 0, none⟩)]) rfl trivial (enters_of Tryd.func48 (by kernel_rfl) rfl)
    (sec_stops (3 - 1) (by omega) l A4 cap4 w4.heap.size w W5 HT.out HB5.out S (by rw [← hS]; exact List.mem_cons_self) (fun ad hA _ => by rw [← hS, hA]; simp) (fun k hk => (HSM.out k hk).1) hc5 (HBY4.out.below hb5) hcap4 hm)
    KpS.trans (kpS_b HB5.out.size (fun k hk => (HSM.out k hk).1)) (Below.refl _ _) (fun _ => rfl)
    (fun (pre : List (SC l)) W => (∃ v, Boxed W w2.heap.size 33 v ∧ W.ownsRow W5.heap.size 3 1 v pre.length (pre.map fun x => .int .i64 x.1.2) ∧ True) ∧ Below w.heap.size W5 W)
    (fun _ _ _ => False)
    (OwnFrom.and (Own.from (holdsRow_own W5.heap.size w2.heap.size 33 3 1 (fun (pre : List (SC l)) => pre.length) (fun pre => pre.map fun x => .int .i64 x.1.2) (fun _ _ => True)) _) (ownFrom_below HB5.out.size HB5.out.size))
    (fun _ _ _ _ _ hs _ _ => hs)
    ⟨⟨_, HX5.out, World.ownsRow_nil _ _ _ _, trivial⟩, Below.refl _ _⟩
    (fun x => { tmps := #[.agg #[.int .u32 p.a1, .int .u8 p.a2, .int .u8 p.a3, .slice p.B p.its.length p.cap, .slice p.ws.A p.ws.l.length p.ws.cap, .slice p.gs.A p.gs.l.length p.gs.cap, .slice p.ss.A p.ss.l.length p.ss.cap], .pointer (some ⟨w.heap.size, 0, none⟩), .slice none 0 0, .int .i64 0, .int .i64 0, .pointer (some ⟨w2.heap.size, 0, none⟩), undef, .int .i64 x.1.2, .agg #[.int .u32 p.a1, .int .u8 p.a2, .int .u8 p.a3, .slice p.B p.its.length p.cap, .slice p.ws.A p.ws.l.length p.ws.cap, .slice p.gs.A p.gs.l.length p.gs.cap, .slice p.ss.A p.ss.l.length p.ss.cap], .int .i64 0, .int .i64 0, .bool false, undef, .agg #[.int .u32 p.a1, .int .u8 p.a2, .int .u8 p.a3, .slice p.B p.its.length p.cap, .slice p.ws.A p.ws.l.length p.ws.cap, .slice p.gs.A p.gs.l.length p.gs.cap, .slice p.ss.A p.ss.l.length p.ss.cap], .slice A4 l.length cap4, .func (.func 48) #[] #[.pointer (some ⟨w4.heap.size, 0, none⟩)], .int .i64 (x.1.1 : Int), .int .i64 x.1.2, undef, undef, undef, undef, undef], defers := [] }) ?assign ?body ?done ?stop
  case assign =>
    intro l' x W K hK
    dsimp only [encS]
    gi_wp2
    exact hK
  case body =>
    rintro l' pre x W ⟨⟨v, hv, hrow, -⟩, hB⟩ hlt
    have hc := hv.cell
    have hs5W := hB.size
    gi_wp2_with (gi_at_builtin; refine wpListIn_append_own _ rfl _ _ 33 rfl W5.heap.size 3 i0 (.int .i64 0) 1 8 Tryd.underlying33 hi hz0 hz1 hz2 rfl (by decide) _ _ _ rfl (hrow.alloc _) ⟨W.heap.size, 0, none⟩ 1 1 [.int .i64 x.1.2] rfl rfl (cell_one_new _ _ _) (by simp [Value.oneCell']) (by unfold maxLen; omega) (by omega) (by simp; omega) ?_; intro v' w1 hown' hgrow _; obtain ⟨g', cap', rfl⟩ := ownsRow_succ hown'; obtain ⟨hv1, hv2, hr2, hk2, hb2, hS2⟩ := boxed_keeps (S := S) hv (by decide) hrow hs5W (by omega) hown' hgrow HSM.out; have hc1 := hv1.cell; have hf1 := hv1.frozen)
    exact ⟨hk2.from _, ⟨hb2.mono (by omega), hS2⟩, ⟨_, hv2, by simpa using hr2, trivial⟩, hB.trans (hb2.mono (by omega))⟩
  case done =>
    rintro D ys W hD hys ⟨⟨v, hv, hrow, -⟩, hB⟩ hK
    have hc := hv.cell
    gi_wp2
    refine ⟨by simp, .inl ⟨_, _, rfl, run_takeDeferred hK, ?_⟩⟩
    refine ⟨_, results_tmp2 rfl _ _ _, v, rfl, ?_, (HB5.out.trans hB).trans (belowK_b (w := w) (Nat.le_refl _) W D _ _ (by omega) hK rfl rfl)⟩
    have := ownsRow_putObj hrow (.deferred none) hK rfl
    rw [← hys, List.length_map, List.map_map]
    exact ownsRow_base this (by omega)
  case stop =>
    rintro D c pre W _ _ h _
    exact h.elim

end

set_option maxRecDepth 100000 in
set_option maxHeartbeats 1000000 in
theorem count_p (p : Pl) (w : World) (h : p.Ok w) (hn : p.its.length ≤ 300) (hmx : ∀ x ∈ p.its, x.l.length ≤ 4000) (hal : (allE p.its).length ≤ 4000) (hc : chkE p.its = 0) (hT : Tabs w) : Calls Tryd.prog 16 #[p.v] w fun e w' => e = .returned (.tuple #[.int .i64 ((secE (allE p.its)).length : Int), .int .i64 0]) ∧ Below w.heap.size w w' := by
  obtain ⟨W0, hW0⟩ : ∃ W0, w.alloc (.cells #[.int .u32 p.a1, .int .u8 p.a2, .int .u8 p.a3, .slice p.B p.its.length p.cap, .slice p.ws.A p.ws.l.length p.ws.cap, .slice p.gs.A p.gs.l.length p.gs.cap, .slice p.ss.A p.ss.l.length p.ss.cap] 35) = W0 := ⟨_, rfl⟩
  have hb0 : Below w.heap.size w W0 := by rw [← hW0]; exact (Below.refl _ w).alloc (Nat.le_refl _) _
  have HS := Lib.hid (secret_p p W0 (h.below hb0) hn hmx hal hc (hT.below hb0))
  have hs0 : W0.heap.size = w.heap.size + 1 := by rw [← hW0]; simp
  have HB0 := Lib.hid hb0
  have hp0 : Blk W0 w.heap.size #[.int .u32 p.a1, .int .u8 p.a2, .int .u8 p.a3, .slice p.B p.its.length p.cap, .slice p.ws.A p.ws.l.length p.ws.cap, .slice p.gs.A p.gs.l.length p.gs.cap, .slice p.ss.A p.ss.l.length p.ss.cap] 35 := by rw [← hW0]; exact Blk.new _ _ _
  have p0 := hp0.cell (j := 0) rfl
  have p1 := hp0.cell (j := 1) rfl
  have p2 := hp0.cell (j := 2) rfl
  have p3 := hp0.cell (j := 3) rfl
  have p4 := hp0.cell (j := 4) rfl
  have p5 := hp0.cell (j := 5) rfl
  have p6 := hp0.cell (j := 6) rfl
  clear h hT hb0 hp0 hc
  unfold Pl.v Pl.cs at HS ⊢
  go_enter Tryd.func16, Tryd.ntmps16
  go_wp2_with fail
  refine (HS.out).mono ?_
  rintro e w1 ⟨v, rfl, hown, hb1⟩
  obtain ⟨A', cap', rfl⟩ := ownsRow_form hown
  have HB1 := Lib.hid (HB0.out.trans (hb1.mono (by omega)))
  clear hown hb1
  go_wp2
  go_ret2
  exact ⟨rfl, HB1.out⟩

end Go.Proofs.YtbflcikfaoojmaaDoor.Edit

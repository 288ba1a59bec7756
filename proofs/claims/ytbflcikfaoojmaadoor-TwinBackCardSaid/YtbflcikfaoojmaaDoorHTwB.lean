/- twin.Plan of a plan of one item. -/
import Derived.Deep.RegionHeld3
import Derived.Test.YtbflcikfaoojmaaDoorGT5
set_option linter.unusedVariables false
set_option linter.unusedSimpArgs false
namespace Go.Proofs.YtbflcikfaoojmaaDoor.Edit
open Go.RowKit Go.Lib Go.Shelf ChangeShapes Mem Utf UtfP

/-- between two rounds -/
def PI (z : Int) (l : List UInt8) (W7 : World) (n : Nat) (v : Value) (gs : List Nat) (pre : List (SC l)) (W : World) : Prop := OwnB W n v (pre.foldl (fun b x => stepE z b x.1) l) ∧ But gs W7 W
theorem PI_own (z : Int) (l : List UInt8) (W7 : World) (n : Nat) (v : Value) (gs : List Nat) : OwnFrom W7.heap.size (PI z l W7 n v gs) := by
  rintro s X Y row ⟨ho, hb⟩ hg hr
  refine ⟨ho.kept hg ?_, ⟨hg.os.trans hb.os, hg.tape.trans hb.tape, hg.output.trans hb.output, Nat.le_trans hb.size hg.size, fun k hk hs => (hg.block k (Nat.lt_of_lt_of_le hk hb.size) (fun e => by have := (hr k e.symm).1; omega)).trans (hb.block k hk hs)⟩⟩
  rcases ho.2 with ⟨rfl, _⟩ | ⟨g, cap, cur, rfl, _, hgb, _⟩
  · exact .inl rfl
  · refine .inr fun e' => ?_
    obtain ⟨_, o, ho', hc⟩ := hr g (by simpa [Value.ownBlock] using e'.symm)
    rw [hgb] at ho'; cases ho'; cases hc
theorem fold_len (z : Int) (l : List UInt8) : ∀ (pre : List (SC l)) (b : List UInt8), b.length = l.length → (pre.foldl (fun b x => stepE z b x.1) b).length = l.length := by
  intro pre
  induction pre with
  | nil => intro b hb; exact hb
  | cons x pre ih =>
    intro b hb
    exact ih _ (by rw [stepE_len z b x.1 (by have := (secE_mem x.2).1; omega)]; exact hb)
theorem fold_val (z : Int) (l : List UInt8) : ∀ (pre : List (SC l)) (b : List UInt8), pre.foldl (fun b x => stepE z b x.1) b = (pre.map Subtype.val).foldl (stepE z) b := by
  intro pre
  induction pre with
  | nil => intro b; rfl
  | cons x pre ih => intro b; exact ih _

theorem hu_drew {g : Nat} {W V : World} (h : Hid (But [g] W V)) : Hid (But [g] W V.drew) := But.drew h.out
theorem hu_set {g o : Nat} {W V : World} {u : Value} (h : Hid (But [g] W V)) : Hid (But [g] W (V.setCell ⟨g, o, none⟩ u)) := But.set (p := ⟨g, o, none⟩) h.out (.inl (List.mem_singleton.2 rfl)) u
theorem hb_drew {W V : World} (h : Hid (Below W.heap.size W V)) : Hid (Below W.heap.size W V.drew) := Below.drew h.out
theorem hb_alloc {W V : World} (h : Hid (Below W.heap.size W V)) (o : Obj) : Hid (Below W.heap.size W (V.alloc o)) := Below.alloc h.out h.out.size o
theorem hb_set {W V : World} {o : Nat} {u : Value} (h : Hid (Below W.heap.size W V)) : Hid (Below W.heap.size W (V.setCell ⟨W.heap.size, o, none⟩ u)) := Below.setCell (p := ⟨W.heap.size, o, none⟩) h.out (Nat.le_refl _) u
theorem hb_sets7 {W V : World} {a b c d e f g : Value} (h : Hid (Below W.heap.size W V)) : Hid (Below W.heap.size W (((((((V.setCell ⟨W.heap.size, 0, none⟩ a).setCell ⟨W.heap.size, 1, none⟩ b).setCell ⟨W.heap.size, 2, none⟩ c).setCell ⟨W.heap.size, 3, none⟩ d).setCell ⟨W.heap.size, 4, none⟩ e).setCell ⟨W.heap.size, 5, none⟩ f).setCell ⟨W.heap.size, 6, none⟩ g)) := hb_set (hb_set (hb_set (hb_set (hb_set (hb_set (hb_set h))))))
theorem set7_other {V : World} {g b : Nat} {cs : Array Value} {t : TypeId} {a1 a2 a3 a4 a5 a6 a7 : Value} (h : Blk V g cs t) (hne : g ≠ b) : Blk (((((((V.setCell ⟨b, 0, none⟩ a1).setCell ⟨b, 1, none⟩ a2).setCell ⟨b, 2, none⟩ a3).setCell ⟨b, 3, none⟩ a4).setCell ⟨b, 4, none⟩ a5).setCell ⟨b, 5, none⟩ a6).setCell ⟨b, 6, none⟩ a7) g cs t :=
  Blk.other (Blk.other (Blk.other (Blk.other (Blk.other (Blk.other (Blk.other h (a := ⟨b, 0, none⟩) hne _) (a := ⟨b, 1, none⟩) hne _) (a := ⟨b, 2, none⟩) hne _) (a := ⟨b, 3, none⟩) hne _) (a := ⟨b, 4, none⟩) hne _) (a := ⟨b, 5, none⟩) hne _) (a := ⟨b, 6, none⟩) hne _
/-- the new plan, its box -/
def RQ (W : World) (A : Option Addr) (cap : Nat) (l : List UInt8) (v : Value) (wx : World) : Prop := ∃ bq g c cur, v = .pointer (some ⟨bq, 0, none⟩) ∧ Hid (Blk wx bq #[.int .u32 0, .int .u8 0, .int .u8 0, .slice (some ⟨g, 0, none⟩) 1 c, .slice none 0 0, .slice none 0 0, .slice none 0 0] 35) ∧ W.heap.size ≤ bq ∧ Hid (Blk wx g cur 49) ∧ W.heap.size ≤ g ∧ g ≠ bq ∧ 4 ≤ cur.size ∧ Hid (cur.toList.take 4 = [.float .f64 0, .int .i64 0, .int .i64 0, .slice A l.length cap]) ∧ Hid (Below W.heap.size W wx)

theorem but_set1 {b : Nat} {W V : World} (h : But [b] W V) (o : Nat) (u : Value) : But [b] W (V.setCell ⟨b, o, none⟩ u) := h.set (p := ⟨b, o, none⟩) (.inl (List.mem_singleton.2 rfl)) u
theorem results_cell2t {P : Program} {fn : Func} {p u : Tmp} {ty : TypeId} (h : fn.results = #[.cell p ty, .tmp u]) (tmps : Array Value) (w : World) (g : Nat) (t : TypeId) (cs : Array Value) (d : TypeDesc)
    (hp : tmps.getD p undef = .pointer (some ⟨g, 0, none⟩)) (hg : Blk w g cs t)
    (hu : P.underlying ty = some d) (hd : (match d with | .struct _ | .array _ _ => true | _ => false) = true) (hi : (P.info? ty).map (·.size) = some cs.size) :
    (results fn tmps).run P w = .ok (.tuple #[.agg cs, tmps.getD u undef]) w := by
  have hp' : tmps[p]?.getD undef = .pointer (some ⟨g, 0, none⟩) := by simpa using hp
  simp [results, h, hp', asAddr, run_loadVar_row w g t ty cs (0, 0) d hg hu hd hi]

/-- how the loop stands -/
def RL (w w12 : World) (l : List UInt8) (z : Int) (bq g c D : Nat) (i : Value) (wr : World) : Prop :=
  (i = .int .i64 0 ∧ wr = w12) ∨ (i = .int .i64 1 ∧ Hid (∃ A9 cap9, wr.cell? ⟨g, 3, none⟩ = some (.slice A9 l.length cap9) ∧ l.length ≤ cap9 ∧ BytesAt wr A9 (planE z l) ∧ (∀ a, A9 = some a → w12.heap.size ≤ a.block ∧ a.block < wr.heap.size) ∧ g < wr.heap.size ∧
    Blk wr bq #[.int .u32 0, .int .u8 0, .int .u8 0, .slice (some ⟨g, 0, none⟩) 1 c, .slice none 0 0, .slice none 0 0, .slice none 0 0] 35 ∧
    Blk wr (w.heap.size + 2) #[.int .u32 0, .int .u8 0, .int .u8 0, .slice none 0 0, .slice none 0 0, .slice none 0 0, .slice none 0 0] 35 ∧ Below w.heap.size w wr ∧ wr.heap[D]? = some (.deferred (some []))))

section
attribute [local go_sem] Oper.semAt_some

set_option maxRecDepth 100000 in
set_option maxHeartbeats 4000000 in
theorem plan1 (bi : Nat) (A : Option Addr) (cap : Nat) (l : List UInt8) (z : Int) (w : World) (h : OneP w bi A cap l) (hm : l.length ≤ 1000000) (hT : Tabs w) : Calls Tryd.prog 14 #[planV bi 1, .int .i64 z] w fun e w' => ∃ g c A' cap', e = .returned (.tuple #[planV g c, .int .i64 0]) ∧ w'.cell? ⟨g, 3, none⟩ = some (.slice A' l.length cap') ∧ l.length ≤ cap' ∧ BytesAt w' A' (planE z l) ∧ Below w.heap.size w w' := by
  obtain ⟨W0, hW0⟩ : ∃ W0, ((w.alloc (.cells #[.int .u32 0, .int .u8 0, .int .u8 0, .slice (some ⟨bi, 0, none⟩) 1 1, .slice none 0 0, .slice none 0 0, .slice none 0 0] 35)).alloc (.cells #[.int .i64 z] 3)).alloc (.cells #[.int .u32 0, .int .u8 0, .int .u8 0, .slice none 0 0, .slice none 0 0, .slice none 0 0, .slice none 0 0] 35) = W0 := ⟨_, rfl⟩
  have hb0 : Below w.heap.size w W0 := by rw [← hW0]; exact (((Below.refl _ w).alloc (Nat.le_refl _) _).alloc (by simp) _).alloc (by simp; omega) _
  have hs0 : W0.heap.size = w.heap.size + 3 := by rw [← hW0]; simp
  have hp0 : Blk W0 w.heap.size #[.int .u32 0, .int .u8 0, .int .u8 0, .slice (some ⟨bi, 0, none⟩) 1 1, .slice none 0 0, .slice none 0 0, .slice none 0 0] 35 := by rw [← hW0]; exact ((Blk.new _ _ _).alloc _).alloc _
  have hz0 : Blk W0 (w.heap.size + 1) #[.int .i64 z] 3 := by
    have := Blk.new (w.alloc (.cells #[.int .u32 0, .int .u8 0, .int .u8 0, .slice (some ⟨bi, 0, none⟩) 1 1, .slice none 0 0, .slice none 0 0, .slice none 0 0] 35)) #[.int .i64 z] 3
    rw [World.size_alloc] at this
    rw [← hW0]; exact this.alloc _
  have hq0 : Blk W0 (w.heap.size + 2) #[.int .u32 0, .int .u8 0, .int .u8 0, .slice none 0 0, .slice none 0 0, .slice none 0 0, .slice none 0 0] 35 := by
    have := Blk.new ((w.alloc (.cells #[.int .u32 0, .int .u8 0, .int .u8 0, .slice (some ⟨bi, 0, none⟩) 1 1, .slice none 0 0, .slice none 0 0, .slice none 0 0] 35)).alloc (.cells #[.int .i64 z] 3)) #[.int .u32 0, .int .u8 0, .int .u8 0, .slice none 0 0, .slice none 0 0, .slice none 0 0, .slice none 0 0] 35
    rw [World.size_alloc, World.size_alloc] at this
    rw [← hW0]; exact this
  have HC := Lib.hid (check1 bi A cap l W0 (h.below hb0))
  have p0 := hp0.cell (j := 0) rfl
  have p1 := hp0.cell (j := 1) rfl
  have p2 := hp0.cell (j := 2) rfl
  have p3 := hp0.cell (j := 3) rfl
  have p4 := hp0.cell (j := 4) rfl
  have p5 := hp0.cell (j := 5) rfl
  have p6 := hp0.cell (j := 6) rfl
  have H := Lib.hid h
  have HP := Lib.hid hp0
  have HZ := Lib.hid hz0
  have HQ := Lib.hid hq0
  have HB0 := Lib.hid hb0
  have HT := Lib.hid hT
  clear h hp0 hb0 hT hz0 hq0
  unfold planV at HC ⊢
  refine (callsIn_wide (n := 3)).1 ?_
  refine callsIn_of_wp_marks Tryd.func14 rfl trivial ?_ rfl
  simp only [Tryd.ntmps14, List.size_toArray, List.length_cons, List.length_nil, Nat.reduceAdd, Nat.reduceSub, Array.replicate_succ, Array.replicate_zero, List.push_toArray, List.append_toArray, List.nil_append, List.cons_append]
  gi_wp2_with fail
  refine ⟨trivial, (callsIn_wide.2 HC.out).mono ?_⟩
  rintro e w2 ⟨rfl, hb2⟩
  have hs2 := hb2.size
  have hp2 := HP.out.but (But.of_below (S := []) hb2) (by intro h; cases h)
  have HP2 := Lib.hid hp2
  have HZ2 := Lib.hid (HZ.out.but (But.of_below (S := []) hb2) (by intro h; cases h))
  have HQ2 := Lib.hid (HQ.out.but (But.of_below (S := []) hb2) (by intro h; cases h))
  have HB2 := Lib.hid (HB0.out.trans (hb2.mono (by omega)))
  have HA := Lib.hid (all1 bi A cap l w2 (H.out.below HB2.out) hm)
  clear p0 p1 p2 p3 p4 p5 p6 hb2
  have p0 := hp2.cell (j := 0) rfl
  have p1 := hp2.cell (j := 1) rfl
  have p2 := hp2.cell (j := 2) rfl
  have p3 := hp2.cell (j := 3) rfl
  have p4 := hp2.cell (j := 4) rfl
  have p5 := hp2.cell (j := 5) rfl
  have p6 := hp2.cell (j := 6) rfl
  clear hp2
  unfold planV at HA
  gi_wp2_with fail
  refine ⟨trivial, (callsIn_wide.2 HA.out).mono ?_⟩
  rintro e w4 ⟨v4, rfl, ho4, hb4⟩
  have hnil4 : (∃ A c, v4 = .slice (some A) l.length c) ∨ (v4 = .slice none 0 0 ∧ l = []) := by
    rcases ho4.2 with ⟨h1, h2⟩ | ⟨g, c, cur, h1, _⟩
    · exact .inr ⟨h1, List.eq_nil_of_length_eq_zero h2⟩
    · exact .inl ⟨_, _, h1⟩
  obtain ⟨A4, cap4, rfl, hcap4, hby4, hA4, hob4⟩ := OwnB.form ho4
  have hn4 : A4 = none → l = [] ∧ cap4 = 0 := by
    rintro rfl
    rcases hnil4 with ⟨_, _, h⟩ | ⟨h, h'⟩
    · cases h
    · injection h with _ _ h3; exact ⟨h', h3⟩
  have HP4 := Lib.hid (HP2.out.but (But.of_below (S := []) hb4) (by intro h; cases h))
  have HZ4 := Lib.hid (HZ2.out.but (But.of_below (S := []) hb4) (by intro h; cases h))
  have HQ4 := Lib.hid (HQ2.out.but (But.of_below (S := []) hb4) (by intro h; cases h))
  have HB4 := Lib.hid (HB2.out.trans (hb4.mono HB2.out.size))
  have hs4 := hb4.size
  have HO4 := Lib.hid ho4
  have HN4 := Lib.hid hn4
  obtain ⟨W5, hW5⟩ : ∃ W5, w4.alloc (.cells #[.slice A4 l.length cap4] 47) = W5 := ⟨_, rfl⟩
  have hb5 : Below w4.heap.size w4 W5 := by rw [← hW5]; exact (Below.refl _ w4).alloc (Nat.le_refl _) _
  have hs5 : W5.heap.size = w4.heap.size + 1 := by rw [← hW5]; simp
  have HBB5 : Hid (Blk W5 w4.heap.size #[.slice A4 l.length cap4] 47) := by rw [← hW5]; exact Blk.new _ _ _
  have HB5 := Lib.hid (HB4.out.trans (hb5.mono HB4.out.size))
  have HBC := Lib.hid (bclone A4 cap4 l W5 (hby4.below hb5) hcap4 hm hn4)
  have HP5 := Lib.hid (HP4.out.but (But.of_below (S := []) hb5) (by intro h; cases h))
  have HZ5 := Lib.hid (HZ4.out.but (But.of_below (S := []) hb5) (by intro h; cases h))
  have HQ5 := Lib.hid (HQ4.out.but (But.of_below (S := []) hb5) (by intro h; cases h))
  have HO5 := Lib.hid (ho4.below hb5)
  clear p0 p1 p2 p3 p4 p5 p6 hb4 ho4 hA4 hby4 hob4 hn4 hnil4 hb5
  have c7 := HBB5.out.cell (j := 0) rfl
  gi_wp2_with fail
  refine ⟨trivial, (callsIn_wide.2 HBC.out).mono ?_⟩
  rintro e w6 ⟨v6, rfl, ho6, hb6⟩
  have hlt6 := fun k hk => OwnB.lt ho6 (k := k) hk
  obtain ⟨A6, cap6, rfl, hcap6, hby6, hA6, hob6⟩ := OwnB.form ho6
  rw [hob6] at hlt6
  have HLT6 := Lib.hid hlt6
  have HP6 := Lib.hid (HP5.out.but (But.of_below (S := []) hb6) (by intro h; cases h))
  have HZ6 := Lib.hid (HZ5.out.but (But.of_below (S := []) hb6) (by intro h; cases h))
  have HQ6 := Lib.hid (HQ5.out.but (But.of_below (S := []) hb6) (by intro h; cases h))
  have HBB6 := Lib.hid (HBB5.out.but (But.of_below (S := []) hb6) (by intro h; cases h))
  have HB6 := Lib.hid (HB5.out.trans (hb6.mono HB5.out.size))
  have HO6 := Lib.hid (HO5.out.below hb6)
  have hs6 := hb6.size
  have HS := Lib.hid (secret_c (.slice A6 l.length cap6) w6 ⟨_, _, _, rfl⟩)
  have HBY6 := Lib.hid hby6
  clear hb6 ho6 hA6 hby6 hob6 hlt6 c7
  gi_wp2_with fail
  refine ⟨trivial, (callsIn_wide.2 HS.out).mono ?_⟩
  rintro e w7 ⟨rfl, rfl⟩
  gi_wp2_with fail
  obtain ⟨W7, hW7⟩ : ∃ W7, w6.alloc (.cells #[.slice A6 l.length cap6] 47) = W7 := ⟨_, rfl⟩
  have hb7 : Below w6.heap.size w6 W7 := by rw [← hW7]; exact (Below.refl _ w6).alloc (Nat.le_refl _) _
  have hc7 : W7.cell? ⟨w6.heap.size, 0, none⟩ = some (.slice A6 l.length cap6) := by rw [← hW7]; exact cell_alloc_new _ _ _ 0
  have hs7 : W7.heap.size = w6.heap.size + 1 := by rw [← hW7]; simp
  have HP7 := Lib.hid (HP6.out.but (But.of_below (S := []) hb7) (by intro h; cases h))
  have HZ7 := Lib.hid (HZ6.out.but (But.of_below (S := []) hb7) (by intro h; cases h))
  have HQ7 := Lib.hid (HQ6.out.but (But.of_below (S := []) hb7) (by intro h; cases h))
  have HBB7 := Lib.hid (HBB6.out.but (But.of_below (S := []) hb7) (by intro h; cases h))
  have HB7 := Lib.hid (HB6.out.trans (hb7.mono HB6.out.size))
  have HO7 := Lib.hid (HO6.out.below hb7)
  rw [hW7]
  obtain ⟨S, hS⟩ : ∃ S, w6.heap.size :: (A6.map (·.block)).toList = S := ⟨_, rfl⟩
  have HSM : Hid (∀ k ∈ S, W5.heap.size ≤ k ∧ k < W7.heap.size) := by
    intro k hk
    rw [← hS] at hk
    rcases List.mem_cons.1 hk with rfl | hk
    · exact ⟨by omega, by omega⟩
    · have := HLT6.out k (by simpa using hk)
      exact ⟨by omega, by omega⟩
  obtain ⟨gs, hgs⟩ : ∃ gs, (A4.map (·.block)).toList = gs := ⟨_, rfl⟩
  have HGS : Hid (∀ k ∈ gs, w2.heap.size ≤ k ∧ k < w4.heap.size) := by
    intro k hk
    rw [← hgs] at hk
    exact OwnB.lt HO4.out (k := k) (by cases A4 <;> simp [Value.ownBlock] at hk ⊢; exact hk.symm)
  refine wpIn_rangeFunc_ownG rfl (by omega) (gf := 48) (lb := #[.pointer (some ⟨w6.heap.size, 0, none⟩)]) rfl trivial (enters_of Tryd.func48 (by kernel_rfl) rfl)
    (sec_stops (3 - 1) (by omega) l A6 cap6 w6.heap.size w W7 HT.out HB7.out S (by rw [← hS]; exact List.mem_cons_self) (fun ad hA _ => by rw [← hS, hA]; simp) (fun k hk => (HSM.out k hk).2) hc7 (HBY6.out.below hb7) hcap6 hm)
    KpS.trans (kpS_b HB7.out.size (fun k hk => (HSM.out k hk).2)) (Below.refl _ _) (fun _ => rfl)
    (PI z l W7 w2.heap.size (.slice A4 l.length cap4) gs)
    (fun _ _ _ => False)
    (PI_own z l W7 w2.heap.size (.slice A4 l.length cap4) gs)
    (fun _ _ _ _ _ hs _ _ => hs)
    ⟨HO7.out, But.refl _ _⟩
    (fun x => { tmps := #[(.agg #[.int .u32 0, .int .u8 0, .int .u8 0, .slice (some ⟨bi, 0, none⟩) 1 1, .slice none 0 0, .slice none 0 0, .slice none 0 0]), .int .i64 z, .pointer (some ⟨w.heap.size, 0, none⟩), .pointer (some ⟨w.heap.size + 1, 0, none⟩), .pointer (some ⟨w.heap.size + 1 + 1, 0, none⟩), .int .i64 0, .int .i64 0, .pointer (some ⟨w4.heap.size, 0, none⟩), .int .i64 (x.1.1 : Int), .int .i64 x.1.2, undef, undef, undef, undef, undef, undef, undef, undef, (.agg #[.int .u32 0, .int .u8 0, .int .u8 0, .slice (some ⟨bi, 0, none⟩) 1 1, .slice none 0 0, .slice none 0 0, .slice none 0 0]), .int .i64 0, .int .i64 0, .bool false, undef, undef, (.agg #[.int .u32 0, .int .u8 0, .int .u8 0, .slice (some ⟨bi, 0, none⟩) 1 1, .slice none 0 0, .slice none 0 0, .slice none 0 0]), .slice A4 l.length cap4, .slice A4 l.length cap4, .slice A6 l.length cap6, .func (.func 48) #[] #[.pointer (some ⟨w6.heap.size, 0, none⟩)], .int .i64 (x.1.1 : Int), .int .i64 x.1.2, undef, undef, undef, undef, undef, undef, undef, undef, undef, undef, undef, undef, undef, undef, undef, undef, undef, undef, undef, undef, undef, undef, undef, undef, undef, undef, undef, undef, undef, undef, undef, undef, undef, undef, undef, undef, undef, undef, undef, undef, undef, undef, undef, undef, undef, undef, undef, undef, undef, undef, undef, undef, undef, undef, undef, undef, undef, undef, undef], defers := [] }) ?assign ?body ?done ?stop
  case assign =>
    intro l' x W K hK
    dsimp only [encS]
    gi_wp2
    exact hK
  case stop =>
    rintro D c pre W _ _ h _
    exact h.elim
  case body =>
    rintro l' pre x W ⟨ho, hb⟩ hlt
    clear HC HA HBC HS hW7 hW5 hb7 hc7 HP HZ HQ HP2 HZ2 HQ2 HP4 HZ4 HQ4 HP5 HZ5 HQ5 HP6 HZ6 HQ6 HP7 HQ7 HBB5 HBB6 H HB0 HB2 HB4 HB5 HB6 HO5 HO6 HO7 HN4 HBY6
    obtain ⟨⟨i, c⟩, hx⟩ := x
    have hat : i < l.length := (secE_mem hx).1
    have hpr : printC c = true := (secE_mem hx).2
    dsimp only
    obtain ⟨t, ht⟩ : ∃ t, pre.foldl (fun b x => stepE z b x.1) l = t := ⟨_, rfl⟩
    have htl : t.length = l.length := by rw [← ht]; exact fold_len z l pre l rfl
    rw [ht, ← htl] at ho
    obtain ⟨g, rfl⟩ : ∃ g, A4 = some ⟨g, 0, none⟩ := by
      rcases ho.2 with ⟨h1, h2⟩ | ⟨g, c, cur, h1, _⟩
      · omega
      · injection h1 with h1; exact ⟨g, h1⟩
    have HOW := Lib.hid ho
    have HBW := Lib.hid hb
    obtain ⟨hgb, hg1, hg2⟩ : gs = [g] ∧ w2.heap.size ≤ g ∧ g < w4.heap.size := by
      have e : gs = [g] := by rw [← hgs]; rfl
      exact ⟨e, HGS.out g (by rw [e]; simp)⟩
    subst hgb
    have HTU := Lib.hid (turn_c c z W hpr)
    have hfi := printC_fine (turnE_print z hpr).1
    have HPU := fun w8 => Lib.hid (put_ok (turnE c z) w8 hfi)
    have hz1 := (HZ7.out.but hb (by rw [List.mem_singleton]; omega)).cell (j := 0) rfl
    have HT1 := Lib.hid ((HBB7.out.but hb (by rw [List.mem_singleton]; omega)))
    clear ho hb hpr hfi
    have hs7W := HBW.out.size
    gi_wp2_with fail
    refine ⟨trivial, (CallsIn.inRound l' (callsIn_wide.2 HTU.out)).mono ?_⟩
    rintro e w8 ⟨rfl, hb8⟩
    have HB8 := Lib.hid hb8
    clear hb8
    gi_wp2_with fail
    refine ⟨trivial, (CallsIn.inRound l' (callsIn_wide.2 (HPU w8).out)).mono ?_⟩
    rintro e w9 ⟨v9, rfl, ho9, hb9⟩
    obtain ⟨A9, cap9, rfl, hcap9, hby9, hA9, hob9⟩ := OwnB.form ho9
    obtain ⟨a9, rfl⟩ : ∃ a9, A9 = some a9 := by
      obtain ⟨b, off, hA, _⟩ := hby9 (by intro e; have := (enc_length (turnE c z)).1; rw [e] at this; simp at this)
      exact ⟨_, hA⟩
    have hb89 := HB8.out.trans (hb9.mono HB8.out.size)
    have HB9 := Lib.hid hb89
    have hct := (HT1.out.but (But.of_below (S := []) hb89) (by intro h; cases h)).cell (j := 0) rfl
    have HO9 := Lib.hid (HOW.out.below hb89)
    have HBY9 := Lib.hid hby9
    clear ho9 hb9 hby9 hA9 hob9 hb89
    have k1 : (i : Int) ≤ (l.length : Int) := by omega
    have k2 : (i : Int) ≤ (cap4 : Int) := by omega
    have k3 : ¬ cap4 = i := by omega
    gi_wp2_with (refine wpListIn_copy_own rfl (.tmp 44) (.tmp 45) rfl (x := enc (turnE c z)) i _ _ _ _ _ rfl rfl (by omega) rfl HBY9.out HO9.out (by omega) ?_; intro w10 kk HO10 HB10)
    have hfold : (pre ++ [(⟨(i, c), hx⟩ : SC l)]).foldl (fun b x => stepE z b x.1) l = splice t i ((enc (turnE c z)).take (t.length - i)) := by
      rw [List.foldl_append, ht]; rfl
    have hb910 : Below w.heap.size w9 w10 := HB10.out.below (by have := HB9.out.size; omega) (by intro k hk; rw [List.mem_singleton] at hk; omega)
    have hg9 : ∃ cur, Blk w9 g cur 5 := by
      obtain ⟨_, _, cur, h, _⟩ := ownB_row HO9.out
      exact ⟨cur, h⟩
    obtain ⟨cur, hg9⟩ := hg9
    refine ⟨(keepsFrom_below HB9.out).trans (keepsFrom_but hg9 HB10.out), ⟨(HB9.out.mono (by omega)).trans hb910, fun k hk => ?_⟩, ?_, ?_⟩
    · have hk' := HSM.out k hk
      rw [HB10.out.block k (by have := HB9.out.size; omega) (by rw [List.mem_singleton]; omega)]
      exact HB9.out.block k (by omega)
    · rw [hfold, ← htl]; exact HO10.out
    · exact (HBW.out.trans (But.of_below HB9.out)).trans HB10.out
  case done =>
    rintro D ys W hD hys ⟨ho, hb⟩ hK
    clear HC HA HBC HS hW7 hW5 hb7 hc7 HP HZ HQ HP2 HZ2 HQ2 HP4 HZ4 HQ4 HP5 HZ5 HQ5 HP6 HZ6 HQ6 HBB5 HBB6 HB0 HB4 HB5 HB6 HO5 HO6 HO7 HBY6
    rename_i hK1 K2 hK2
    rw [fold_val, hys, planE_fold] at ho
    have hbB : Below w.heap.size W7 W := hb.below HB7.out.size (fun k hk => by have := (HGS.out k hk).1; omega)
    have hbW := HB7.out.trans hbB
    have HOP := Lib.hid (H.out.below hbW)
    have hp := HP7.out.but hb (fun hk => by have := (HGS.out _ hk).1; omega)
    have hq := HQ7.out.but hb (fun hk => by have := (HGS.out _ hk).1; omega)
    have hbb := HBB7.out.but hb (fun hk => by have := (HGS.out _ hk).2; omega)
    have HPW := Lib.hid hp
    have HQW := Lib.hid hq
    have HBBW := Lib.hid hbb
    have HOW := Lib.hid ho
    have HBW := Lib.hid hbW
    have HKD := Lib.hid hK
    have hs7W := hb.size
    have hltW := hp.lt
    clear ho hb hbB hbW hp hq hbb hK HZ7 HP7 HQ7 HBB7 H HB7 HT HB2 HO4 HSM hS hgs HGS hys
    have HS : Hid (∀ V, Hid (Below W.heap.size W V) → Hid (Below W.heap.size W V) ∧ V.cell? ⟨w.heap.size, 0, none⟩ = some (.int .u32 0) ∧ V.cell? ⟨w.heap.size, 1, none⟩ = some (.int .u8 0) ∧ V.cell? ⟨w.heap.size, 2, none⟩ = some (.int .u8 0) ∧ V.cell? ⟨w.heap.size, 3, none⟩ = some (.slice (some ⟨bi, 0, none⟩) 1 1) ∧ V.cell? ⟨w.heap.size, 4, none⟩ = some (.slice none 0 0) ∧ V.cell? ⟨w.heap.size, 5, none⟩ = some (.slice none 0 0) ∧ V.cell? ⟨w.heap.size, 6, none⟩ = some (.slice none 0 0)) := fun V hV => by
      have hb := HPW.out.but (But.of_below (S := []) hV.out) (by intro h; cases h)
      exact ⟨hV, hb.cell rfl, hb.cell rfl, hb.cell rfl, hb.cell rfl, hb.cell rfl, hb.cell rfl, hb.cell rfl⟩
    have HPC : Hid (∀ V, Hid (Below W.heap.size W V) → Calls Tryd.prog 34 #[.slice (some ⟨bi, 0, none⟩) 1 1] V fun e w' => ∃ g c cur, e = .returned (.slice (some ⟨g, 0, none⟩) 1 c) ∧ V.heap.size ≤ g ∧ Hid (Blk w' g cur 49) ∧ 4 ≤ cur.size ∧ Hid (cur.toList.take 4 = [.float .f64 0, .int .i64 0, .int .i64 0, .slice A l.length cap]) ∧ Hid (Below W.heap.size W w') ∧ Hid (Below V.heap.size V w')) := fun V hV => (pclone bi A cap l V (HOP.out.below hV.out)).mono fun e w' ⟨g, c, cur, h1, h2, h3, h4, h5, h6⟩ => ⟨g, c, cur, h1, h2, h3, h4, h5, hV.out.trans (h6.mono hV.out.size), h6⟩
    have cB0 : Hid (Below W.heap.size W W) := Below.refl _ _
    have c0 := HS.out W cB0
    have c0d := HS.out W.drew (hb_drew cB0)
    refine hK2 _ _ ?_
    refine wpIn_wide.2 ?_
    dsimp only
    go_upto_region 11 with fail
    go_cut [14] from 47 to 61 (fun v wx => RQ W A cap l v wx)
    case first =>
      have hn1 : ¬ W.heap.size = w.heap.size := by omega
      have hn2 : ¬ w.heap.size = W.heap.size := by omega
      obtain ⟨-, s0, s1, s2, s3, s4, s5, s6⟩ := c0
      clear c0d
      go_region_held3 (fun V => V.cell? ⟨w.heap.size, 0, none⟩ = some (.int .u32 0) ∧ V.cell? ⟨w.heap.size, 1, none⟩ = some (.int .u8 0) ∧ V.cell? ⟨w.heap.size, 2, none⟩ = some (.int .u8 0) ∧ V.cell? ⟨w.heap.size, 3, none⟩ = some (.slice (some ⟨bi, 0, none⟩) 1 1) ∧ V.cell? ⟨w.heap.size, 4, none⟩ = some (.slice none 0 0) ∧ V.cell? ⟨w.heap.size, 5, none⟩ = some (.slice none 0 0) ∧ V.cell? ⟨w.heap.size, 6, none⟩ = some (.slice none 0 0))
        (first | (with_reducible assumption) | go_keep)
        (first
        | (go_at_call 34; refine (HPC.out _ ?_).mono ?_; (first | exact hb_drew cB0 | exact hb_drew (hb_alloc cB0 _)); rintro e v1 ⟨g, c, cur, rfl, hg, HG, h4, HG4, hbv, HBV⟩; obtain ⟨-, t0, t1, t2, t3, t4, t5, t6⟩ := HS.out _ hbv; (try ((with_reducible have hq' := (Blk.drew (Blk.new W #[.int .u32 0, .int .u8 0, .int .u8 0, .slice none 0 0, .slice none 0 0, .slice none 0 0, .slice none 0 0] 35)).but (But.of_below (S := []) HBV.out) List.not_mem_nil); have HQ0 : Hid (Blk v1 W.heap.size #[.int .u32 0, .int .u8 0, .int .u8 0, .slice none 0 0, .slice none 0 0, .slice none 0 0, .slice none 0 0] 35) := hq'; clear hq'; have q0 := HQ0.out.cell (j := 0) rfl; have q1 := HQ0.out.cell (j := 1) rfl; have q2 := HQ0.out.cell (j := 2) rfl; have q3 := HQ0.out.cell (j := 3) rfl; have q4 := HQ0.out.cell (j := 4) rfl; have q5 := HQ0.out.cell (j := 5) rfl; have q6 := HQ0.out.cell (j := 6) rfl; have r0 := HQ0.out.free 0; have r1 := HQ0.out.free 1; have r2 := HQ0.out.free 2; have r3 := HQ0.out.free 3; have r4 := HQ0.out.free 4; have r5 := HQ0.out.free 5; have r6 := HQ0.out.free 6)))
        | (go_at_call 35; refine (iclone _).mono ?_; rintro e v2 ⟨rfl, rfl⟩))
      all_goals
        have hgW : W.heap.size ≤ g := by first | exact hg | (simp at hg; omega)
        go_wp2_with fail
        go_meet
        first
        | (have hq := HQ0; exact ⟨W.heap.size, g, c, cur, rfl, Blk.set (Blk.set (Blk.set (Blk.set (Blk.set (Blk.set (Blk.set hq.out 0 _) 1 _) 2 _) 3 _) 4 _) 5 _) 6 _, Nat.le_refl _, set7_other HG.out (by simp at hg; omega), hgW, (by simp at hg; omega), h4, HG4, hb_sets7 hbv⟩)
        | exact ⟨_, g, c, cur, rfl, Blk.new _ _ _, hbv.out.size, HG.out.alloc _, hgW, Nat.ne_of_lt HG.out.lt, h4, HG4, hbv.out.alloc hbv.out.size _⟩
    case rest =>
      obtain ⟨bq, g, c, cur, rfl, HQB, hbq, HG, hg, hgq, h4, HG4, HBC⟩ := hcut
      have hcs := HS.out wc HBC
      obtain ⟨-, p0, p1, p2, p3, p4, p5, p6⟩ := hcs
      have HOR := Lib.hid (order1 bi A cap l wc (HOP.out.below HBC.out))
      have hswc := HBC.out.size
      have HQWc := Lib.hid (HQW.out.but (But.of_below (S := []) HBC.out) List.not_mem_nil)
      have HPWc := Lib.hid (HPW.out.but (But.of_below (S := []) HBC.out) List.not_mem_nil)
      have HBBc := Lib.hid (HBBW.out.but (But.of_below (S := []) HBC.out) List.not_mem_nil)
      have HOPc := Lib.hid (HOP.out.below HBC.out)
      have HOWc := Lib.hid (HOW.out.below HBC.out)
      have HBWc := Lib.hid (HBW.out.trans (HBC.out.mono HBW.out.size))
      have hltD : D < W.heap.size := (Array.getElem?_eq_some_iff.1 HKD.out).1
      have HKc : Hid (wc.heap[D]? = some (.deferred (some []))) := (HBC.out.block D hltD).trans HKD.out
      have hgl : g < wc.heap.size := HG.out.lt
      have hql : bq < wc.heap.size := HQB.out.lt
      have hlw2 := HQW.out.lt
      have hlw4 := HBBW.out.lt
      have hbil := HOP.out.lt
      clear HQW HPW HBBW HOP HOW HBW HKD HPC c0 c0d cB0 HS HBC
      unfold planV at HOR
      go_wp2_with fail
      refine (HOR.out).mono ?_
      rintro e w12 ⟨go, rfl, hgo, hb12⟩
      have hs12 := hb12.size
      have HQB2 := Lib.hid (HQB.out.but (But.of_below (S := []) hb12) List.not_mem_nil)
      have HG2 := Lib.hid (HG.out.but (But.of_below (S := []) hb12) List.not_mem_nil)
      have HQW2 := Lib.hid (HQWc.out.but (But.of_below (S := []) hb12) List.not_mem_nil)
      have HPW2 := Lib.hid (HPWc.out.but (But.of_below (S := []) hb12) List.not_mem_nil)
      have HBB2 := Lib.hid (HBBc.out.but (But.of_below (S := []) hb12) List.not_mem_nil)
      have HOP2 := Lib.hid (HOPc.out.below hb12)
      have HOW2 := Lib.hid (HOWc.out.below hb12)
      have HBW2 := Lib.hid (HBWc.out.trans (hb12.mono HBWc.out.size))
      have HK2 : Hid (w12.heap[D]? = some (.deferred (some []))) := (hb12.block D (by omega)).trans HKc.out
      clear p0 p1 p2 p3 p4 p5 p6 HQB HG HQWc HPWc HBBc HOPc HOWc HBWc HKc hb12 HOR
      go_wp2
      go_loopw [65] (fun i wr => RL w w12 l z bq g c D i wr) (fun i _ => 1 - (RowKit.intOf i).toNat)
      case atStart => exact .inl ⟨rfl, rfl⟩
      case round =>
        rcases hrel with ⟨rfl, rfl⟩ | ⟨rfl, HE⟩
        · have e0 := HPW2.out.cell (j := 3) rfl
          have e1 := HOP2.out.row.cell (j := 3) rfl
          have e2 := HQB2.out.cell (j := 3) rfl
          have e3 := HBB2.out.cell (j := 0) rfl
          have k1 : (0 : Int) ≤ (l.length : Int) := by omega
          have k2 : (l.length : Int) ≤ (cap4 : Int) := by omega
          have hBCL : Hid (∀ V, Hid (Below wr.heap.size wr V) → Calls Tryd.prog 33 #[.slice A4 l.length cap4] V fun e w' => ∃ A9 cap9, e = .returned (.slice A9 l.length cap9) ∧ l.length ≤ cap9 ∧ Hid (BytesAt w' A9 (planE z l)) ∧ Hid (∀ a, A9 = some a → wr.heap.size ≤ a.block ∧ a.block < w'.heap.size) ∧ Hid (But [g] wr w') ∧ Hid (Below wr.heap.size wr w') ∧ Hid (Blk w' g cur 49)) := by
            intro V hV
            have h1 := bclone A4 cap4 (planE z l) V ?_ ?_ ?_ ?_
            · rw [planE_len] at h1
              refine h1.mono ?_
              rintro e w' ⟨v, rfl, ho, hb⟩
              have hlt := fun k hk => OwnB.lt ho (k := k) hk
              obtain ⟨A9, cap9, rfl, h2, h3, h4, h5⟩ := OwnB.form ho
              rw [planE_len] at h2 hlt h5
              rw [h5] at hlt
              refine ⟨A9, cap9, by rw [planE_len], h2, h3, ?_, But.of_below (hV.out.trans (hb.mono hV.out.size)), hV.out.trans (hb.mono hV.out.size), (HG2.out.but (But.of_below (S := []) hV.out) List.not_mem_nil).but (But.of_below (S := []) hb) List.not_mem_nil⟩
              intro a ha
              have h6 := hlt a.block (by rw [ha]; rfl)
              exact ⟨Nat.le_trans hV.out.size h6.1, h6.2⟩
            · obtain ⟨A', cap', hv', hc', hb', _⟩ := OwnB.form (HOW2.out.below hV.out)
              injection hv' with e1 e2 e3
              subst e1
              exact hb'
            · rw [planE_len]; exact hcap4
            · rw [planE_len]; exact hm
            · intro e
              have h1 := HN4.out e
              refine ⟨List.eq_nil_of_length_eq_zero (by rw [planE_len, h1.1]; rfl), h1.2⟩
          have hS16 : Hid (∀ V, Hid (But [g] wr V) → Hid (But [g] wr V) ∧ V.cell? ⟨bq, 3, none⟩ = some (.slice (some ⟨g, 0, none⟩) 1 c) ∧ V.cell? ⟨w4.heap.size, 0, none⟩ = some (.slice A4 l.length cap4)) := fun V hV =>
            ⟨hV, (HQB2.out.but hV.out (by rw [List.mem_singleton]; omega)).cell rfl, (HBB2.out.but hV.out (by rw [List.mem_singleton]; omega)).cell rfl⟩
          have cB0 : Hid (Below wr.heap.size wr wr) := Below.refl _ _
          have cU0 : Hid (But [g] wr wr) := But.refl _ _
          have c0 := hS16.out _ cU0
          have c0d := hS16.out _ (hu_drew cU0)
          have hgb : ¬ g = w4.heap.size := by omega
          have hcu : cur[3]? = some (.slice A l.length cap) := by
            have := HG4.out
            rw [← Array.getElem?_toList, ← List.getElem?_take_of_lt (show 3 < 4 by omega), this]
            rfl
          go_wp2_with fail
          go_region_held3 (fun V => Hid (But [g] wr V) ∧ V.cell? ⟨bq, 3, none⟩ = some (.slice (some ⟨g, 0, none⟩) 1 c) ∧ V.cell? ⟨w4.heap.size, 0, none⟩ = some (.slice A4 l.length cap4))
            (first | (with_reducible assumption) | (with_reducible exact hS16.out _ (by assumption)) | (with_reducible exact hS16.out _ (hu_drew (by assumption))) | (with_reducible exact hS16.out _ (hu_set (by assumption))) | (with_reducible exact hS16.out _ (hu_drew (hu_set (by assumption)))))
            (first
            | (go_at_call 33; refine (hBCL.out _ ?_).mono ?_; (first | (with_reducible assumption) | (with_reducible exact hb_drew (by assumption))); rintro e v1 ⟨A9, cap9, rfl, hcap9, HBY9, HA9, hbu, hbv, HGv⟩; have g3 := HGv.out.cell hcu; have g4 := HGv.out.free 3))
          obtain ⟨w14, hw14⟩ : ∃ w14, v1.setCell ⟨g, 3, none⟩ (.slice A9 l.length cap9) = w14 := ⟨_, rfl⟩
          rw [hw14]
          have hu14 : But [g] wr w14 := by rw [← hw14]; exact (hu_set hbu).out
          have hg14 : Blk w14 g (cur.setIfInBounds 3 (.slice A9 l.length cap9)) 49 := by rw [← hw14]; exact HGv.out.set 3 _
          have hb14 : BytesAt w14 A9 (planE z l) := by rw [← hw14]; exact bytes_same HBY9.out (by simp [World.setCell]) (fun ad hA _ => heap_setCell_other _ _ _ _ (by have := (HA9.out ad hA).1; show ad.block ≠ g; omega))
          have hs14 : v1.heap.size = w14.heap.size := by rw [← hw14]; simp [World.setCell]
          have hbx14 := HBB2.out.but hu14 (by rw [List.mem_singleton]; omega)
          have c5 := hbx14.cell (j := 0) rfl
          have f5 := hbx14.free 0
          have HU14 := Lib.hid hu14
          have HG14 := Lib.hid hg14
          have HB14 := Lib.hid hb14
          have hwg : wr.heap.size ≤ w14.heap.size := hu14.size
          clear hu14 hg14 hb14 hbx14 hw14 e0 e1 e2 e3 c0 c0d g3 g4
          go_wp2_with fail
          go_roundw
          case rel =>
            obtain ⟨u7, hu7⟩ : ∃ u7, Value.slice (if cap4 = l.length then A4 else Option.map (fun x => x.add l.length) A4) 0 (cap4 - l.length) = u7 := ⟨_, rfl⟩
            rw [hu7]
            have hF : But [g, w4.heap.size] wr (w14.setCell ⟨w4.heap.size, 0, none⟩ u7) := But.set (p := ⟨w4.heap.size, 0, none⟩) (HU14.out.mono (by intro k hk _; rw [List.mem_singleton] at hk; simp [hk])) (.inl (by simp)) _
            have hne : ∀ k, k ≠ g → k ≠ w4.heap.size → k ∉ [g, w4.heap.size] := by intro k h1 h2 h3; simp at h3; omega
            have hlD : D < wr.heap.size := (Array.getElem?_eq_some_iff.1 HK2.out).1
            have hsF : (w14.setCell ⟨w4.heap.size, 0, none⟩ u7).heap.size = w14.heap.size := by simp [World.setCell]
            refine .inr ⟨rfl, A9, cap9, ?_, hcap9, ?_, ?_, ?_, ?_, ?_, ?_, ?_⟩
            · rw [World.cell?_of_block (w := w14) (heap_setCell_other _ _ _ _ (by show g ≠ w4.heap.size; exact hgb))]
              refine HG14.out.cell ?_
              rw [Array.getElem?_setIfInBounds_self_of_lt (by omega)]
            · exact bytes_same HB14.out (by omega) (fun ad hA _ => heap_setCell_other _ _ _ _ (by have := (HA9.out ad hA).1; show ad.block ≠ w4.heap.size; omega))
            · intro a ha
              have := HA9.out a ha
              exact ⟨this.1, by omega⟩
            · have := HG14.out.lt; omega
            · exact HQB2.out.but hF (hne _ (fun e => hgq e.symm) (by omega))
            · exact HQW2.out.but hF (hne _ (by omega) (by omega))
            · exact HBW2.out.trans (hF.below (by omega) (by intro k hk; simp at hk; omega))
            · exact (hF.block D hlD (hne _ (by omega) (by omega))).trans HK2.out
          case measure => simp [RowKit.intOf]
        · obtain ⟨A9, cap9, hc9, hcap9, hby9, hA9, hgl9, hq9, hz9, hb9, hk9⟩ := HE.out
          have HBY9 := Lib.hid hby9
          have HA9 := Lib.hid hA9
          have HZ9 := Lib.hid hz9
          have HB9 := Lib.hid hb9
          have HK9 := Lib.hid hk9
          have q0 := hq9.cell (j := 0) rfl
          have q1 := hq9.cell (j := 1) rfl
          have q2 := hq9.cell (j := 2) rfl
          have q3 := hq9.cell (j := 3) rfl
          have q4 := hq9.cell (j := 4) rfl
          have q5 := hq9.cell (j := 5) rfl
          have q6 := hq9.cell (j := 6) rfl
          have z0 := hz9.cell (j := 0) rfl
          have z1 := hz9.cell (j := 1) rfl
          have z2 := hz9.cell (j := 2) rfl
          have z3 := hz9.cell (j := 3) rfl
          have z4 := hz9.cell (j := 4) rfl
          have z5 := hz9.cell (j := 5) rfl
          have z6 := hz9.cell (j := 6) rfl
          have y0 := hz9.free 0
          have y1 := hz9.free 1
          have y2 := hz9.free 2
          have y3 := hz9.free 3
          have y4 := hz9.free 4
          have y5 := hz9.free 5
          have y6 := hz9.free 6
          clear hby9 hA9 hz9 hb9 hk9 hq9
          go_wp2_with fail
          obtain ⟨WE, hWE⟩ : ∃ WE, ((((((wr.setCell ⟨w.heap.size + 1 + 1, 0, none⟩ (.int .u32 0)).setCell ⟨w.heap.size + 1 + 1, 1, none⟩ (.int .u8 0)).setCell ⟨w.heap.size + 1 + 1, 2, none⟩ (.int .u8 0)).setCell ⟨w.heap.size + 1 + 1, 3, none⟩ (.slice (some ⟨g, 0, none⟩) 1 c)).setCell ⟨w.heap.size + 1 + 1, 4, none⟩ (.slice none 0 0)).setCell ⟨w.heap.size + 1 + 1, 5, none⟩ (.slice none 0 0)).setCell ⟨w.heap.size + 1 + 1, 6, none⟩ (.slice none 0 0) = WE := ⟨_, rfl⟩
          have hWB : Blk WE (w.heap.size + 2) #[.int .u32 0, .int .u8 0, .int .u8 0, .slice (some ⟨g, 0, none⟩) 1 c, .slice none 0 0, .slice none 0 0, .slice none 0 0] 35 := by
            rw [← hWE]; exact Blk.set (Blk.set (Blk.set (Blk.set (Blk.set (Blk.set (Blk.set HZ9.out 0 _) 1 _) 2 _) 3 _) 4 _) 5 _) 6 _
          have hWbut : But [w.heap.size + 1 + 1] wr WE := by
            rw [← hWE]
            exact but_set1 (but_set1 (but_set1 (but_set1 (but_set1 (but_set1 (but_set1 (But.refl _ _) _ _) _ _) _ _) _ _) _ _) _ _) _ _
          rw [hWE]
          have hlD : D < wr.heap.size := (Array.getElem?_eq_some_iff.1 HK9.out).1
          have hKE : WE.heap[D]? = some (.deferred (some [])) := (hWbut.block D hlD (by rw [List.mem_singleton]; omega)).trans HK9.out
          refine ⟨by simp, .inl ⟨_, _, rfl, run_takeDeferred hKE, ?_⟩⟩
          have hgp := grownBy_putObj' WE D (.deferred none)
          have hWB' : Blk (WE.putObj D (.deferred none)) (w.heap.size + 2) #[.int .u32 0, .int .u8 0, .int .u8 0, .slice (some ⟨g, 0, none⟩) 1 c, .slice none 0 0, .slice none 0 0, .slice none 0 0] 35 := (hgp.block _ hWB.lt (by intro e; have := Option.some.inj e; omega)).trans hWB
          refine ⟨_, results_cell2t rfl _ _ (w.heap.size + 2) 35 _ _ rfl hWB' Tryd.underlying35 rfl (by kernel_rfl), g, c, A9, cap9, rfl, ?_, hcap9, ?_, ?_⟩
          · rw [World.cell?_of_block (w := WE) (hgp.block g (by have := hWbut.size; omega) (by intro e; have := Option.some.inj e; omega)), World.cell?_of_block (w := wr) (hWbut.block g hgl9 (by rw [List.mem_singleton]; omega))]
            exact hc9
          · have hby1 : BytesAt WE A9 (planE z l) := bytes_same HBY9.out hWbut.size (fun ad hA _ => hWbut.block _ (HA9.out ad hA).2 (by have := (HA9.out ad hA).1; rw [List.mem_singleton]; omega))
            exact bytes_same hby1 hgp.size (fun ad hA _ => hgp.block _ (Nat.lt_of_lt_of_le (HA9.out ad hA).2 hWbut.size) (by intro e; have := Option.some.inj e; have := (HA9.out ad hA).1; omega))
          · exact (HB9.out.trans (hWbut.below (by omega) (by intro k hk; rw [List.mem_singleton] at hk; omega))).trans (belowK_b (w := w) (Nat.le_refl _) WE D _ _ (by omega) hKE rfl rfl)

end
end Go.Proofs.YtbflcikfaoojmaaDoor.Edit

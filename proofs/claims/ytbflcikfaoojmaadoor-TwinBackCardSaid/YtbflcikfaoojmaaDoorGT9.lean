/- Texts joined: Tw9; TwA. -/
import Derived.RangeFuncBox
import Derived.Maps.AppendAt
import Derived.Test.YtbflcikfaoojmaaDoorGT4
/- twin.Secret of a plan of one item. -/
set_option linter.unusedVariables false
set_option linter.unusedSimpArgs false
namespace Go.Proofs.YtbflcikfaoojmaaDoor.Edit
open Go.RowKit Go.Lib Go.Shelf ChangeShapes Mem Utf UtfP

theorem ownsRow_base {W : World} {n m : Nat} {e : TypeId} {size k : Nat} {v : Value} {xs : List Value} (h : W.ownsRow n e size v k xs) (hm : m ≤ n) : W.ownsRow m e size v k xs := by
  refine ⟨h.1, ?_⟩
  rcases h.2 with h | ⟨g, cap, cur, rfl, hb, hr⟩
  · exact .inl h
  · exact .inr ⟨g, cap, cur, rfl, by omega, hr⟩
theorem ownsRow_blk {W : World} {n : Nat} {e : TypeId} {size k : Nat} {v : Value} {xs : List Value} (h : W.ownsRow n e size v k xs) : ∀ j, v.ownBlock = some j → n ≤ j := by
  intro j hj
  rcases h.2 with ⟨rfl, _⟩ | ⟨g, cap, cur, rfl, hb, hr⟩
  · cases hj
  · simp [Value.ownBlock] at hj; omega

theorem boxed_keeps {W w1 : World} {n B : Nat} {t e : TypeId} {size : Nat} {v v' : Value} {k m : Nat} {xs ys : List Value} {tmp : Obj} {S : List Nat}
    (hv : Boxed W B t v) (hte : t ≠ e) (hrow : W.ownsRow n e size v k xs) (hn : n ≤ W.heap.size) (hB : B < n) (hown' : w1.ownsRow n e size v' m ys) (hgrow : (W.alloc tmp).grownBy w1 v.ownBlock) (hS : ∀ j ∈ S, j < n ∧ j ≠ B) :
    Boxed w1 B t v ∧ Boxed (w1.setCell ⟨B, 0, none⟩ v') B t v' ∧ (w1.setCell ⟨B, 0, none⟩ v').ownsRow n e size v' m ys ∧ KeepsOthers W (w1.setCell ⟨B, 0, none⟩ v') ∧ Below B W (w1.setCell ⟨B, 0, none⟩ v') ∧ ∀ j ∈ S, (w1.setCell ⟨B, 0, none⟩ v').heap[j]? = W.heap[j]? := by
  obtain ⟨h1, h2, h3, h4, h5⟩ := hv.appended hte (ownsRow_base hrow (Nat.le_of_lt hB)) (by omega) (Nat.le_refl _) (ownsRow_base hown' (Nat.le_of_lt hB)) hgrow
  refine ⟨h1, h2, ?_, h4, h5, fun j hj => ?_⟩
  · exact hown'.kept (grownBy_setCell' w1 B v') (.inr (fun e' => by
      have := ownsRow_blk hown' B (by rw [← e'])
      omega))
  · obtain ⟨hj1, hj2⟩ := hS j hj
    rw [heap_setCell_other _ _ _ _ hj2, hgrow.block j (by simp; omega) (fun e' => by have := ownsRow_blk hrow j e'.symm; omega), Below.heap_alloc _ _ _ (by omega)]

theorem kpS_b {n1 : Nat} {S : List Nat} {w : World} (hn : n1 ≤ w.heap.size) (hS : ∀ k ∈ S, k < w.heap.size) (W : World) (l : Nat) (o o' : Obj) (hl : w.heap.size ≤ l) (h : W.heap[l]? = some o) (hc : o.isCells = false) (hw : o.isWalk = false) : KpS n1 S W (W.putObj l o') :=
  ⟨belowK_b hn W l o o' hl h hc hw, fun k hk => (grownBy_putObj' W l o').block k (by have := hS k hk; have := (Array.getElem?_eq_some_iff.1 h).1; omega) (fun e => by have h1 := hS k hk; have h2 : k = l := Option.some.inj e; omega)⟩

theorem sec_stops (n : Nat) (hn : 1 ≤ n) (b : List UInt8) (A : Option Addr) (cap bx : Nat) (w0 w1 : World) (hT : Tabs w0) (hb : Below w0.heap.size w0 w1) (S : List Nat) (hbx : bx ∈ S) (hAS : ∀ ad, A = some ad → b ≠ [] → ad.block ∈ S) (hS : ∀ k ∈ S, k < w1.heap.size)
    (hcell : w1.cell? ⟨bx, 0, none⟩ = some (.slice A b.length cap)) (hby : BytesAt w1 A b) (hcap : b.length ≤ cap) (hm : b.length ≤ 1000000) :
    SeqStopsK Fence.wide n Tryd.prog 48 #[.pointer (some ⟨bx, 0, none⟩)] (encS (b := b)) (KpS w0.heap.size S) (fun ys => ys.map Subtype.val = secE b) (fun _ => True) b.length w1 :=
  fun l J Jx W hW hJ hJx hY h0 => secret1_in n l hn b A cap bx w0 W hT S hbx hAS (fun k hk => Nat.lt_of_lt_of_le (hS k hk) hW.size) J Jx hJ hY (hb.trans (hW.mono hb.size)) ((hW.cell (p := ⟨bx, 0, none⟩) (hS bx hbx)).trans hcell) (hby.below hW) hcap hm h0

section
attribute [local go_sem] Oper.semAt_some

set_option maxRecDepth 100000 in
set_option maxHeartbeats 2000000 in
theorem secret1 (bi : Nat) (A : Option Addr) (cap : Nat) (l : List UInt8) (w : World) (h : OneP w bi A cap l) (hm : l.length ≤ 1000000) (hT : Tabs w) : Calls Tryd.prog 15 #[planV bi 1] w fun e w' => ∃ v, e = .returned (.tuple #[v, .int .i64 0]) ∧ w'.ownsRow w.heap.size 3 1 v (secE l).length ((secE l).map fun x => .int .i64 x.2) ∧ Below w.heap.size w w' := by
  obtain ⟨i0, hi, hz0, hz1, hz2⟩ := info_parts infoI
  obtain ⟨W0, hW0⟩ : ∃ W0, w.alloc (.cells #[.int .u32 0, .int .u8 0, .int .u8 0, .slice (some ⟨bi, 0, none⟩) 1 1, .slice none 0 0, .slice none 0 0, .slice none 0 0] 35) = W0 := ⟨_, rfl⟩
  have hb0 : Below w.heap.size w W0 := by rw [← hW0]; exact (Below.refl _ w).alloc (Nat.le_refl _) _
  have hp0 : Blk W0 w.heap.size #[.int .u32 0, .int .u8 0, .int .u8 0, .slice (some ⟨bi, 0, none⟩) 1 1, .slice none 0 0, .slice none 0 0, .slice none 0 0] 35 := by rw [← hW0]; exact Blk.new _ _ _
  have hs0 : W0.heap.size = w.heap.size + 1 := by rw [← hW0]; simp
  have HC := Lib.hid (check1 bi A cap l W0 (h.below hb0))
  have p0 := hp0.cell (j := 0) rfl
  have p1 := hp0.cell (j := 1) rfl
  have p2 := hp0.cell (j := 2) rfl
  have p3 := hp0.cell (j := 3) rfl
  have p4 := hp0.cell (j := 4) rfl
  have p5 := hp0.cell (j := 5) rfl
  have p6 := hp0.cell (j := 6) rfl
  have H := Lib.hid h
  have HP := Lib.hid hp0
  have HB0 := Lib.hid hb0
  have HT := Lib.hid hT
  clear h hp0 hb0 hT
  unfold planV at HC ⊢
  refine (callsIn_wide (n := 3)).1 ?_
  refine callsIn_of_wp_marks Tryd.func15 rfl trivial ?_ rfl
  simp only [Tryd.ntmps15, List.size_toArray, List.length_cons, List.length_nil, Nat.reduceAdd, Nat.reduceSub, Array.replicate_succ, Array.replicate_zero, List.push_toArray, List.append_toArray, List.nil_append, List.cons_append]
  gi_wp2_with fail
  refine ⟨trivial, (callsIn_wide.2 HC.out).mono ?_⟩
  rintro e w2 ⟨rfl, hb2⟩
  have hs2 := hb2.size
  have hp2 := HP.out.but (But.of_below (S := []) hb2) (by intro h; cases h)
  have HB2 := Lib.hid (HB0.out.trans (hb2.mono (by omega)))
  obtain ⟨W3, hW3⟩ : ∃ W3, w2.alloc (.cells #[.slice none 0 0] 33) = W3 := ⟨_, rfl⟩
  have hb3 : Below w2.heap.size w2 W3 := by rw [← hW3]; exact (Below.refl _ w2).alloc (Nat.le_refl _) _
  have hp3 := hp2.but (But.of_below (S := []) hb3) (by intro h; cases h)
  have bX3 : Boxed W3 w2.heap.size 33 (.slice none 0 0) := by rw [← hW3]; exact Boxed.new _ _ _
  have hs3 : W3.heap.size = w2.heap.size + 1 := by rw [← hW3]; simp
  have HB3 := Lib.hid (HB2.out.trans (hb3.mono HB2.out.size))
  have HA := Lib.hid (all1 bi A cap l W3 (H.out.below HB3.out) hm)
  have HX3 := Lib.hid bX3
  clear p0 p1 p2 p3 p4 p5 p6 hb2 hp2 hb3 bX3
  have p0 := hp3.cell (j := 0) rfl
  have p1 := hp3.cell (j := 1) rfl
  have p2 := hp3.cell (j := 2) rfl
  have p3 := hp3.cell (j := 3) rfl
  have p4 := hp3.cell (j := 4) rfl
  have p5 := hp3.cell (j := 5) rfl
  have p6 := hp3.cell (j := 6) rfl
  clear hp3
  unfold planV at HA
  gi_wp2_with fail
  refine ⟨trivial, (callsIn_wide.2 HA.out).mono ?_⟩
  rintro e w4 ⟨v4, rfl, ho4, hb4⟩
  have hlt4 := fun k hk => OwnB.lt ho4 (k := k) hk
  obtain ⟨A4, cap4, rfl, hcap4, hby4, hA4, hob4⟩ := OwnB.form ho4
  rw [hob4] at hlt4
  have HLT4 := Lib.hid hlt4
  have HB4 := Lib.hid (HB3.out.trans (hb4.mono HB3.out.size))
  have HX4 : Hid (Boxed w4 w2.heap.size 33 (.slice none 0 0)) := (hb4.block w2.heap.size (by omega)).trans HX3.out
  have hs4 := hb4.size
  have HS := Lib.hid (secret_c (.slice A4 l.length cap4) w4 ⟨_, _, _, rfl⟩)
  have HA4 := Lib.hid hA4
  have HBY4 := Lib.hid hby4
  clear p0 p1 p2 p3 p4 p5 p6 hb4 ho4 hA4 hby4 hob4 hlt4
  gi_wp2_with fail
  refine ⟨trivial, (callsIn_wide.2 HS.out).mono ?_⟩
  rintro e w5 ⟨rfl, rfl⟩
  gi_wp2_with fail
  obtain ⟨W5, hW5⟩ : ∃ W5, w4.alloc (.cells #[.slice A4 l.length cap4] 47) = W5 := ⟨_, rfl⟩
  have hb5 : Below w4.heap.size w4 W5 := by rw [← hW5]; exact (Below.refl _ w4).alloc (Nat.le_refl _) _
  have hc5 : W5.cell? ⟨w4.heap.size, 0, none⟩ = some (.slice A4 l.length cap4) := by rw [← hW5]; exact cell_alloc_new _ _ _ 0
  have hs5 : W5.heap.size = w4.heap.size + 1 := by rw [← hW5]; simp
  have HX5 : Hid (Boxed W5 w2.heap.size 33 (.slice none 0 0)) := (hb5.block w2.heap.size (by omega)).trans HX4.out
  have HB5 := Lib.hid (HB4.out.trans (hb5.mono HB4.out.size))
  rw [hW5]
  obtain ⟨S, hS⟩ : ∃ S, w4.heap.size :: (A4.map (·.block)).toList = S := ⟨_, rfl⟩
  have HSM : Hid (∀ k ∈ S, k < W5.heap.size ∧ k ≠ w2.heap.size) := by
    intro k hk
    rw [← hS] at hk
    rcases List.mem_cons.1 hk with rfl | hk
    · exact ⟨by omega, by omega⟩
    · have := HLT4.out k (by simpa using hk)
      exact ⟨by omega, by omega⟩
  refine wpIn_rangeFunc_ownG rfl (by omega) (gf := 48) (lb := #[.pointer (some ⟨w4.heap.size, 0, none⟩)]) rfl trivial (enters_of Tryd.func48 (by kernel_rfl) rfl)
    (sec_stops (3 - 1) (by omega) l A4 cap4 w4.heap.size w W5 HT.out HB5.out S (by rw [← hS]; exact List.mem_cons_self) (fun ad hA _ => by rw [← hS, hA]; simp) (fun k hk => (HSM.out k hk).1) hc5 (HBY4.out.below hb5) hcap4 hm)
    KpS.trans (kpS_b HB5.out.size (fun k hk => (HSM.out k hk).1)) (Below.refl _ _) (fun _ => rfl)
    (fun (pre : List (SC l)) W => (∃ v, Boxed W w2.heap.size 33 v ∧ W.ownsRow W5.heap.size 3 1 v pre.length (pre.map fun x => .int .i64 x.1.2) ∧ True) ∧ Below w.heap.size W5 W)
    (fun _ _ _ => False)
    (OwnFrom.and (Own.from (holdsRow_own W5.heap.size w2.heap.size 33 3 1 (fun (pre : List (SC l)) => pre.length) (fun pre => pre.map fun x => .int .i64 x.1.2) (fun _ _ => True)) _) (ownFrom_below HB5.out.size HB5.out.size))
    (fun _ _ _ _ _ hs _ _ => hs)
    ⟨⟨_, HX5.out, World.ownsRow_nil _ _ _ _, trivial⟩, Below.refl _ _⟩
    (fun x => { tmps := #[.agg #[.int .u32 0, .int .u8 0, .int .u8 0, .slice (some ⟨bi, 0, none⟩) 1 1, .slice none 0 0, .slice none 0 0, .slice none 0 0], .pointer (some ⟨w.heap.size, 0, none⟩), .slice none 0 0, .int .i64 0, .int .i64 0, .pointer (some ⟨w2.heap.size, 0, none⟩), undef, .int .i64 x.1.2, .agg #[.int .u32 0, .int .u8 0, .int .u8 0, .slice (some ⟨bi, 0, none⟩) 1 1, .slice none 0 0, .slice none 0 0, .slice none 0 0], .int .i64 0, .int .i64 0, .bool false, undef, .agg #[.int .u32 0, .int .u8 0, .int .u8 0, .slice (some ⟨bi, 0, none⟩) 1 1, .slice none 0 0, .slice none 0 0, .slice none 0 0], .slice A4 l.length cap4, .func (.func 48) #[] #[.pointer (some ⟨w4.heap.size, 0, none⟩)], .int .i64 (x.1.1 : Int), .int .i64 x.1.2, undef, undef, undef, undef, undef], defers := [] }) ?assign ?body ?done ?stop
  case assign =>
    intro l' x W K hK
    dsimp only [encS]
    gi_wp2
    exact hK
  case body =>
    rintro l' pre x W ⟨⟨v, hv, hrow, -⟩, hB⟩ hlt
    have hc := hv.cell
    have hs5W := hB.size
    gi_wp2_with (gi_at_builtin; refine wpListIn_append_own _ rfl _ _ 33 rfl W5.heap.size 3 i0 (.int .i64 0) 1 8 Tryd.underlying33 hi hz0 hz1 hz2 rfl (by decide) _ _ _ rfl (hrow.alloc _) ⟨W.heap.size, 0, none⟩ 1 1 [.int .i64 x.1.2] rfl rfl (cell_one_new _ _ _) (by simp [Value.oneCell']) (by unfold maxLen; omega) (by omega) (by simp; omega) ?_; intro v' w1 hown' hgrow _; obtain ⟨g', cap', rfl⟩ := ownsRow_succ hown'; obtain ⟨hv1, hv2, hr2, hk2, hb2, hS2⟩ := boxed_keeps (S := S) hv (by decide) hrow hs5W (by omega) hown' hgrow HSM.out; have hc1 := hv1.cell; have hf1 := hv1.frozen)
    exact ⟨hk2.from _, ⟨hb2.mono (by omega), hS2⟩, ⟨_, hv2, by simpa using hr2, trivial⟩, hB.trans (hb2.mono (by omega))⟩
  case done =>
    rintro D ys W hD hys ⟨⟨v, hv, hrow, -⟩, hB⟩ hK
    have hc := hv.cell
    gi_wp2
    refine ⟨by simp, .inl ⟨_, _, rfl, run_takeDeferred hK, ?_⟩⟩
    refine ⟨_, results_tmp2 rfl _ _ _, v, rfl, ?_, (HB5.out.trans hB).trans (belowK_b (w := w) (Nat.le_refl _) W D _ _ (by omega) hK rfl rfl)⟩
    have := ownsRow_putObj hrow (.deferred none) hK rfl
    rw [← hys, List.length_map, List.map_map]
    exact ownsRow_base this (by omega)
  case stop =>
    rintro D c pre W _ _ h _
    exact h.elim

end
end Go.Proofs.YtbflcikfaoojmaaDoor.Edit

/- twin.Count of a plan of one item. -/
set_option linter.unusedVariables false
set_option linter.unusedSimpArgs false
namespace Go.Proofs.YtbflcikfaoojmaaDoor.Edit
open Go.RowKit Go.Lib Go.Shelf ChangeShapes Mem Utf UtfP

theorem ownsRow_form {W : World} {n : Nat} {e : TypeId} {size k : Nat} {v : Value} {xs : List Value} (h : W.ownsRow n e size v k xs) : ∃ A cap, v = .slice A k cap := by
  rcases h.2 with ⟨rfl, rfl⟩ | ⟨g, cap, cur, rfl, hb, hr⟩
  · exact ⟨_, _, rfl⟩
  · exact ⟨_, _, rfl⟩

set_option maxRecDepth 100000 in
set_option maxHeartbeats 1000000 in
theorem count1 (bi : Nat) (A : Option Addr) (cap : Nat) (l : List UInt8) (w : World) (h : OneP w bi A cap l) (hm : l.length ≤ 1000000) (hT : Tabs w) : Calls Tryd.prog 16 #[planV bi 1] w fun e w' => e = .returned (.tuple #[.int .i64 ((secE l).length : Int), .int .i64 0]) ∧ Below w.heap.size w w' := by
  obtain ⟨W0, hW0⟩ : ∃ W0, w.alloc (.cells #[.int .u32 0, .int .u8 0, .int .u8 0, .slice (some ⟨bi, 0, none⟩) 1 1, .slice none 0 0, .slice none 0 0, .slice none 0 0] 35) = W0 := ⟨_, rfl⟩
  have hb0 : Below w.heap.size w W0 := by rw [← hW0]; exact (Below.refl _ w).alloc (Nat.le_refl _) _
  have HS := Lib.hid (secret1 bi A cap l W0 (h.below hb0) hm (hT.below hb0))
  have hs0 : W0.heap.size = w.heap.size + 1 := by rw [← hW0]; simp
  have HB0 := Lib.hid hb0
  have hp0 : Blk W0 w.heap.size #[.int .u32 0, .int .u8 0, .int .u8 0, .slice (some ⟨bi, 0, none⟩) 1 1, .slice none 0 0, .slice none 0 0, .slice none 0 0] 35 := by rw [← hW0]; exact Blk.new _ _ _
  have p0 := hp0.cell (j := 0) rfl
  have p1 := hp0.cell (j := 1) rfl
  have p2 := hp0.cell (j := 2) rfl
  have p3 := hp0.cell (j := 3) rfl
  have p4 := hp0.cell (j := 4) rfl
  have p5 := hp0.cell (j := 5) rfl
  have p6 := hp0.cell (j := 6) rfl
  clear h hT hb0 hp0
  unfold planV at HS ⊢
  go_enter Tryd.func16, Tryd.ntmps16
  go_wp2_with fail
  refine (HS.out).mono ?_
  rintro e w1 ⟨v, rfl, hown, hb1⟩
  obtain ⟨A', cap', rfl⟩ := ownsRow_form hown
  have HB1 := Lib.hid (HB0.out.trans (hb1.mono (by omega)))
  clear hown hb1
  go_wp2
  go_ret2
  exact ⟨rfl, HB1.out⟩

end Go.Proofs.YtbflcikfaoojmaaDoor.Edit

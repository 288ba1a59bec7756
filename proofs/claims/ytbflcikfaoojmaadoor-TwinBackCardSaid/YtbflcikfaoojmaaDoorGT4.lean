/- Texts joined: Conv; TwO; Tw4; Tw6; Tw7; Tw8. -/
import Derived.Test.YtbflcikfaoojmaaDoorGB
import Derived.Lib.ConvBytes
import Derived.Laws.AppendOwn
import Derived.Test.YtbflcikfaoojmaaDoorHTw3
import Derived.Great.BuildSlice
/- The bytes of a string, in a row of their own. -/
set_option linter.unusedVariables false
set_option linter.unusedSimpArgs false
namespace Go.Proofs.YtbflcikfaoojmaaDoor.Utf
open Go.RowKit Go.Lib Go.Shelf UtfP

theorem conv_bytes (w : World) (l : List UInt8) : (convert 9 47 (.string (strOf l))).run Tryd.prog w = .ok (.slice (some ⟨w.heap.size, 0, none⟩) l.length (grownCap w l.length 0 5)) (Lib.bytesWorld w 5 (strOf l)) :=
  Lib.run_convert_string_bytes w 9 47 5 (strOf l) Tryd.underlying9 Tryd.underlying47 Tryd.underlying5

theorem bytesW_below (w : World) (l : List UInt8) : Below w.heap.size w (Lib.bytesWorld w 5 (strOf l)) :=
  ⟨by simp [Lib.bytesWorld, World.freeze, World.alloc, World.drew, -World.alloc_eq, -World.drew_eq], by simp [Lib.bytesWorld, World.freeze, World.alloc, World.drew, -World.alloc_eq, -World.drew_eq], by simp [Lib.bytesWorld, World.freeze, World.alloc, World.drew, -World.alloc_eq, -World.drew_eq], by rw [Lib.bytesWorld_size]; omega, fun k hk => Lib.bytesWorld_at_old w _ _ k hk⟩

theorem bytesW_at (w : World) (l : List UInt8) : BytesAt (Lib.bytesWorld w 5 (strOf l)) (some ⟨w.heap.size, 0, none⟩) l := by
  intro _
  refine ⟨w.heap.size, 0, rfl, by rw [Lib.bytesWorld_size]; omega, fun j hj => ?_⟩
  rw [Nat.zero_add, Lib.bytesWorld_cell w _ _ j (by rw [strOf_size]; exact hj)]
  rfl

/-- the bytes of a string that a walk has come to, under names of their own -/
theorem conv_named (w : World) (l : List UInt8) : ∃ w' g cap, (convert 9 47 (.string (strOf l))).run Tryd.prog w = .ok (.slice (some ⟨g, 0, none⟩) l.length cap) w' ∧ l.length ≤ cap ∧ BytesAt w' (some ⟨g, 0, none⟩) l ∧ w.heap.size ≤ g ∧ Below w.heap.size w w' :=
  ⟨_, _, _, conv_bytes w l, grownCap_ge _ _ _ _, bytesW_at w l, Nat.le_refl _, bytesW_below w l⟩

end Go.Proofs.YtbflcikfaoojmaaDoor.Utf

/- A plan of one item, in memory. -/
set_option linter.unusedVariables false
set_option linter.unusedSimpArgs false
namespace Go.Proofs.YtbflcikfaoojmaaDoor.Edit
open Go.RowKit Go.Lib Go.Shelf ChangeShapes Mem Utf UtfP

theorem run_store_float {P : Program} {w : World} {a : Addr} {m : Mode} (k : FloatKind) (z : _) : (store a (.float k z) m).run P w = stored P w a (.float k z) m := run_store P w a _ m rfl
theorem Blk.is {w : World} {b : Nat} {cs : Array Value} {t : TypeId} (h : Blk w b cs t) : w.heap[b]? = some (.cells cs t (0, 0)) := h
/-- a plan of one item, its row at bi -/
def planV (bi c : Nat) : Value := .agg #[.int .u32 0, .int .u8 0, .int .u8 0, .slice (some ⟨bi, 0, none⟩) 1 c, .slice none 0 0, .slice none 0 0, .slice none 0 0]
structure OneP (w : World) (bi : Nat) (A : Option Addr) (cap : Nat) (l : List UInt8) : Prop where
  row : Blk w bi #[.float .f64 0, .int .i64 0, .int .i64 0, .slice A l.length cap] 49
  cap : l.length ≤ cap
  bytes : BytesAt w A l
theorem OneP.below {w w' : World} {bi : Nat} {A : Option Addr} {cap : Nat} {l : List UInt8} (h : OneP w bi A cap l) (hb : Below w.heap.size w w') : OneP w' bi A cap l :=
  ⟨h.row.but (But.of_below (S := []) hb) (by intro h; cases h), h.cap, h.bytes.below hb⟩
theorem OneP.lt {w : World} {bi : Nat} {A : Option Addr} {cap : Nat} {l : List UInt8} (h : OneP w bi A cap l) : bi < w.heap.size := h.row.lt

end Go.Proofs.YtbflcikfaoojmaaDoor.Edit

/- A plan of one item: whispererlaw20.one. -/
set_option linter.unusedVariables false
set_option linter.unusedSimpArgs false
namespace Go.Proofs.YtbflcikfaoojmaaDoor.Edit
open Go.RowKit Go.Lib Go.Shelf ChangeShapes Mem Utf UtfP

set_option maxRecDepth 100000 in
set_option maxHeartbeats 1000000 in
theorem one_c (l : List UInt8) (w : World) : Calls Tryd.prog 23 #[.string (strOf l)] w fun e w' => ∃ bi A cap, e = .returned (planV bi 1) ∧ OneP w' bi A cap l ∧ Below w.heap.size w w' := by
  obtain ⟨W0, hW0⟩ : ∃ W0, w.alloc (.cells #[.int .u32 0, .int .u8 0, .int .u8 0, .slice none 0 0, .slice none 0 0, .slice none 0 0, .slice none 0 0] 35) = W0 := ⟨_, rfl⟩
  have hB0 : Blk W0 w.heap.size #[.int .u32 0, .int .u8 0, .int .u8 0, .slice none 0 0, .slice none 0 0, .slice none 0 0, .slice none 0 0] 35 := by rw [← hW0]; exact Blk.new _ _ _
  have hb0 : Below w.heap.size w W0 := by rw [← hW0]; exact (Below.refl _ w).alloc (Nat.le_refl _) _
  obtain ⟨w1, g, cap, hcv, hcap, hby, hg, hb1⟩ := conv_named W0 l
  have hB1 := hB0.but (But.of_below (S := []) hb1) (by intro h; cases h)
  have HB2 : Hid _ := Lib.hid (hB1.alloc (.cells #[.float .f64 0, .int .i64 0, .int .i64 0, .slice (some ⟨g, 0, none⟩) l.length cap] 49))
  have c0 := HB2.out.cell (j := 0) rfl
  have f0 := HB2.out.free 0
  have c1 := HB2.out.cell (j := 1) rfl
  have f1 := HB2.out.free 1
  have c2 := HB2.out.cell (j := 2) rfl
  have f2 := HB2.out.free 2
  have c3 := HB2.out.cell (j := 3) rfl
  have f3 := HB2.out.free 3
  have c4 := HB2.out.cell (j := 4) rfl
  have f4 := HB2.out.free 4
  have c5 := HB2.out.cell (j := 5) rfl
  have f5 := HB2.out.free 5
  have c6 := HB2.out.cell (j := 6) rfl
  have f6 := HB2.out.free 6
  have HBY := Lib.hid hby
  have hlt0 := hB0.lt
  have hs1 := hb1.size
  have HR := Lib.hid hb1
  have HR0 := Lib.hid hb0
  clear hB0 hB1 hby hb1 hb0
  go_enter Tryd.func23, Tryd.ntmps23
  go_wp2
  refine bodyPost_ret (results_cell_row rfl _ _ w.heap.size 35 _ (0, 0) _ rfl (Blk.set (Blk.set (Blk.set (Blk.set (Blk.set (Blk.set (Blk.set HB2.out 0 _) 1 _) 2 _) 3 _) 4 _) 5 _) 6 _) Tryd.underlying35 rfl (by kernel_rfl)) rfl ?_
  have hbt : But [] w w1 := But.of_below (HR0.out.trans (HR.out.mono (by omega)))
  refine ⟨w1.heap.size, some ⟨g, 0, none⟩, cap, rfl, ⟨?_, hcap, ?_⟩, ?_⟩
  · have h := Blk.new w1 #[.float .f64 0, .int .i64 0, .int .i64 0, .slice (some ⟨g, 0, none⟩) l.length cap] 49
    iterate 7 refine Blk.other ?_ (by show w1.heap.size ≠ w.heap.size; omega) _
    exact h
  · have hbb : Below W0.heap.size W0 w1 := HR.out
    intro hne
    obtain ⟨B, off, hA, hlt, hc⟩ := HBY.out hne
    cases hA
    refine ⟨g, 0, rfl, by simp [World.setCell]; omega, fun j hj => ?_⟩
    rw [World.cell?_of_block (w := w1.alloc (.cells #[.float .f64 0, .int .i64 0, .int .i64 0, .slice (some ⟨g, 0, none⟩) l.length cap] 49))]
    · rw [World.cell?_of_block (w := w1) (Below.heap_alloc _ _ _ hlt)]; exact hc j hj
    · iterate 7 rw [heap_setCell_other _ _ _ _ (by show g ≠ w.heap.size; omega)]
  · exact (((((((((hbt.alloc _).set (Or.inr (Nat.le_refl _)) _).set (Or.inr (Nat.le_refl _)) _).set (Or.inr (Nat.le_refl _)) _).set (Or.inr (Nat.le_refl _)) _).set (Or.inr (Nat.le_refl _)) _).set (Or.inr (Nat.le_refl _)) _).set (Or.inr (Nat.le_refl _)) _).below (Nat.le_refl _) (by intro k hk; cases hk))

end Go.Proofs.YtbflcikfaoojmaaDoor.Edit

/- world.Check of a plan of one item. -/
set_option linter.unusedVariables false
set_option linter.unusedSimpArgs false
namespace Go.Proofs.YtbflcikfaoojmaaDoor.Edit
open Go.RowKit Go.Lib Go.Shelf ChangeShapes Mem Utf UtfP

attribute [local go_sem] run_store_float

set_option maxRecDepth 100000 in
set_option maxHeartbeats 1000000 in
theorem check1 (bi : Nat) (A : Option Addr) (cap : Nat) (l : List UInt8) (w : World) (h : OneP w bi A cap l) : Calls Tryd.prog 30 #[planV bi 1] w fun e w' => e = .returned (.int .i64 0) ∧ Below w.heap.size w w' := by
  have c0 := h.row.cell (j := 0) rfl
  have c1 := h.row.cell (j := 1) rfl
  have c2 := h.row.cell (j := 2) rfl
  have c3 := h.row.cell (j := 3) rfl
  have hlt := h.lt
  unfold planV
  clear h
  go_enter Tryd.func30, Tryd.ntmps30
  go_wp2
  obtain ⟨w1, hw1⟩ : ∃ w1, w.alloc (.cells #[.int .u32 0, .int .u8 0, .int .u8 0, .slice (some ⟨bi, 0, none⟩) 1 1, .slice none 0 0, .slice none 0 0, .slice none 0 0] 35) = w1 := ⟨_, rfl⟩
  have hb0 : Below w.heap.size w w1 := by rw [← hw1]; exact (Below.refl _ w).alloc (Nat.le_refl _) _
  rw [hw1]
  clear hw1
  go_loopw [12] (fun i wr => ∃ j : Nat, i = .int .i64 (j : Int) ∧ j ≤ 1 ∧ Below w.heap.size w wr) (fun i _ => 1 - (RowKit.intOf i).toNat)
  case atStart => exact ⟨0, rfl, by omega, hb0⟩
  case round =>
    obtain ⟨j, rfl, hj, hb⟩ := hrel
    have hbb := Lib.hid hb
    have hs := hb.size
    by_cases hj0 : j = 0
    · subst hj0
      have d0 := (hb.cell (p := ⟨bi, 0, none⟩) hlt).trans c0
      have d1 := (hb.cell (p := ⟨bi, 1, none⟩) hlt).trans c1
      have d2 := (hb.cell (p := ⟨bi, 2, none⟩) hlt).trans c2
      have d3 := (hb.cell (p := ⟨bi, 3, none⟩) hlt).trans c3
      clear hb
      go_wp2
      go_roundw
      case rel => exact ⟨1, rfl, by omega, hbb.out.alloc hs _⟩
      case measure => simp [RowKit.intOf]
    · have hj1 : j = 1 := by omega
      subst hj1
      clear hb hj0
      go_wp2
      go_ret
      exact ⟨rfl, hbb.out⟩

end Go.Proofs.YtbflcikfaoojmaaDoor.Edit

/- Items' order in a plan of one item. -/
set_option linter.unusedVariables false
set_option linter.unusedSimpArgs false
namespace Go.Proofs.YtbflcikfaoojmaaDoor.Edit
open Go.RowKit Go.Lib Go.Shelf ChangeShapes Mem Utf UtfP

set_option maxRecDepth 100000 in
set_option maxHeartbeats 1000000 in
theorem insert1 (v : Value) (f : Value) (w : World) : Calls Tryd.prog 67 #[v, .int .i64 0, .int .i64 1, f] w fun e w' => (∃ u, e = .returned u) ∧ w' = w := by
  go_enter Tryd.func67, Tryd.ntmps67
  go_wp2
  go_loopw [8] (fun i wr => i = .int .i64 1 ∧ wr = w) (fun i _ => 0)
  case atStart => exact ⟨rfl, rfl⟩
  case round =>
    obtain ⟨rfl, rfl⟩ := hrel
    go_wp2
    go_end0
    exact ⟨⟨_, rfl⟩, rfl⟩

set_option maxRecDepth 100000 in
set_option maxHeartbeats 1000000 in
theorem stable1 (v : Value) (f : Value) (w : World) : Calls Tryd.prog 63 #[v, .int .i64 1, f] w fun e w' => (∃ u, e = .returned u) ∧ w' = w := by
  have H1 := Lib.hid (insert1 v f w)
  go_enter Tryd.func63, Tryd.ntmps63
  go_wp2
  go_loopw [7, 8] (fun a b wr => a = .int .i64 0 ∧ b = .int .i64 20 ∧ wr = w) (fun _ _ _ => 0)
  case atStart => exact ⟨rfl, rfl, rfl⟩
  case round =>
    obtain ⟨rfl, rfl, rfl⟩ := hrel
    go_wp2_with fail
    refine (H1.out).mono ?_
    rintro e w1 ⟨⟨u, rfl⟩, rfl⟩
    go_wp2
    go_loopw [6] (fun a wr => a = .int .i64 20 ∧ wr = w1) (fun _ _ => 0)
    case atStart => exact ⟨rfl, rfl⟩
    case round =>
      obtain ⟨rfl, rfl⟩ := hrel
      go_wp2
      go_end0
      exact ⟨⟨_, rfl⟩, rfl⟩

set_option maxRecDepth 100000 in
set_option maxHeartbeats 1000000 in
theorem sort1 (A : Option Addr) (c : Nat) (f : Value) (w : World) : Calls Tryd.prog 51 #[.slice A 1 c, f] w fun e w' => (∃ u, e = .returned u) ∧ w' = w := by
  have H1 := Lib.hid (stable1 (.slice A 1 c) f w)
  go_enter Tryd.func51, Tryd.ntmps51
  go_wp2_with fail
  refine (H1.out).mono ?_
  rintro e w1 ⟨⟨u, rfl⟩, rfl⟩
  go_wp2
  go_end0
  exact ⟨⟨_, rfl⟩, rfl⟩

theorem infoI : (Tryd.prog.info? 3).map (fun i => (i.zero, i.size, i.bytes)) = some (some (.int .i64 0), 1, 8) := by kernel_rfl

theorem make_int1 (w : World) : (Instr.makeSlice 33 (.int .i64 1) (.int .i64 1)).run Tryd.prog w = .ok (.slice (some ⟨w.heap.size, 0, none⟩) 1 1) (w.alloc (.cells #[.int .i64 0] 3)) := by
  obtain ⟨i, hi⟩ := Option.isSome_iff_exists.1 (show (Tryd.prog.info? 3).isSome = true by kernel_rfl)
  have h1 : (Tryd.prog.info? 3).map (fun i => (i.zero, i.bytes, i.size)) = some (some (.int .i64 0), 8, 1) := by kernel_rfl
  rw [hi] at h1
  simp only [Option.map_some, Option.some.injEq, Prod.mk.injEq] at h1
  obtain ⟨hz, hb, hs⟩ := h1
  have := run_make (P := Tryd.prog) w 33 3 i (.int .i64 0) Tryd.underlying33 hi hz .i64 .i64 1 1 (by omega) (by omega) (by rw [hb]; omega) (by omega)
  rw [this, hs]
  have e : madeCells (Value.int .i64 0).cells (Int.toNat 1 * 1) = #[.int .i64 0] := by kernel_rfl
  rw [e]
  rfl

section
attribute [local go_sem ↓] make_int1

set_option maxRecDepth 100000 in
set_option maxHeartbeats 1000000 in
theorem order1 (bi : Nat) (A : Option Addr) (cap : Nat) (l : List UInt8) (w : World) (h : OneP w bi A cap l) : Calls Tryd.prog 36 #[planV bi 1] w fun e w' => ∃ g, e = .returned (.slice (some ⟨g, 0, none⟩) 1 1) ∧ w'.cell? ⟨g, 0, none⟩ = some (.int .i64 0) ∧ Below w.heap.size w w' := by
  have hlt := h.lt
  unfold planV
  clear h
  go_enter Tryd.func36, Tryd.ntmps36
  go_wp2
  obtain ⟨w1, hw1⟩ : ∃ w1, w.alloc (.cells #[.int .u32 0, .int .u8 0, .int .u8 0, .slice (some ⟨bi, 0, none⟩) 1 1, .slice none 0 0, .slice none 0 0, .slice none 0 0] 35) = w1 := ⟨_, rfl⟩
  have hb0 : Below w.heap.size w w1 := by rw [← hw1]; exact (Below.refl _ w).alloc (Nat.le_refl _) _
  have hs1 : w1.heap.size = w.heap.size + 1 := by rw [← hw1]; simp
  have hB2 := Blk.new w1 #[.int .i64 0] 3
  have hb2 := hb0.alloc hb0.size (.cells #[.int .i64 0] 3)
  rw [hs1] at hB2
  rw [hw1]
  clear hw1
  go_loopw [11] (fun i wr => ∃ j : Nat, i = .int .i64 (j : Int) ∧ j ≤ 1 ∧ Hid (Blk wr (w.heap.size + 1) #[.int .i64 0] 3) ∧ Hid (Below w.heap.size w wr)) (fun i _ => 1 - (RowKit.intOf i).toNat)
  case atStart => exact ⟨0, rfl, by omega, hB2, hb2⟩
  case round =>
    obtain ⟨j, rfl, hj, HK, HB⟩ := hrel
    have hc := HK.out.cell (j := 0) rfl
    have hf := HK.out.free 0
    have hs := HB.out.size
    by_cases hj0 : j = 0
    · subst hj0
      go_wp2
      go_roundw
      case rel => exact ⟨1, rfl, by omega, HK.out.set 0 _, Below.setCell (p := ⟨w.heap.size + 1, 0, none⟩) HB.out (by show w.heap.size ≤ w.heap.size + 1; omega) _⟩
      case measure => simp [RowKit.intOf]
    · have hj1 : j = 1 := by omega
      subst hj1
      have HS := fun f => Lib.hid (sort1 (some ⟨w.heap.size + 1, 0, none⟩) 1 f wr)
      clear hj0
      go_wp2_with fail
      refine ((HS _).out).mono ?_
      rintro e w2 ⟨⟨u, rfl⟩, rfl⟩
      go_wp2
      go_ret
      exact ⟨_, rfl, hc, HB.out⟩
end
end Go.Proofs.YtbflcikfaoojmaaDoor.Edit

/- All bytes of a plan of one item; copies; the iterator's maker. -/
set_option linter.unusedVariables false
set_option linter.unusedSimpArgs false
namespace Go.Proofs.YtbflcikfaoojmaaDoor.Edit
open Go.RowKit Go.Lib Go.Shelf ChangeShapes Mem Utf UtfP

set_option maxRecDepth 100000 in
set_option maxHeartbeats 1000000 in
theorem all1 (bi : Nat) (A : Option Addr) (cap : Nat) (l : List UInt8) (w : World) (h : OneP w bi A cap l) (hm : l.length ≤ 1000000) : Calls Tryd.prog 31 #[planV bi 1] w fun e w' => ∃ v, e = .returned v ∧ OwnB w' w.heap.size v l ∧ Below w.heap.size w w' := by
  have hlt := h.lt
  obtain ⟨W0, hW0⟩ : ∃ W0, w.alloc (.cells #[.int .u32 0, .int .u8 0, .int .u8 0, .slice (some ⟨bi, 0, none⟩) 1 1, .slice none 0 0, .slice none 0 0, .slice none 0 0] 35) = W0 := ⟨_, rfl⟩
  have hb0 : Below w.heap.size w W0 := by rw [← hW0]; exact (Below.refl _ w).alloc (Nat.le_refl _) _
  have hp0 : Blk W0 w.heap.size #[.int .u32 0, .int .u8 0, .int .u8 0, .slice (some ⟨bi, 0, none⟩) 1 1, .slice none 0 0, .slice none 0 0, .slice none 0 0] 35 := by rw [← hW0]; exact Blk.new _ _ _
  have HO := Lib.hid (order1 bi A cap l W0 (h.below hb0))
  have H := Lib.hid h
  have HP := Lib.hid hp0
  have hs0 : W0.heap.size = w.heap.size + 1 := by rw [← hW0]; simp
  have HB0 := Lib.hid hb0
  have p0 := hp0.cell (j := 0) rfl
  have p1 := hp0.cell (j := 1) rfl
  have p2 := hp0.cell (j := 2) rfl
  have p3 := hp0.cell (j := 3) rfl
  have p4 := hp0.cell (j := 4) rfl
  have p5 := hp0.cell (j := 5) rfl
  have p6 := hp0.cell (j := 6) rfl
  clear h hp0 hb0
  unfold planV at HO ⊢
  go_enter Tryd.func31, Tryd.ntmps31
  go_wp2_with fail
  refine (HO.out).mono ?_
  rintro e w1 ⟨g, rfl, hg, hb1⟩
  have HB1 := Lib.hid (HB0.out.trans (hb1.mono (by omega)))
  have HB1' := Lib.hid hb1
  have hs1 := hb1.size
  clear hb1 p0 p1 p2 p3 p4 p5 p6
  go_wp2
  go_loopw [3, 9] (fun b i wr => ∃ j : Nat, i = .int .i64 (j : Int) ∧ j ≤ 1 ∧ Hid (OwnB wr w.heap.size b (if j = 0 then [] else l)) ∧ Hid (Below w.heap.size w wr) ∧ (j = 0 → wr = w1)) (fun _ i _ => 1 - (RowKit.intOf i).toNat)
  case atStart => exact ⟨0, rfl, by omega, OwnB.nil _ _, HB1.out, fun _ => rfl⟩
  case round =>
    obtain ⟨j, rfl, hj, HO2, HB2, hw⟩ := hrel
    by_cases hj0 : j = 0
    · subst hj0
      obtain rfl := hw rfl
      rw [if_pos rfl] at HO2
      have H1 := H.out.below HB1.out
      have q3 := (H1.row.cell (j := 3) rfl)
      have p3 := (HP.out.but (But.of_below (S := []) HB1'.out) (by intro h; cases h)).cell (j := 3) rfl
      have HBY := Lib.hid H1.bytes
      have hcap := H1.cap
      clear H1 hw
      go_wp2_with (at_builtin; (refine wpList_append_bytes (l := []) (src := l) rfl _ _ rfl rfl HO2.out rfl rfl HBY.out ?_ ?_ ?_))
      · show 0 + l.length ≤ _; omega
      · omega
      intro v' w2 ho2 hg2
      have HO3 := Lib.hid ho2
      have hb2 : Below w.heap.size w w2 := Below.of_grown HB2.out hg2 (by omega) (fun k hk => (HO2.out.lt hk).1)
      have HB3 := Lib.hid hb2
      clear ho2 hg2 hb2
      go_wp2
      go_roundw
      case rel => exact ⟨1, rfl, by omega, by rw [if_neg (by decide)]; exact HO3.out, HB3.out, fun h => by cases h⟩
      case measure => simp [RowKit.intOf]
    · have hj1 : j = 1 := by omega
      subst hj1
      rw [if_neg (by decide)] at HO2
      clear hj0 hw
      go_wp2
      go_ret
      exact ⟨_, rfl, HO2.out, HB2.out⟩

theorem nilB (w : World) (a : Option Addr) (n c n' c' : Nat) : (binOp .eql 47 (.slice a n c) (.slice none n' c')).run Tryd.prog w = .ok (.bool a.isNone) w := Lib.run_eql_slice_nil w 47 _ a n c n' c' Tryd.underlying47
theorem nilI (w : World) (a : Option Addr) (n c n' c' : Nat) : (binOp .eql 33 (.slice a n c) (.slice none n' c')).run Tryd.prog w = .ok (.bool a.isNone) w := Lib.run_eql_slice_nil w 33 _ a n c n' c' Tryd.underlying33
theorem nilP (w : World) (a : Option Addr) (n c n' c' : Nat) : (binOp .eql 32 (.slice a n c) (.slice none n' c')).run Tryd.prog w = .ok (.bool a.isNone) w := Lib.run_eql_slice_nil w 32 _ a n c n' c' Tryd.underlying32
attribute [local go_sem] nilB nilI nilP

set_option maxRecDepth 100000 in
set_option maxHeartbeats 1000000 in
theorem bclone (A : Option Addr) (cap : Nat) (l : List UInt8) (w : World) (hA : BytesAt w A l) (hcap : l.length ≤ cap) (hm : l.length ≤ 1000000) (hn : A = none → l = [] ∧ cap = 0) : Calls Tryd.prog 33 #[.slice A l.length cap] w fun e w' => ∃ v, e = .returned v ∧ OwnB w' w.heap.size v l ∧ Below w.heap.size w w' := by
  rcases A with _ | ad
  · obtain ⟨rfl, rfl⟩ := hn rfl
    clear hA hcap hm hn
    go_enter Tryd.func33, Tryd.ntmps33
    go_wp2
    go_ret
    exact ⟨_, rfl, OwnB.nil _ _, Below.refl _ _⟩
  · have HA := Lib.hid hA
    clear hA hn
    go_enter Tryd.func33, Tryd.ntmps33
    go_wp2_with (at_builtin; (refine wpList_append_bytes (B := w.heap.size) (l := []) (src := l) rfl _ _ rfl rfl (OwnB.new w w.heap.size #[] [] rfl (Nat.le_refl _) (by decide)) rfl rfl (HA.out.below ((Below.refl _ w).alloc (Nat.le_refl _) _)) ?_ ?_ ?_))
    · show 0 + l.length ≤ _; omega
    · simp
    intro v' w2 ho2 hg2
    have HO3 := Lib.hid ho2
    have hb2 : Below w.heap.size w w2 := Below.of_grown ((Below.refl _ w).alloc (Nat.le_refl _) (.cells #[] 5)) hg2 (by simp) (fun k hk => by simp [Value.ownBlock] at hk; omega)
    have HB3 := Lib.hid hb2
    clear ho2 hg2 hb2
    go_wp2
    go_ret
    exact ⟨_, rfl, HO3.out, HB3.out⟩

set_option maxRecDepth 100000 in
set_option maxHeartbeats 1000000 in
theorem iclone (w : World) : Calls Tryd.prog 35 #[.slice none 0 0] w fun e w' => e = .returned (.slice none 0 0) ∧ w' = w := by
  go_enter Tryd.func35, Tryd.ntmps35
  go_wp2
  go_ret
  exact ⟨rfl, rfl⟩

theorem infoItem : (Tryd.prog.info? 49).map (fun i => (i.zero, i.size, i.bytes)) = some (some (.agg #[.float .f64 0, .int .i64 0, .int .i64 0, .slice none 0 0]), 4, 48) := by kernel_rfl

set_option maxRecDepth 100000 in
set_option maxHeartbeats 1000000 in
theorem pclone (bi : Nat) (A : Option Addr) (cap : Nat) (l : List UInt8) (w : World) (h : OneP w bi A cap l) : Calls Tryd.prog 34 #[.slice (some ⟨bi, 0, none⟩) 1 1] w fun e w' => ∃ g c cur, e = .returned (.slice (some ⟨g, 0, none⟩) 1 c) ∧ w.heap.size ≤ g ∧ Blk w' g cur 49 ∧ 4 ≤ cur.size ∧ cur.toList.take 4 = [.float .f64 0, .int .i64 0, .int .i64 0, .slice A l.length cap] ∧ Below w.heap.size w w' := by
  have hlt := h.lt
  have HC : Hid (CellsAt (w.alloc (.cells #[] 49)) (some ⟨bi, 0, none⟩) [.float .f64 0, .int .i64 0, .int .i64 0, .slice A l.length cap]) := by
    intro _
    refine ⟨bi, 0, rfl, by simp; omega, fun j u hu => ?_⟩
    rw [Nat.zero_add]
    exact (h.row.alloc _).cell (by rw [← Array.getElem?_toList]; exact hu)
  have HOW : Hid ((w.alloc (.cells #[] 49)).ownsRow w.heap.size 49 4 (.slice (some ⟨w.heap.size, 0, none⟩) 0 0) 0 []) := ⟨rfl, .inr ⟨w.heap.size, 0, #[], rfl, Nat.le_refl _, heap_alloc_new w _, Nat.le_refl _, by decide, rfl, rfl⟩⟩
  clear h
  go_enter Tryd.func34, Tryd.ntmps34
  go_wp2_with (at_builtin; (refine wpList_append_cells rfl _ _ rfl Tryd.underlying32 infoItem rfl (by decide) rfl HOW.out rfl (m := 1) rfl HC.out (by intro u hu; simp at hu; rcases hu with rfl | rfl | rfl | rfl <;> rfl) (by decide) (by decide) (by simp) ?_))
  intro v' w2 ho2 hg2
  obtain ⟨g, c, rfl⟩ := ownsRow_succ ho2
  have hb2 : Below w.heap.size w w2 := Below.of_grown ((Below.refl _ w).alloc (Nat.le_refl _) (.cells #[] 49)) hg2 (by simp) (fun k hk => by simp [Value.ownBlock] at hk; omega)
  have HO3 := Lib.hid ho2
  have HB3 := Lib.hid hb2
  clear ho2 hg2 hb2
  go_wp2
  go_ret
  rcases HO3.out.2 with ⟨h, _⟩ | ⟨g', c', cur, hv, hB, hg, hn, hm, hsz, htake⟩
  · cases h
  · cases hv
    exact ⟨_, _, cur, rfl, hB, hg, by omega, htake, HB3.out⟩

set_option maxRecDepth 100000 in
set_option maxHeartbeats 1000000 in
theorem secret_c (v : Value) (w : World) (hv : ∃ A n c, v = .slice A n c) : Calls Tryd.prog 32 #[v] w fun e w' => e = .returned (.func (.func 48) #[] #[.pointer (some ⟨w.heap.size, 0, none⟩)]) ∧ w' = w.alloc (.cells #[v] 47) := by
  obtain ⟨A, n, c, rfl⟩ := hv
  go_enter Tryd.func32, Tryd.ntmps32
  go_wp2
  go_ret
  exact ⟨rfl, rfl⟩

end Go.Proofs.YtbflcikfaoojmaaDoor.Edit

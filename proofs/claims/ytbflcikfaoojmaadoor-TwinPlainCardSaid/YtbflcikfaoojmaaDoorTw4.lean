/- A plan of one item: whispererlaw20.one. -/
import Derived.Test.YtbflcikfaoojmaaDoorTwO
set_option linter.unusedVariables false
set_option linter.unusedSimpArgs false
namespace Go.Proofs.YtbflcikfaoojmaaDoor.Edit
open Go.RowKit Go.Lib Go.Shelf ChangeShapes Mem Utf UtfP

set_option maxRecDepth 100000 in
set_option maxHeartbeats 1000000 in
theorem one_c (l : List UInt8) (w : World) : Calls Tryd.prog 23 #[.string (strOf l)] w fun e w' => ∃ bi A cap, e = .returned (planV bi 1) ∧ OneP w' bi A cap l ∧ Below w.heap.size w w' := by
  obtain ⟨W0, hW0⟩ : ∃ W0, w.alloc (.cells #[.int .u32 0, .int .u8 0, .int .u8 0, .slice none 0 0, .slice none 0 0, .slice none 0 0, .slice none 0 0] 35) = W0 := ⟨_, rfl⟩
  have hB0 : Blk W0 w.heap.size #[.int .u32 0, .int .u8 0, .int .u8 0, .slice none 0 0, .slice none 0 0, .slice none 0 0, .slice none 0 0] 35 := by rw [← hW0]; exact Blk.new _ _ _
  have hb0 : Below w.heap.size w W0 := by rw [← hW0]; exact (Below.refl _ w).alloc (Nat.le_refl _) _
  obtain ⟨w1, g, cap, hcv, hcap, hby, hg, hb1⟩ := conv_named W0 l
  have hB1 := hB0.but (But.of_below (S := []) hb1) (by intro h; cases h)
  have HB2 : Hid _ := Lib.hid (hB1.alloc (.cells #[.float .f64 0, .int .i64 0, .int .i64 0, .slice (some ⟨g, 0, none⟩) l.length cap] 49))
  have c0 := HB2.out.cell (j := 0) rfl
  have f0 := HB2.out.free 0
  have c1 := HB2.out.cell (j := 1) rfl
  have f1 := HB2.out.free 1
  have c2 := HB2.out.cell (j := 2) rfl
  have f2 := HB2.out.free 2
  have c3 := HB2.out.cell (j := 3) rfl
  have f3 := HB2.out.free 3
  have c4 := HB2.out.cell (j := 4) rfl
  have f4 := HB2.out.free 4
  have c5 := HB2.out.cell (j := 5) rfl
  have f5 := HB2.out.free 5
  have c6 := HB2.out.cell (j := 6) rfl
  have f6 := HB2.out.free 6
  have HBY := Lib.hid hby
  have hlt0 := hB0.lt
  have hs1 := hb1.size
  have HR := Lib.hid hb1
  have HR0 := Lib.hid hb0
  clear hB0 hB1 hby hb1 hb0
  go_enter Tryd.func23, Tryd.ntmps23
  go_wp2
  refine bodyPost_ret (results_cell_row rfl _ _ w.heap.size 35 _ (0, 0) _ rfl (Blk.set (Blk.set (Blk.set (Blk.set (Blk.set (Blk.set (Blk.set HB2.out 0 _) 1 _) 2 _) 3 _) 4 _) 5 _) 6 _) Tryd.underlying35 rfl (by kernel_rfl)) rfl ?_
  have hbt : But [] w w1 := But.of_below (HR0.out.trans (HR.out.mono (by omega)))
  refine ⟨w1.heap.size, some ⟨g, 0, none⟩, cap, rfl, ⟨?_, hcap, ?_⟩, ?_⟩
  · have h := Blk.new w1 #[.float .f64 0, .int .i64 0, .int .i64 0, .slice (some ⟨g, 0, none⟩) l.length cap] 49
    iterate 7 refine Blk.other ?_ (by show w1.heap.size ≠ w.heap.size; omega) _
    exact h
  · have hbb : Below W0.heap.size W0 w1 := HR.out
    intro hne
    obtain ⟨B, off, hA, hlt, hc⟩ := HBY.out hne
    cases hA
    refine ⟨g, 0, rfl, by simp [World.setCell]; omega, fun j hj => ?_⟩
    rw [World.cell?_of_block (w := w1.alloc (.cells #[.float .f64 0, .int .i64 0, .int .i64 0, .slice (some ⟨g, 0, none⟩) l.length cap] 49))]
    · rw [World.cell?_of_block (w := w1) (Below.heap_alloc _ _ _ hlt)]; exact hc j hj
    · iterate 7 rw [heap_setCell_other _ _ _ _ (by show g ≠ w.heap.size; omega)]
  · exact (((((((((hbt.alloc _).set (Or.inr (Nat.le_refl _)) _).set (Or.inr (Nat.le_refl _)) _).set (Or.inr (Nat.le_refl _)) _).set (Or.inr (Nat.le_refl _)) _).set (Or.inr (Nat.le_refl _)) _).set (Or.inr (Nat.le_refl _)) _).set (Or.inr (Nat.le_refl _)) _).below (Nat.le_refl _) (by intro k hk; cases hk))

end Go.Proofs.YtbflcikfaoojmaaDoor.Edit

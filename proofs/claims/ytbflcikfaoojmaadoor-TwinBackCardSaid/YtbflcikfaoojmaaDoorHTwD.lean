/- whispererlaw20.alive is true. -/
import Derived.Test.YtbflcikfaoojmaaDoorGT4
import Derived.Test.YtbflcikfaoojmaaDoorGT9
import Derived.Test.YtbflcikfaoojmaaDoorHTwB
import Derived.Test.YtbflcikfaoojmaaDoorHTabs
set_option linter.unusedVariables false
set_option linter.unusedSimpArgs false
namespace Go.Proofs.YtbflcikfaoojmaaDoor.Edit
open Go.RowKit Go.Lib Go.Shelf ChangeShapes Mem Utf UtfP

theorem sec_ex : (secE [27, 97]).length = 0 := by decide
theorem plan_ex1 : planE 1 [97, 98, 13] = [98, 99, 13] := by decide
theorem plan_ex2 : planE 1 [27, 195, 164] = [27, 195, 165] := by decide

set_option maxRecDepth 100000 in
set_option maxHeartbeats 2000000 in
theorem alive_c (w : World) (hT : Tabs w) : Calls Tryd.prog 11 #[] w fun e w' => e = .returned (.bool true) ∧ Below w.heap.size w w' := by
  have HT := Lib.hid hT
  have HO1 : Hid (Calls Tryd.prog 23 #[.string ⟨#[97, 98, 13]⟩] w fun e w' => ∃ bi A cap, e = .returned (planV bi 1) ∧ OneP w' bi A cap [97, 98, 13] ∧ Below w.heap.size w w') := one_c [97, 98, 13] w
  have HO2 : Hid (∀ w, Calls Tryd.prog 23 #[.string ⟨#[27, 97]⟩] w fun e w' => ∃ bi A cap, e = .returned (planV bi 1) ∧ OneP w' bi A cap [27, 97] ∧ Below w.heap.size w w') := fun w => one_c [27, 97] w
  have HO3 : Hid (∀ w, Calls Tryd.prog 23 #[.string ⟨#[27, 195, 164]⟩] w fun e w' => ∃ bi A cap, e = .returned (planV bi 1) ∧ OneP w' bi A cap [27, 195, 164] ∧ Below w.heap.size w w') := fun w => one_c [27, 195, 164] w
  clear hT
  go_enter Tryd.func11, Tryd.ntmps11
  go_wp2_with fail
  refine (HO1.out).mono ?_
  rintro e w1 ⟨bi, A, cap, rfl, hone1, hb1⟩
  have HP1 := Lib.hid (plan1 bi A cap _ 1 w1 hone1 (by decide) (HT.out.below hb1))
  have HB1 := Lib.hid hb1
  clear hone1 hb1 HO1
  unfold planV at *
  go_wp2_with fail
  refine (HP1.out).mono ?_
  rintro e w2 ⟨g1, c1, A1, cap1, rfl, hcell1, hcap1, hby1, hb2⟩
  rw [plan_ex1] at hby1
  have HB2 := Lib.hid (HB1.out.trans (hb2.mono HB1.out.size))
  have HBY1 := Lib.hid hby1
  clear hby1 hb2 HP1
  go_wp2_with fail
  have hs2 := HB2.out.size
  obtain ⟨W2, hW2⟩ : ∃ W2, w2.alloc (.cells #[.int .u32 0, .int .u8 0, .int .u8 0, .slice (some ⟨g1, 0, none⟩) 1 c1, .slice none 0 0, .slice none 0 0, .slice none 0 0] 35) = W2 := ⟨_, rfl⟩
  have hw2 : Below w2.heap.size w2 W2 := by rw [← hW2]; exact (Below.refl _ _).alloc (Nat.le_refl _) _
  have hq2 : Blk W2 w2.heap.size #[.int .u32 0, .int .u8 0, .int .u8 0, .slice (some ⟨g1, 0, none⟩) 1 c1, .slice none 0 0, .slice none 0 0, .slice none 0 0] 35 := by rw [← hW2]; exact Blk.new _ _ _
  have hg1 : g1 < w2.heap.size := by
    apply Classical.byContradiction
    intro hh
    unfold World.cell? at hcell1
    rw [Array.getElem?_eq_none (by show w2.heap.size ≤ g1; omega)] at hcell1
    cases hcell1
  have hcell2 := (hw2.cell (p := ⟨g1, 3, none⟩) hg1).trans hcell1
  have HBY2 := Lib.hid (HBY1.out.below hw2)
  have HBB2 := Lib.hid (HB2.out.trans (hw2.mono HB2.out.size))
  have HQ2 := Lib.hid hq2
  have hs2' := hw2.size
  have HH2 := HO2.out W2
  have HO2' := Lib.hid HH2
  clear hcell1 hq2 hw2 HH2 HO2 HBY1 HB2
  rw [hW2]
  clear hW2
  refine (HO2'.out).mono ?_
  rintro e w3 ⟨bi3, A3, cap3, rfl, hone3, hb3⟩
  have HC3 := Lib.hid (count1 bi3 A3 cap3 _ w3 hone3 (by decide) (HT.out.below (HBB2.out.trans (hb3.mono HBB2.out.size))))
  rw [sec_ex] at HC3
  have HB3 := Lib.hid hb3
  clear hone3 hb3 HO2'
  unfold planV at *
  go_wp2_with fail
  refine (HC3.out).mono ?_
  rintro e w4 ⟨rfl, hb4⟩
  have HB4 := Lib.hid (HB3.out.trans (hb4.mono HB3.out.size))
  have HO3' := Lib.hid (HO3.out w4)
  clear hb4 HC3 HO3 HB3
  go_wp2_with fail
  refine (HO3'.out).mono ?_
  rintro e w5 ⟨bi5, A5, cap5, rfl, hone5, hb5⟩
  have hb5' := HB4.out.trans (hb5.mono HB4.out.size)
  have HP5 := Lib.hid (plan1 bi5 A5 cap5 _ 1 w5 hone5 (by decide) (HT.out.below (HBB2.out.trans (hb5'.mono HBB2.out.size))))
  have HB5 := Lib.hid hb5'
  clear hone5 hb5 HO3' hb5' HB4
  unfold planV at *
  go_wp2_with fail
  refine (HP5.out).mono ?_
  rintro e w6 ⟨g6, c6, A6, cap6, rfl, hcell6, hcap6, hby6, hb6⟩
  go_upto_region 4 with fail
  rw [plan_ex2] at hby6
  have hb6' := HB5.out.trans (hb6.mono HB5.out.size)
  have hg6 : g6 < w6.heap.size := by
    apply Classical.byContradiction
    intro hh
    unfold World.cell? at hcell6
    rw [Array.getElem?_eq_none (by show w6.heap.size ≤ g6; omega)] at hcell6
    cases hcell6
  obtain ⟨W6, hW6⟩ : ∃ W6, w6.alloc (.cells #[.int .u32 0, .int .u8 0, .int .u8 0, .slice (some ⟨g6, 0, none⟩) 1 c6, .slice none 0 0, .slice none 0 0, .slice none 0 0] 35) = W6 := ⟨_, rfl⟩
  have hw6 : Below w6.heap.size w6 W6 := by rw [← hW6]; exact (Below.refl _ _).alloc (Nat.le_refl _) _
  have hq6 : Blk W6 w6.heap.size #[.int .u32 0, .int .u8 0, .int .u8 0, .slice (some ⟨g6, 0, none⟩) 1 c6, .slice none 0 0, .slice none 0 0, .slice none 0 0] 35 := by rw [← hW6]; exact Blk.new _ _ _
  have hbW := hb6'.trans (hw6.mono hb6'.size)
  have x1 := (hw6.cell (p := ⟨g6, 3, none⟩) hg6).trans hcell6
  have x2 := hq6.cell (j := 3) rfl
  have x3 := (hbW.cell (p := ⟨g1, 3, none⟩) (by show g1 < _; omega)).trans hcell2
  have x4 := (HQ2.out.but (But.of_below (S := []) hbW) List.not_mem_nil).cell (j := 3) rfl
  have y1 : (convert 47 9 (.slice A6 3 cap6)).run Tryd.prog W6 = .ok (.string (strOf [27, 195, 165])) W6 := conv_str (cap := cap6) (hby6.below hw6)
  have y2 : (convert 47 9 (.slice A1 3 cap1)).run Tryd.prog W6 = .ok (.string (strOf [98, 99, 13])) W6 := conv_str (cap := cap1) (HBY2.out.below hbW)
  change _ = some (Value.slice A6 3 cap6) at x1
  change _ = some (Value.slice A1 3 cap1) at x3
  have HBW := Lib.hid (HBB2.out.trans (hbW.mono HBB2.out.size))
  clear hcell6 hby6 hb6 hb6' hw6 hq6 hbW HP5 HB5 HQ2 HBY2 HBB2
  have e1 : (strOf [98, 99, 13]) = ⟨#[98, 99, 13]⟩ := rfl
  have e2 : (strOf [27, 195, 165]) = ⟨#[27, 195, 165]⟩ := rfl
  rw [e2] at y1
  rw [e1] at y2
  rw [hW6]
  clear hW6
  go_wp2_with fail
  go_ret
  exact ⟨rfl, HBW.out⟩

end Go.Proofs.YtbflcikfaoojmaaDoor.Edit

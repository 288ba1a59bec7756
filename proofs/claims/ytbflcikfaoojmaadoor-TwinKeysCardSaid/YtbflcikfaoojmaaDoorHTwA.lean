/- twin.Count of a plan of one item. -/
import Derived.Test.YtbflcikfaoojmaaDoorHTw9
set_option linter.unusedVariables false
set_option linter.unusedSimpArgs false
namespace Go.Proofs.YtbflcikfaoojmaaDoor.Edit
open Go.RowKit Go.Lib Go.Shelf ChangeShapes Mem Utf UtfP

theorem ownsRow_form {W : World} {n : Nat} {e : TypeId} {size k : Nat} {v : Value} {xs : List Value} (h : W.ownsRow n e size v k xs) : ∃ A cap, v = .slice A k cap := by
  rcases h.2 with ⟨rfl, rfl⟩ | ⟨g, cap, cur, rfl, hb, hr⟩
  · exact ⟨_, _, rfl⟩
  · exact ⟨_, _, rfl⟩

set_option maxRecDepth 100000 in
set_option maxHeartbeats 1000000 in
theorem count1 (bi : Nat) (A : Option Addr) (cap : Nat) (l : List UInt8) (w : World) (h : OneP w bi A cap l) (hm : l.length ≤ 1000000) (hT : Tabs w) : Calls Tryd.prog 16 #[planV bi 1] w fun e w' => e = .returned (.tuple #[.int .i64 ((secE l).length : Int), .int .i64 0]) ∧ Below w.heap.size w w' := by
  obtain ⟨W0, hW0⟩ : ∃ W0, w.alloc (.cells #[.int .u32 0, .int .u8 0, .int .u8 0, .slice (some ⟨bi, 0, none⟩) 1 1, .slice none 0 0, .slice none 0 0, .slice none 0 0] 35) = W0 := ⟨_, rfl⟩
  have hb0 : Below w.heap.size w W0 := by rw [← hW0]; exact (Below.refl _ w).alloc (Nat.le_refl _) _
  have HS := Lib.hid (secret1 bi A cap l W0 (h.below hb0) hm (hT.below hb0))
  have hs0 : W0.heap.size = w.heap.size + 1 := by rw [← hW0]; simp
  have HB0 := Lib.hid hb0
  have hp0 : Blk W0 w.heap.size #[.int .u32 0, .int .u8 0, .int .u8 0, .slice (some ⟨bi, 0, none⟩) 1 1, .slice none 0 0, .slice none 0 0, .slice none 0 0] 35 := by rw [← hW0]; exact Blk.new _ _ _
  have p0 := hp0.cell (j := 0) rfl
  have p1 := hp0.cell (j := 1) rfl
  have p2 := hp0.cell (j := 2) rfl
  have p3 := hp0.cell (j := 3) rfl
  have p4 := hp0.cell (j := 4) rfl
  have p5 := hp0.cell (j := 5) rfl
  have p6 := hp0.cell (j := 6) rfl
  clear h hT hb0 hp0
  unfold planV at HS ⊢
  go_enter Tryd.func16, Tryd.ntmps16
  go_wp2_with fail
  refine (HS.out).mono ?_
  rintro e w1 ⟨v, rfl, hown, hb1⟩
  obtain ⟨A', cap', rfl⟩ := ownsRow_form hown
  have HB1 := Lib.hid (HB0.out.trans (hb1.mono (by omega)))
  clear hown hb1
  go_wp2
  go_ret2
  exact ⟨rfl, HB1.out⟩

end Go.Proofs.YtbflcikfaoojmaaDoor.Edit

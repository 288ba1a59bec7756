/- The document's example of a buffer, walked. -/
import Derived.Test.YtbkpnffgihjikaaDoorEdE
set_option linter.unusedVariables false
namespace Go.Proofs.YtbkpnffgihjikaaDoor.Edit
open Go.RowKit Go.Lib Go.Shelf ChangeShapes Mem Utf UtfP

/-- what there is behind so many of the example's keys -/
def stA : Nat → List Int × List Int
  | 0 => ([], [])
  | 1 => ([97], [])
  | 2 => ([97, 98], [])
  | 3 => ([97], [98])
  | 4 => ([97, 99], [98])
  | 5 => ([97], [98])
  | _ => ([97], [])
def keyA : Nat → Int × Int
  | 0 => (0, 97)
  | 1 => (0, 98)
  | 2 => (4, 0)
  | 3 => (0, 99)
  | 4 => (2, 0)
  | _ => (9, 0)
theorem stepA (j : Nat) (hj : j < 6) : doE 10 (keyA j).1 (keyA j).2 (stA j).1 (stA j).2 = ((stA (j + 1)).1, (stA (j + 1)).2, true, 0) := by
  match j, hj with
  | 0, _ => decide
  | 1, _ => decide
  | 2, _ => decide
  | 3, _ => decide
  | 4, _ => decide
  | 5, _ => decide

def keysC : Array Value := #[.int .i64 0, .int .i64 97, .int .i64 0, .int .i64 98, .int .i64 4, .int .i64 0, .int .i64 0, .int .i64 99, .int .i64 2, .int .i64 0, .int .i64 9, .int .i64 0]
theorem keysC_at (j : Nat) (hj : j < 6) : keysC[2 * j]? = some (.int .i64 (keyA j).1) ∧ keysC[2 * j + 1]? = some (.int .i64 (keyA j).2) := by
  match j, hj with
  | 0, _ => exact ⟨rfl, rfl⟩
  | 1, _ => exact ⟨rfl, rfl⟩
  | 2, _ => exact ⟨rfl, rfl⟩
  | 3, _ => exact ⟨rfl, rfl⟩
  | 4, _ => exact ⟨rfl, rfl⟩
  | 5, _ => exact ⟨rfl, rfl⟩

def RA (w : World) (b a c g : Nat) (i : Value) (wr : World) : Prop :=
  ∃ j : Nat, i = .int .i64 (j : Int) ∧ j ≤ 6 ∧ Ed wr b a c 10 (stA j).1 (stA j).2 ∧ Blk wr g keysC 52 ∧ Below w.heap.size w wr

attribute [local go_sem] strOf_toList
set_option maxRecDepth 200000 in
set_option maxHeartbeats 4000000 in
theorem alive (w : World) : Calls Tryd.prog 31 #[] w fun e w' => e = .returned (.bool true) ∧ Below w.heap.size w w' := by
  have H1 := Lib.hid (begin_c 10 (by decide) (by decide) w)
  go_enter Tryd.func31, Tryd.ntmps31
  go_wp2_with fail
  refine (H1.out).mono ?_
  rintro e w1 ⟨b, a, c, rfl, hlb, hla, hlc, hed, hb1⟩
  have hlt1 := hed.buf.head.lt
  have hlt2 := hed.buf.ar.head.lt
  have hlt3 := hed.buf.ar.body.lt
  have HED := Lib.hid hed
  have HW1 := Lib.hid hb1
  have HL := Lib.hid (show w.heap.size ≤ b ∧ w.heap.size ≤ a ∧ w.heap.size ≤ c from ⟨hlb, hla, hlc⟩)
  have HLT := Lib.hid (show b < w1.heap.size ∧ a < w1.heap.size ∧ c < w1.heap.size from ⟨hlt1, hlt2, hlt3⟩)
  clear hed hb1 hlb hla hlc hlt1 hlt2 hlt3
  obtain ⟨g, hg⟩ : ∃ g, g = w1.heap.size := ⟨_, rfl⟩
  have HG := Lib.hid hg
  clear hg
  go_wp2
  rw [← HG.out]
  go_loopw [21] (fun i wr => RA w b a c g i wr) (fun i _ => 6 - (RowKit.intOf i).toNat)
  case atStart =>
    refine ⟨0, rfl, by omega, HED.out.but (But.of_below (S := []) ((Below.refl _ _).alloc (Nat.le_refl _) _)) (by simp) (by simp) (by simp), ?_, HW1.out.alloc HW1.out.size _⟩
    rw [HG.out]
    exact Blk.new _ _ _
  case round =>
    obtain ⟨j, rfl, hj, hed, hblk, hbw⟩ := hrel
    by_cases hlt : j < 6
    · have k0 : (j : Int) < 6 := by omega
      obtain ⟨hk1, hk2⟩ := keysC_at j hlt
      have q0 := hblk.cell hk1
      have q1 := hblk.cell hk2
      have hst := stepA j hlt
      generalize (keyA j).1 = kk at *
      generalize (keyA j).2 = kc at *
      have q0' : wr.cell? ⟨g, j * 2, none⟩ = some (.int .i64 kk) := by rw [Nat.mul_comm]; exact q0
      have q1' : wr.cell? ⟨g, j * 2 + 1, none⟩ = some (.int .i64 kc) := by rw [Nat.mul_comm]; exact q1
      have HBLK := Lib.hid hblk
      have HEDJ := Lib.hid hed
      have HBW := Lib.hid hbw
      have HST := Lib.hid hst
      clear hk1 hk2 hblk hed hbw hst
      go_wp2_with fail
      have hwa : Below wr.heap.size wr (wr.alloc (.cells #[.int .i64 kk, .int .i64 kc] 52)) := (Below.refl _ _).alloc (Nat.le_refl _) _
      refine (do_any kk kc _ (HEDJ.out.but (But.of_below (S := []) hwa) (by simp) (by simp) (by simp))).mono ?_
      rw [HST.out]
      rintro e w4 ⟨rfl, hed4, hb4⟩
      have HED4 := Lib.hid hed4
      have HBLK4 : Hid (Blk w4 g keysC 52) := (HBLK.out.alloc _).but hb4 (by have := HLT.out; have := HG.out; simp; omega)
      have HW4 : Hid (Below w.heap.size w w4) := (HBW.out.trans (hwa.mono HBW.out.size)).trans (hb4.below ((HBW.out.trans (hwa.mono HBW.out.size)).size) (by have := HL.out; simp; omega))
      clear hed4 hb4 hwa
      go_wp2
      go_roundw
      case rel => exact ⟨j + 1, by go_num, by omega, HED4.out, HBLK4.out, HW4.out⟩
      case measure => simp [RowKit.intOf]; omega
    · have hge : decide ((j : Int) < 6) = false := by simp; omega
      have hge' : decide (j < 6) = false := by simp; omega
      obtain rfl : j = 6 := by omega
      have hE : Ed wr b a c 10 [97] [] := hed
      have HT := Lib.hid (text_c wr hE.buf)
      have HA := fun (W : World) (h : Ed W b a c 10 [97] []) => atB W h.buf
      have HC := fun (W : World) (h : Ed W b a c 10 [97] []) => count_c W h.buf
      rw [show countB (encs [97] ++ encs []) (encs [97]).length = 1 by decide] at HA
      rw [show countB (encs [97] ++ encs []) (encs [97] ++ encs []).length = 1 by decide] at HC
      rw [show encs [97] ++ encs [] = [97] by decide] at HT
      have HED6 := Lib.hid hE
      have HA := Lib.hid HA
      have HC := Lib.hid HC
      have HBW := Lib.hid hbw
      clear hed hE hblk hbw hlt
      go_wp2_with fail
      refine (HT.out).mono ?_
      rintro e w5 ⟨rfl, hb5⟩
      have HED7 : Hid (Ed w5 b a c 10 [97] []) := HED6.out.but (But.of_below (S := []) hb5) (by simp) (by simp) (by simp)
      have HW5 : Hid (Below w.heap.size w w5) := HBW.out.trans (hb5.mono HBW.out.size)
      clear hb5
      go_wp2_with (first
        | (go_at_call 36; refine (HA.out _ HED7.out).mono ?_; rintro e w6 ⟨rfl, hq⟩; obtain rfl := hq.symm)
        | (go_at_call 33; refine (HC.out _ HED7.out).mono ?_; rintro e w6 ⟨rfl, hq⟩; obtain rfl := hq.symm))
      go_ret
      exact ⟨rfl, HW5.out⟩

end Go.Proofs.YtbkpnffgihjikaaDoor.Edit

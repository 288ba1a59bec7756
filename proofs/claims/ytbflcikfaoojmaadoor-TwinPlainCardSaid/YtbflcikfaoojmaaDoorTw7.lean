/- Items' order in a plan of one item. -/
import Derived.Test.YtbflcikfaoojmaaDoorTwO
set_option linter.unusedVariables false
set_option linter.unusedSimpArgs false
namespace Go.Proofs.YtbflcikfaoojmaaDoor.Edit
open Go.RowKit Go.Lib Go.Shelf ChangeShapes Mem Utf UtfP

set_option maxRecDepth 100000 in
set_option maxHeartbeats 1000000 in
theorem insert1 (v : Value) (f : Value) (w : World) : Calls Tryd.prog 67 #[v, .int .i64 0, .int .i64 1, f] w fun e w' => (∃ u, e = .returned u) ∧ w' = w := by
  go_enter Tryd.func67, Tryd.ntmps67
  go_wp2
  go_loopw [8] (fun i wr => i = .int .i64 1 ∧ wr = w) (fun i _ => 0)
  case atStart => exact ⟨rfl, rfl⟩
  case round =>
    obtain ⟨rfl, rfl⟩ := hrel
    go_wp2
    go_end0
    exact ⟨⟨_, rfl⟩, rfl⟩

set_option maxRecDepth 100000 in
set_option maxHeartbeats 1000000 in
theorem stable1 (v : Value) (f : Value) (w : World) : Calls Tryd.prog 63 #[v, .int .i64 1, f] w fun e w' => (∃ u, e = .returned u) ∧ w' = w := by
  have H1 := Lib.hid (insert1 v f w)
  go_enter Tryd.func63, Tryd.ntmps63
  go_wp2
  go_loopw [7, 8] (fun a b wr => a = .int .i64 0 ∧ b = .int .i64 20 ∧ wr = w) (fun _ _ _ => 0)
  case atStart => exact ⟨rfl, rfl, rfl⟩
  case round =>
    obtain ⟨rfl, rfl, rfl⟩ := hrel
    go_wp2_with fail
    refine (H1.out).mono ?_
    rintro e w1 ⟨⟨u, rfl⟩, rfl⟩
    go_wp2
    go_loopw [6] (fun a wr => a = .int .i64 20 ∧ wr = w1) (fun _ _ => 0)
    case atStart => exact ⟨rfl, rfl⟩
    case round =>
      obtain ⟨rfl, rfl⟩ := hrel
      go_wp2
      go_end0
      exact ⟨⟨_, rfl⟩, rfl⟩

set_option maxRecDepth 100000 in
set_option maxHeartbeats 1000000 in
theorem sort1 (A : Option Addr) (c : Nat) (f : Value) (w : World) : Calls Tryd.prog 51 #[.slice A 1 c, f] w fun e w' => (∃ u, e = .returned u) ∧ w' = w := by
  have H1 := Lib.hid (stable1 (.slice A 1 c) f w)
  go_enter Tryd.func51, Tryd.ntmps51
  go_wp2_with fail
  refine (H1.out).mono ?_
  rintro e w1 ⟨⟨u, rfl⟩, rfl⟩
  go_wp2
  go_end0
  exact ⟨⟨_, rfl⟩, rfl⟩

theorem infoI : (Tryd.prog.info? 3).map (fun i => (i.zero, i.size, i.bytes)) = some (some (.int .i64 0), 1, 8) := by kernel_rfl

theorem make_int1 (w : World) : (Instr.makeSlice 33 (.int .i64 1) (.int .i64 1)).run Tryd.prog w = .ok (.slice (some ⟨w.heap.size, 0, none⟩) 1 1) (w.alloc (.cells #[.int .i64 0] 3)) := by
  obtain ⟨i, hi⟩ := Option.isSome_iff_exists.1 (show (Tryd.prog.info? 3).isSome = true by kernel_rfl)
  have h1 : (Tryd.prog.info? 3).map (fun i => (i.zero, i.bytes, i.size)) = some (some (.int .i64 0), 8, 1) := by kernel_rfl
  rw [hi] at h1
  simp only [Option.map_some, Option.some.injEq, Prod.mk.injEq] at h1
  obtain ⟨hz, hb, hs⟩ := h1
  have := run_make (P := Tryd.prog) w 33 3 i (.int .i64 0) Tryd.underlying33 hi hz .i64 .i64 1 1 (by omega) (by omega) (by rw [hb]; omega) (by omega)
  rw [this, hs]
  have e : madeCells (Value.int .i64 0).cells (Int.toNat 1 * 1) = #[.int .i64 0] := by kernel_rfl
  rw [e]
  rfl

section
attribute [local go_sem ↓] make_int1

set_option maxRecDepth 100000 in
set_option maxHeartbeats 1000000 in
theorem order1 (bi : Nat) (A : Option Addr) (cap : Nat) (l : List UInt8) (w : World) (h : OneP w bi A cap l) : Calls Tryd.prog 36 #[planV bi 1] w fun e w' => ∃ g, e = .returned (.slice (some ⟨g, 0, none⟩) 1 1) ∧ w'.cell? ⟨g, 0, none⟩ = some (.int .i64 0) ∧ Below w.heap.size w w' := by
  have hlt := h.lt
  unfold planV
  clear h
  go_enter Tryd.func36, Tryd.ntmps36
  go_wp2
  obtain ⟨w1, hw1⟩ : ∃ w1, w.alloc (.cells #[.int .u32 0, .int .u8 0, .int .u8 0, .slice (some ⟨bi, 0, none⟩) 1 1, .slice none 0 0, .slice none 0 0, .slice none 0 0] 35) = w1 := ⟨_, rfl⟩
  have hb0 : Below w.heap.size w w1 := by rw [← hw1]; exact (Below.refl _ w).alloc (Nat.le_refl _) _
  have hs1 : w1.heap.size = w.heap.size + 1 := by rw [← hw1]; simp
  have hB2 := Blk.new w1 #[.int .i64 0] 3
  have hb2 := hb0.alloc hb0.size (.cells #[.int .i64 0] 3)
  rw [hs1] at hB2
  rw [hw1]
  clear hw1
  go_loopw [11] (fun i wr => ∃ j : Nat, i = .int .i64 (j : Int) ∧ j ≤ 1 ∧ Hid (Blk wr (w.heap.size + 1) #[.int .i64 0] 3) ∧ Hid (Below w.heap.size w wr)) (fun i _ => 1 - (RowKit.intOf i).toNat)
  case atStart => exact ⟨0, rfl, by omega, hB2, hb2⟩
  case round =>
    obtain ⟨j, rfl, hj, HK, HB⟩ := hrel
    have hc := HK.out.cell (j := 0) rfl
    have hf := HK.out.free 0
    have hs := HB.out.size
    by_cases hj0 : j = 0
    · subst hj0
      go_wp2
      go_roundw
      case rel => exact ⟨1, rfl, by omega, HK.out.set 0 _, Below.setCell (p := ⟨w.heap.size + 1, 0, none⟩) HB.out (by show w.heap.size ≤ w.heap.size + 1; omega) _⟩
      case measure => simp [RowKit.intOf]
    · have hj1 : j = 1 := by omega
      subst hj1
      have HS := fun f => Lib.hid (sort1 (some ⟨w.heap.size + 1, 0, none⟩) 1 f wr)
      clear hj0
      go_wp2_with fail
      refine ((HS _).out).mono ?_
      rintro e w2 ⟨⟨u, rfl⟩, rfl⟩
      go_wp2
      go_ret
      exact ⟨_, rfl, hc, HB.out⟩
end
end Go.Proofs.YtbflcikfaoojmaaDoor.Edit

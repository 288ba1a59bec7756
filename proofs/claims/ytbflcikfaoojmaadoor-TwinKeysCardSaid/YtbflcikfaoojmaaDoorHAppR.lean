/- utf8.AppendRune, by the shelf's contract. -/
import Derived.Test.YtbflcikfaoojmaaDoorHOwn
import Derived.Test.YtbflcikfaoojmaaDoorHPutP
import Derived.Shelf.Utf8.AppendRunePlain
set_option linter.unusedVariables false
namespace Go.Proofs.YtbflcikfaoojmaaDoor.Utf
open Go.RowKit Go.Lib Go.Shelf UtfP

def rhoA : Ren := ⟨fun | 242 => 42 | 278 => 55 | _ => 0,
  fun | 4 => 4 | 5 => 5 | 21 => 21 | 37 => 47 | 46 => 105 | 51 => 29 | _ => 0, fun _ => 0⟩
theorem laysA : Lays.n242 Tryd.prog rhoA where
  mixed := by kernel_rfl
  f242 := by kernel_rfl
  f278 := by kernel_rfl
  t4 := by kernel_rfl
  a4 := fun _ => by kernel_rfl
  z4 := fun _ => by kernel_rfl
  v4 := fun _ => by kernel_rfl
  t5 := by kernel_rfl
  a5 := fun _ => by kernel_rfl
  z5 := fun _ => by kernel_rfl
  v5 := fun _ => by kernel_rfl
  t21 := by kernel_rfl
  a21 := fun _ => by kernel_rfl
  z21 := fun _ => by kernel_rfl
  v21 := fun _ => by kernel_rfl
  t37 := by kernel_rfl
  a37 := fun _ => by kernel_rfl
  z37 := fun _ => by kernel_rfl
  v37 := fun _ => by kernel_rfl
  t46 := by kernel_rfl
  a46 := fun _ => by kernel_rfl
  z46 := fun _ => by kernel_rfl
  v46 := fun _ => by kernel_rfl
  t51 := by kernel_rfl
  a51 := fun _ => by kernel_rfl
  z51 := fun _ => by kernel_rfl
  v51 := fun _ => by kernel_rfl
theorem enc_cells (c : Int) : cellsU (enc c) = Lib.runeCells c := byteCells_encodeRune c

theorem appendRune (B : Nat) (v : Value) (l : List UInt8) (r : Int) (h0 : -2147483648 ≤ r) (h1 : r ≤ 2147483647) (w : World) (hown : OwnB w B v l) (hlen : l.length + 4 ≤ 140737488355328) (hB : B ≤ w.heap.size) :
    Calls Tryd.prog 42 #[v, .int .i32 r] w fun e w' => ∃ v', e = .returned v' ∧ OwnB w' B v' (l ++ enc r) ∧ w.grownBy w' v.ownBlock := by
  refine (Any.utf8_AppendRune_plain (P := Tryd.prog) (ρ := rhoA) laysA infoU8 B v l.length (cellsU l) r h0 h1 w hown hlen hB).mono ?_
  rintro e w' ⟨v', he, hown', o, hg⟩
  refine ⟨v', he, ?_, ⟨hg.os, hg.tape, hg.output, ?_, fun k hk hne => ?_⟩⟩
  · unfold OwnB
    rw [List.length_append, cellsU_append, enc_cells]
    rw [runeCells_length] at hown'
    exact hown'
  · have := hg.size; simp at this; omega
  · rw [hg.block k (by simp; omega) hne]
    exact Below.heap_alloc w o k hk

theorem OwnB.base {w : World} {B B' : Nat} {v : Value} {l : List UInt8} (h : OwnB w B v l) (hB : B' ≤ B) : OwnB w B' v l := by
  obtain ⟨h1, h2 | ⟨g, cap, cur, h3, h4, h5⟩⟩ := h
  · exact ⟨h1, Or.inl h2⟩
  · exact ⟨h1, Or.inr ⟨g, cap, cur, h3, Nat.le_trans hB h4, h5⟩⟩

end Go.Proofs.YtbflcikfaoojmaaDoor.Utf

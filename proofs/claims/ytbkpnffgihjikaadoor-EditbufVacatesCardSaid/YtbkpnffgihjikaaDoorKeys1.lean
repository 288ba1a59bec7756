/- A buffer: which characters begin where; how many there are. -/
import Derived.Test.YtbkpnffgihjikaaDoorEditP
import Derived.Test.YtbkpnffgihjikaaDoorDo
import Derived.LoopN
set_option linter.unusedVariables false
namespace Go.Proofs.YtbkpnffgihjikaaDoor.Edit
open Go.RowKit Go.Lib Go.Shelf ChangeShapes Mem Utf UtfP

theorem body_cell {w : World} {a c N : Nat} {t : List UInt8} (h : Ar w a c N t) (i : Nat) (hi : i < t.length) : w.cell? ⟨c, i, none⟩ = some (.int .u8 (bt t i : Int)) := by
  have hl : i < (t ++ List.replicate (N - t.length) (0 : UInt8)).length := by rw [List.length_append]; omega
  have := h.body.cell (j := i) (v := .int .u8 (((t ++ List.replicate (N - t.length) (0 : UInt8)).getD i 0).toNat : Int)) (by simpa using cellsB_get _ i hl)
  rw [this]
  congr 2
  unfold bt
  rw [List.getD_eq_getElem?_getD, List.getD_eq_getElem?_getD, List.getElem?_append_left hi]

theorem cell_in {a c N : Nat} {t : List UInt8} (i : Nat) (w : World) (h : Ar w a c N t) (hi : i < t.length) :
    Calls Tryd.prog 51 #[.pointer (some ⟨a, 0, none⟩), .int .i64 (i : Int)] w fun e w' => e = .returned (.tuple #[.int .u8 (bt t i : Int), .int .i64 0]) ∧ w' = w := by
  have c0 := h.head.cell (j := 0) (v := .slice (some ⟨c, 0, none⟩) N N) rfl
  have cv := body_cell h i hi
  have k0 : (i : Int) < (N : Int) := by have := h.fit; omega
  have k1 : decide ((N : Int) ≤ (i : Int)) = false := by simp; omega
  clear h hi
  go_enter Tryd.func51, Tryd.ntmps51
  go_wp2
  go_ret2
  exact ⟨rfl, rfl⟩

theorem at_in {a c N : Nat} {t : List UInt8} (i : Nat) (w : World) (h : Ar w a c N t) (hi : i < t.length) :
    Calls Tryd.prog 90 #[.pointer (some ⟨a, 0, none⟩), .int .i64 (i : Int)] w fun e w' => e = .returned (.tuple #[.int .u8 (bt t i : Int), .int .i64 0]) ∧ w' = w := by
  have H1 := Lib.hid (len w h)
  have H2 := Lib.hid (cell_in i w h hi)
  have k1 : decide ((t.length : Int) ≤ (i : Int)) = false := by simp; omega
  have k2 : decide (t.length ≤ i) = false := by simp; omega
  clear h hi
  go_enter Tryd.func90, Tryd.ntmps90
  go_wp2_with (first
    | (go_at_call 45; refine (H1.out).mono ?_; rintro e w1 ⟨rfl, hq⟩; obtain rfl := hq.symm)
    | (go_at_call 51; refine (H2.out).mono ?_; rintro e w1 ⟨rfl, hq⟩; obtain rfl := hq.symm))
  go_ret2
  exact ⟨rfl, rfl⟩

theorem at_out {a c N : Nat} {t : List UInt8} (i : Nat) (w : World) (h : Ar w a c N t) (hi : t.length ≤ i) :
    Calls Tryd.prog 90 #[.pointer (some ⟨a, 0, none⟩), .int .i64 (i : Int)] w fun e w' => e = .returned (.tuple #[.int .u8 0, .int .i64 3]) ∧ w' = w := by
  have H1 := Lib.hid (len w h)
  have k1 : decide ((t.length : Int) ≤ (i : Int)) = true := by simp; omega
  have k2 : decide (t.length ≤ i) = true := by simp; omega
  clear h hi
  go_enter Tryd.func90, Tryd.ntmps90
  go_wp2_with (go_at_call 45; refine (H1.out).mono ?_; rintro e w1 ⟨rfl, hq⟩; obtain rfl := hq.symm)
  go_ret2
  exact ⟨rfl, rfl⟩

theorem and192 (x : Nat) (h : x < 256) : bits .and .u8 (x : Int) 192 = ((x / 64 * 64 : Nat) : Int) := by
  have := u8_and_nat x 192 h (by decide)
  rw [show ((192 : Nat) : Int) = 192 from rfl] at this
  rw [this, nat_hi8_6, Nat.mod_eq_of_lt h]

theorem first_c {b a c N p : Nat} {t : List UInt8} (i : Nat) (w : World) (h : Buf w b a c N t p) :
    Calls Tryd.prog 75 #[.pointer (some ⟨b, 0, none⟩), .int .i64 (i : Int)] w fun e w' => e = .returned (.bool (firstB t i)) ∧ w' = w := by
  have c0 := h.head.cell (j := 0) (v := .pointer (some ⟨a, 0, none⟩)) rfl
  by_cases hi : i < t.length
  · have H1 := Lib.hid (at_in i w h.ar hi)
    have hx := bt_lt t i
    have hb := and192 (bt t i) hx
    have hv : firstB t i = (((bt t i / 64 * 64 : Nat) : Int) != 128) := by
      unfold firstB cont
      rw [if_pos hi, Bool.eq_iff_iff]
      simp only [Bool.not_eq_true', decide_eq_false_iff_not, bne_iff_ne, ne_eq]
      omega
    rw [hv]
    generalize bt t i = x at *
    clear h hi hv
    go_enter Tryd.func75, Tryd.ntmps75
    go_wp2_with (go_at_call 90; refine (H1.out).mono ?_; rintro e w1 ⟨rfl, hq⟩; obtain rfl := hq.symm)
    go_ret
    exact ⟨rfl, rfl⟩
  · have H1 := Lib.hid (at_out i w h.ar (by omega))
    rw [show firstB t i = true by unfold firstB; rw [if_neg hi]]
    clear h hi
    go_enter Tryd.func75, Tryd.ntmps75
    go_wp2_with (go_at_call 90; refine (H1.out).mono ?_; rintro e w1 ⟨rfl, hq⟩; obtain rfl := hq.symm)
    go_ret
    exact ⟨rfl, rfl⟩

end Go.Proofs.YtbkpnffgihjikaaDoor.Edit

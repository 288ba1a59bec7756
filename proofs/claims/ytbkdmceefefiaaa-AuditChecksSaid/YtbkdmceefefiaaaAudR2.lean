/- The document's step of an audit, walked stand by stand. -/
import Derived.Test.YtbkdmceefefiaaaAudR
set_option linter.unusedVariables false
namespace Go.Proofs.Ytbkdmceefefiaaa.Aud
open Go.RowKit Go.Lib Mem Byt

attribute [local go_sem ↓] conv_str
attribute [local go_sem] strOf_toList

theorem rsneg (k fl mn tm sf sm st n : Int) (A : Option Addr) (l : List UInt8) (c : Nat) (ok : Bool) (s : Int) (w : World) (hA : BytesAt w A l) (e0 : decide (k < 0) = true) :
    Calls Try.prog 14 #[.int .i64 s, .agg (effC k fl mn tm (.slice A l.length c) n ok), .agg #[.int .u32 sf, .int .u8 sm, .int .u8 st]] w fun e w' => e = .returned (.tuple #[.int .i64 (0), .int .i64 (9)]) ∧ Below w.heap.size w w' := by
  unfold effC
  have hw : Below w.heap.size w ((w.alloc (.cells #[.int .i64 k, .int .u32 fl, .int .u8 mn, .int .u8 tm, .slice A l.length c, .int .i64 n, .bool ok] 44)).alloc (.cells #[.int .u32 sf, .int .u8 sm, .int .u8 st] 41)) := ((Below.refl _ _).alloc (Nat.le_refl _) _).alloc (by simp) _
  have hA1 := hA.below hw
  have HB := Lib.hid hw
  clear hA hw
  go_enter Try.func14, Try.ntmps14
  go_wp2
  go_ret2
  exact ⟨rfl, HB.out⟩

theorem rsbig (k fl mn tm sf sm st n : Int) (A : Option Addr) (l : List UInt8) (c : Nat) (ok : Bool) (s : Int) (w : World) (hA : BytesAt w A l) (e0 : decide (k < 0) = false) (e7 : decide (6 < k) = true) :
    Calls Try.prog 14 #[.int .i64 s, .agg (effC k fl mn tm (.slice A l.length c) n ok), .agg #[.int .u32 sf, .int .u8 sm, .int .u8 st]] w fun e w' => e = .returned (.tuple #[.int .i64 (0), .int .i64 (9)]) ∧ Below w.heap.size w w' := by
  unfold effC
  have hw : Below w.heap.size w ((w.alloc (.cells #[.int .i64 k, .int .u32 fl, .int .u8 mn, .int .u8 tm, .slice A l.length c, .int .i64 n, .bool ok] 44)).alloc (.cells #[.int .u32 sf, .int .u8 sm, .int .u8 st] 41)) := ((Below.refl _ _).alloc (Nat.le_refl _) _).alloc (by simp) _
  have hA1 := hA.below hw
  have HB := Lib.hid hw
  clear hA hw
  go_enter Try.func14, Try.ntmps14
  go_wp2
  go_ret2
  exact ⟨rfl, HB.out⟩

theorem rshis (fl mn tm sf sm st n : Int) (A : Option Addr) (l : List UInt8) (c : Nat) (ok : Bool) (s : Int) (w : World) (hA : BytesAt w A l)  :
    Calls Try.prog 14 #[.int .i64 s, .agg (effC 6 fl mn tm (.slice A l.length c) n ok), .agg #[.int .u32 sf, .int .u8 sm, .int .u8 st]] w fun e w' => e = .returned (.tuple #[.int .i64 (0), .int .i64 (13)]) ∧ Below w.heap.size w w' := by
  unfold effC
  have hw : Below w.heap.size w ((w.alloc (.cells #[.int .i64 6, .int .u32 fl, .int .u8 mn, .int .u8 tm, .slice A l.length c, .int .i64 n, .bool ok] 44)).alloc (.cells #[.int .u32 sf, .int .u8 sm, .int .u8 st] 41)) := ((Below.refl _ _).alloc (Nat.le_refl _) _).alloc (by simp) _
  have hA1 := hA.below hw
  have HB := Lib.hid hw
  clear hA hw
  go_enter Try.func14, Try.ntmps14
  go_wp2
  go_ret2
  exact ⟨rfl, HB.out⟩

theorem rs0_ok (fl mn tm sf sm st n : Int) (A : Option Addr) (l : List UInt8) (c : Nat) (w : World) (hA : BytesAt w A l)  :
    Calls Try.prog 14 #[.int .i64 0, .agg (effC 0 fl mn tm (.slice A l.length c) n true), .agg #[.int .u32 sf, .int .u8 sm, .int .u8 st]] w fun e w' => e = .returned (.tuple #[.int .i64 (1), .int .i64 (0)]) ∧ Below w.heap.size w w' := by
  unfold effC
  have hw : Below w.heap.size w ((w.alloc (.cells #[.int .i64 0, .int .u32 fl, .int .u8 mn, .int .u8 tm, .slice A l.length c, .int .i64 n, .bool true] 44)).alloc (.cells #[.int .u32 sf, .int .u8 sm, .int .u8 st] 41)) := ((Below.refl _ _).alloc (Nat.le_refl _) _).alloc (by simp) _
  have hA1 := hA.below hw
  have HB := Lib.hid hw
  clear hA hw
  go_enter Try.func14, Try.ntmps14
  go_wp2
  go_ret2
  exact ⟨rfl, HB.out⟩

theorem rs0_no (fl mn tm sf sm st n : Int) (A : Option Addr) (l : List UInt8) (c : Nat) (w : World) (hA : BytesAt w A l)  :
    Calls Try.prog 14 #[.int .i64 0, .agg (effC 0 fl mn tm (.slice A l.length c) n false), .agg #[.int .u32 sf, .int .u8 sm, .int .u8 st]] w fun e w' => e = .returned (.tuple #[.int .i64 (6), .int .i64 (0)]) ∧ Below w.heap.size w w' := by
  unfold effC
  have hw : Below w.heap.size w ((w.alloc (.cells #[.int .i64 0, .int .u32 fl, .int .u8 mn, .int .u8 tm, .slice A l.length c, .int .i64 n, .bool false] 44)).alloc (.cells #[.int .u32 sf, .int .u8 sm, .int .u8 st] 41)) := ((Below.refl _ _).alloc (Nat.le_refl _) _).alloc (by simp) _
  have hA1 := hA.below hw
  have HB := Lib.hid hw
  clear hA hw
  go_enter Try.func14, Try.ntmps14
  go_wp2
  go_ret2
  exact ⟨rfl, HB.out⟩

theorem rs0_g (k fl mn tm sf sm st n : Int) (A : Option Addr) (l : List UInt8) (c : Nat) (ok : Bool) (w : World) (hA : BytesAt w A l) (hk2 : (k == 2) = false) (e0 : decide (k < 0) = false) (e7 : decide (6 < k) = false) (e6 : (k == 6) = false) (hk0 : (k == 0) = false) :
    Calls Try.prog 14 #[.int .i64 0, .agg (effC k fl mn tm (.slice A l.length c) n ok), .agg #[.int .u32 sf, .int .u8 sm, .int .u8 st]] w fun e w' => e = .returned (.tuple #[.int .i64 (0), .int .i64 (11)]) ∧ Below w.heap.size w w' := by
  unfold effC
  have hw : Below w.heap.size w ((w.alloc (.cells #[.int .i64 k, .int .u32 fl, .int .u8 mn, .int .u8 tm, .slice A l.length c, .int .i64 n, .bool ok] 44)).alloc (.cells #[.int .u32 sf, .int .u8 sm, .int .u8 st] 41)) := ((Below.refl _ _).alloc (Nat.le_refl _) _).alloc (by simp) _
  have hA1 := hA.below hw
  have HB := Lib.hid hw
  clear hA hw
  go_enter Try.func14, Try.ntmps14
  go_wp2
  go_ret2
  exact ⟨rfl, HB.out⟩

theorem rs0_2 (fl mn tm sf sm st n : Int) (A : Option Addr) (l : List UInt8) (c : Nat) (ok : Bool) (w : World) (hA : BytesAt w A l)  :
    Calls Try.prog 14 #[.int .i64 0, .agg (effC 2 fl mn tm (.slice A l.length c) n ok), .agg #[.int .u32 sf, .int .u8 sm, .int .u8 st]] w fun e w' => e = .returned (.tuple #[.int .i64 (0), .int .i64 (11)]) ∧ Below w.heap.size w w' := by
  unfold effC
  have hw : Below w.heap.size w ((w.alloc (.cells #[.int .i64 2, .int .u32 fl, .int .u8 mn, .int .u8 tm, .slice A l.length c, .int .i64 n, .bool ok] 44)).alloc (.cells #[.int .u32 sf, .int .u8 sm, .int .u8 st] 41)) := ((Below.refl _ _).alloc (Nat.le_refl _) _).alloc (by simp) _
  have hA1 := hA.below hw
  have HB := Lib.hid hw
  clear hA hw
  go_enter Try.func14, Try.ntmps14
  go_wp2
  go_ret2
  exact ⟨rfl, HB.out⟩

theorem rs2_s (fl mn tm sf sm st n : Int) (A : Option Addr) (l : List UInt8) (c : Nat) (ok : Bool) (w : World) (hA : BytesAt w A l) (h1 : (l == [27, 91, 63, 50, 48, 48, 52, 104]) = true) :
    Calls Try.prog 14 #[.int .i64 2, .agg (effC 2 fl mn tm (.slice A l.length c) n ok), .agg #[.int .u32 sf, .int .u8 sm, .int .u8 st]] w fun e w' => e = .returned (.tuple #[.int .i64 (3), .int .i64 (0)]) ∧ Below w.heap.size w w' := by
  unfold effC
  have hw : Below w.heap.size w ((w.alloc (.cells #[.int .i64 2, .int .u32 fl, .int .u8 mn, .int .u8 tm, .slice A l.length c, .int .i64 n, .bool ok] 44)).alloc (.cells #[.int .u32 sf, .int .u8 sm, .int .u8 st] 41)) := ((Below.refl _ _).alloc (Nat.le_refl _) _).alloc (by simp) _
  have hA1 := hA.below hw
  have HB := Lib.hid hw
  clear hA hw
  go_enter Try.func14, Try.ntmps14
  go_wp2
  go_ret2
  exact ⟨rfl, HB.out⟩

theorem rs2_n (fl mn tm sf sm st n : Int) (A : Option Addr) (l : List UInt8) (c : Nat) (ok : Bool) (w : World) (hA : BytesAt w A l) (h1 : (l == [27, 91, 63, 50, 48, 48, 52, 104]) = false) :
    Calls Try.prog 14 #[.int .i64 2, .agg (effC 2 fl mn tm (.slice A l.length c) n ok), .agg #[.int .u32 sf, .int .u8 sm, .int .u8 st]] w fun e w' => e = .returned (.tuple #[.int .i64 (0), .int .i64 (11)]) ∧ Below w.heap.size w w' := by
  unfold effC
  have hw : Below w.heap.size w ((w.alloc (.cells #[.int .i64 2, .int .u32 fl, .int .u8 mn, .int .u8 tm, .slice A l.length c, .int .i64 n, .bool ok] 44)).alloc (.cells #[.int .u32 sf, .int .u8 sm, .int .u8 st] 41)) := ((Below.refl _ _).alloc (Nat.le_refl _) _).alloc (by simp) _
  have hA1 := hA.below hw
  have HB := Lib.hid hw
  clear hA hw
  go_enter Try.func14, Try.ntmps14
  go_wp2
  go_ret2
  exact ⟨rfl, HB.out⟩

theorem rs2_g (k fl mn tm sf sm st n : Int) (A : Option Addr) (l : List UInt8) (c : Nat) (ok : Bool) (w : World) (hA : BytesAt w A l) (hk2 : (k == 2) = false) (e0 : decide (k < 0) = false) (e7 : decide (6 < k) = false) (e6 : (k == 6) = false) :
    Calls Try.prog 14 #[.int .i64 2, .agg (effC k fl mn tm (.slice A l.length c) n ok), .agg #[.int .u32 sf, .int .u8 sm, .int .u8 st]] w fun e w' => e = .returned (.tuple #[.int .i64 (0), .int .i64 (11)]) ∧ Below w.heap.size w w' := by
  unfold effC
  have hw : Below w.heap.size w ((w.alloc (.cells #[.int .i64 k, .int .u32 fl, .int .u8 mn, .int .u8 tm, .slice A l.length c, .int .i64 n, .bool ok] 44)).alloc (.cells #[.int .u32 sf, .int .u8 sm, .int .u8 st] 41)) := ((Below.refl _ _).alloc (Nat.le_refl _) _).alloc (by simp) _
  have hA1 := hA.below hw
  have HB := Lib.hid hw
  clear hA hw
  go_enter Try.func14, Try.ntmps14
  go_wp2
  go_ret2
  exact ⟨rfl, HB.out⟩

theorem rs3_p (fl mn tm sf sm st n : Int) (A : Option Addr) (l : List UInt8) (c : Nat) (ok : Bool) (w : World) (hA : BytesAt w A l) (h2 : (l == [27, 91, 63, 50, 48, 48, 52, 108]) = true) :
    Calls Try.prog 14 #[.int .i64 3, .agg (effC 2 fl mn tm (.slice A l.length c) n ok), .agg #[.int .u32 sf, .int .u8 sm, .int .u8 st]] w fun e w' => e = .returned (.tuple #[.int .i64 (4), .int .i64 (0)]) ∧ Below w.heap.size w w' := by
  unfold effC
  have hw : Below w.heap.size w ((w.alloc (.cells #[.int .i64 2, .int .u32 fl, .int .u8 mn, .int .u8 tm, .slice A l.length c, .int .i64 n, .bool ok] 44)).alloc (.cells #[.int .u32 sf, .int .u8 sm, .int .u8 st] 41)) := ((Below.refl _ _).alloc (Nat.le_refl _) _).alloc (by simp) _
  have hA1 := hA.below hw
  have HB := Lib.hid hw
  clear hA hw
  go_enter Try.func14, Try.ntmps14
  go_wp2
  go_ret2
  exact ⟨rfl, HB.out⟩

theorem rs3_s (fl mn tm sf sm st n : Int) (A : Option Addr) (l : List UInt8) (c : Nat) (ok : Bool) (w : World) (hA : BytesAt w A l) (h2 : (l == [27, 91, 63, 50, 48, 48, 52, 108]) = false) (h1 : (l == [27, 91, 63, 50, 48, 48, 52, 104]) = true) :
    Calls Try.prog 14 #[.int .i64 3, .agg (effC 2 fl mn tm (.slice A l.length c) n ok), .agg #[.int .u32 sf, .int .u8 sm, .int .u8 st]] w fun e w' => e = .returned (.tuple #[.int .i64 (0), .int .i64 (11)]) ∧ Below w.heap.size w w' := by
  unfold effC
  have hw : Below w.heap.size w ((w.alloc (.cells #[.int .i64 2, .int .u32 fl, .int .u8 mn, .int .u8 tm, .slice A l.length c, .int .i64 n, .bool ok] 44)).alloc (.cells #[.int .u32 sf, .int .u8 sm, .int .u8 st] 41)) := ((Below.refl _ _).alloc (Nat.le_refl _) _).alloc (by simp) _
  have hA1 := hA.below hw
  have HB := Lib.hid hw
  clear hA hw
  go_enter Try.func14, Try.ntmps14
  go_wp2
  go_ret2
  exact ⟨rfl, HB.out⟩

theorem rs3_n (fl mn tm sf sm st n : Int) (A : Option Addr) (l : List UInt8) (c : Nat) (ok : Bool) (w : World) (hA : BytesAt w A l) (h2 : (l == [27, 91, 63, 50, 48, 48, 52, 108]) = false) (h1 : (l == [27, 91, 63, 50, 48, 48, 52, 104]) = false) :
    Calls Try.prog 14 #[.int .i64 3, .agg (effC 2 fl mn tm (.slice A l.length c) n ok), .agg #[.int .u32 sf, .int .u8 sm, .int .u8 st]] w fun e w' => e = .returned (.tuple #[.int .i64 (3), .int .i64 (0)]) ∧ Below w.heap.size w w' := by
  unfold effC
  have hw : Below w.heap.size w ((w.alloc (.cells #[.int .i64 2, .int .u32 fl, .int .u8 mn, .int .u8 tm, .slice A l.length c, .int .i64 n, .bool ok] 44)).alloc (.cells #[.int .u32 sf, .int .u8 sm, .int .u8 st] 41)) := ((Below.refl _ _).alloc (Nat.le_refl _) _).alloc (by simp) _
  have hA1 := hA.below hw
  have HB := Lib.hid hw
  clear hA hw
  go_enter Try.func14, Try.ntmps14
  go_wp2
  go_ret2
  exact ⟨rfl, HB.out⟩

theorem rs3_g (k fl mn tm sf sm st n : Int) (A : Option Addr) (l : List UInt8) (c : Nat) (ok : Bool) (w : World) (hA : BytesAt w A l) (hk2 : (k == 2) = false) (e0 : decide (k < 0) = false) (e7 : decide (6 < k) = false) (e6 : (k == 6) = false) (h3 : decide (2 ≤ k) = true) :
    Calls Try.prog 14 #[.int .i64 3, .agg (effC k fl mn tm (.slice A l.length c) n ok), .agg #[.int .u32 sf, .int .u8 sm, .int .u8 st]] w fun e w' => e = .returned (.tuple #[.int .i64 (3), .int .i64 (0)]) ∧ Below w.heap.size w w' := by
  unfold effC
  have hw : Below w.heap.size w ((w.alloc (.cells #[.int .i64 k, .int .u32 fl, .int .u8 mn, .int .u8 tm, .slice A l.length c, .int .i64 n, .bool ok] 44)).alloc (.cells #[.int .u32 sf, .int .u8 sm, .int .u8 st] 41)) := ((Below.refl _ _).alloc (Nat.le_refl _) _).alloc (by simp) _
  have hA1 := hA.below hw
  have HB := Lib.hid hw
  clear hA hw
  go_enter Try.func14, Try.ntmps14
  go_wp2
  go_ret2
  exact ⟨rfl, HB.out⟩

theorem rs3_l (k fl mn tm sf sm st n : Int) (A : Option Addr) (l : List UInt8) (c : Nat) (ok : Bool) (w : World) (hA : BytesAt w A l) (hk2 : (k == 2) = false) (e0 : decide (k < 0) = false) (e7 : decide (6 < k) = false) (e6 : (k == 6) = false) (h3 : decide (2 ≤ k) = false) :
    Calls Try.prog 14 #[.int .i64 3, .agg (effC k fl mn tm (.slice A l.length c) n ok), .agg #[.int .u32 sf, .int .u8 sm, .int .u8 st]] w fun e w' => e = .returned (.tuple #[.int .i64 (0), .int .i64 (11)]) ∧ Below w.heap.size w w' := by
  unfold effC
  have hw : Below w.heap.size w ((w.alloc (.cells #[.int .i64 k, .int .u32 fl, .int .u8 mn, .int .u8 tm, .slice A l.length c, .int .i64 n, .bool ok] 44)).alloc (.cells #[.int .u32 sf, .int .u8 sm, .int .u8 st] 41)) := ((Below.refl _ _).alloc (Nat.le_refl _) _).alloc (by simp) _
  have hA1 := hA.below hw
  have HB := Lib.hid hw
  clear hA hw
  go_enter Try.func14, Try.ntmps14
  go_wp2
  go_ret2
  exact ⟨rfl, HB.out⟩

theorem rs4_n (fl mn tm sf sm st n : Int) (A : Option Addr) (l : List UInt8) (c : Nat) (ok : Bool) (w : World) (hA : BytesAt w A l) (h2 : (l == [27, 91, 63, 50, 48, 48, 52, 108]) = false) (h1 : (l == [27, 91, 63, 50, 48, 48, 52, 104]) = false) :
    Calls Try.prog 14 #[.int .i64 4, .agg (effC 2 fl mn tm (.slice A l.length c) n ok), .agg #[.int .u32 sf, .int .u8 sm, .int .u8 st]] w fun e w' => e = .returned (.tuple #[.int .i64 (4), .int .i64 (0)]) ∧ Below w.heap.size w w' := by
  unfold effC
  have hw : Below w.heap.size w ((w.alloc (.cells #[.int .i64 2, .int .u32 fl, .int .u8 mn, .int .u8 tm, .slice A l.length c, .int .i64 n, .bool ok] 44)).alloc (.cells #[.int .u32 sf, .int .u8 sm, .int .u8 st] 41)) := ((Below.refl _ _).alloc (Nat.le_refl _) _).alloc (by simp) _
  have hA1 := hA.below hw
  have HB := Lib.hid hw
  clear hA hw
  go_enter Try.func14, Try.ntmps14
  go_wp2
  go_ret2
  exact ⟨rfl, HB.out⟩

theorem rs4_s (fl mn tm sf sm st n : Int) (A : Option Addr) (l : List UInt8) (c : Nat) (ok : Bool) (w : World) (hA : BytesAt w A l) (h1 : (l == [27, 91, 63, 50, 48, 48, 52, 104]) = true) (x : Int) (hx : setErr 2 fl mn tm sf sm st = x) :
    Calls Try.prog 14 #[.int .i64 4, .agg (effC 2 fl mn tm (.slice A l.length c) n ok), .agg #[.int .u32 sf, .int .u8 sm, .int .u8 st]] w fun e w' => e = .returned (.tuple #[.int .i64 (6), .int .i64 (x)]) ∧ Below w.heap.size w w' := by
  have hs := rset 2 fl mn tm sf sm st (.slice A l.length c) n ok
  unfold effC
  have hw : Below w.heap.size w ((w.alloc (.cells #[.int .i64 2, .int .u32 fl, .int .u8 mn, .int .u8 tm, .slice A l.length c, .int .i64 n, .bool ok] 44)).alloc (.cells #[.int .u32 sf, .int .u8 sm, .int .u8 st] 41)) := ((Below.refl _ _).alloc (Nat.le_refl _) _).alloc (by simp) _
  have hA1 := hA.below hw
  have HB := Lib.hid hw
  clear hA hw
  have HS := Lib.hid (hs ((w.alloc (.cells #[.int .i64 2, .int .u32 fl, .int .u8 mn, .int .u8 tm, .slice A l.length c, .int .i64 n, .bool ok] 44)).alloc (.cells #[.int .u32 sf, .int .u8 sm, .int .u8 st] 41)))
  have hx := Lib.hid hx
  rw [hx.out] at HS
  clear hs
  unfold effC at HS
  go_enter Try.func14, Try.ntmps14
  go_wp2_with (go_at_call 19; refine (HS.out).mono ?_; rintro e w1 ⟨rfl, hb1⟩)
  go_ret2
  exact ⟨rfl, HB.out.trans (hb1.mono HB.out.size)⟩

theorem rs4_p (fl mn tm sf sm st n : Int) (A : Option Addr) (l : List UInt8) (c : Nat) (ok : Bool) (w : World) (hA : BytesAt w A l) (h1 : (l == [27, 91, 63, 50, 48, 48, 52, 104]) = false) (h2 : (l == [27, 91, 63, 50, 48, 48, 52, 108]) = true) (x : Int) (hx : setErr 2 fl mn tm sf sm st = x) :
    Calls Try.prog 14 #[.int .i64 4, .agg (effC 2 fl mn tm (.slice A l.length c) n ok), .agg #[.int .u32 sf, .int .u8 sm, .int .u8 st]] w fun e w' => e = .returned (.tuple #[.int .i64 (6), .int .i64 (x)]) ∧ Below w.heap.size w w' := by
  have hs := rset 2 fl mn tm sf sm st (.slice A l.length c) n ok
  unfold effC
  have hw : Below w.heap.size w ((w.alloc (.cells #[.int .i64 2, .int .u32 fl, .int .u8 mn, .int .u8 tm, .slice A l.length c, .int .i64 n, .bool ok] 44)).alloc (.cells #[.int .u32 sf, .int .u8 sm, .int .u8 st] 41)) := ((Below.refl _ _).alloc (Nat.le_refl _) _).alloc (by simp) _
  have hA1 := hA.below hw
  have HB := Lib.hid hw
  clear hA hw
  have HS := Lib.hid (hs ((w.alloc (.cells #[.int .i64 2, .int .u32 fl, .int .u8 mn, .int .u8 tm, .slice A l.length c, .int .i64 n, .bool ok] 44)).alloc (.cells #[.int .u32 sf, .int .u8 sm, .int .u8 st] 41)))
  have hx := Lib.hid hx
  rw [hx.out] at HS
  clear hs
  unfold effC at HS
  go_enter Try.func14, Try.ntmps14
  go_wp2_with (go_at_call 19; refine (HS.out).mono ?_; rintro e w1 ⟨rfl, hb1⟩)
  go_ret2
  exact ⟨rfl, HB.out.trans (hb1.mono HB.out.size)⟩

theorem rs4_g (k fl mn tm sf sm st n : Int) (A : Option Addr) (l : List UInt8) (c : Nat) (ok : Bool) (w : World) (hA : BytesAt w A l) (hk2 : (k == 2) = false) (e0 : decide (k < 0) = false) (e7 : decide (6 < k) = false) (e6 : (k == 6) = false) (x : Int) (hx : setErr k fl mn tm sf sm st = x) :
    Calls Try.prog 14 #[.int .i64 4, .agg (effC k fl mn tm (.slice A l.length c) n ok), .agg #[.int .u32 sf, .int .u8 sm, .int .u8 st]] w fun e w' => e = .returned (.tuple #[.int .i64 (6), .int .i64 (x)]) ∧ Below w.heap.size w w' := by
  have hs := rset k fl mn tm sf sm st (.slice A l.length c) n ok
  unfold effC
  have hw : Below w.heap.size w ((w.alloc (.cells #[.int .i64 k, .int .u32 fl, .int .u8 mn, .int .u8 tm, .slice A l.length c, .int .i64 n, .bool ok] 44)).alloc (.cells #[.int .u32 sf, .int .u8 sm, .int .u8 st] 41)) := ((Below.refl _ _).alloc (Nat.le_refl _) _).alloc (by simp) _
  have hA1 := hA.below hw
  have HB := Lib.hid hw
  clear hA hw
  have HS := Lib.hid (hs ((w.alloc (.cells #[.int .i64 k, .int .u32 fl, .int .u8 mn, .int .u8 tm, .slice A l.length c, .int .i64 n, .bool ok] 44)).alloc (.cells #[.int .u32 sf, .int .u8 sm, .int .u8 st] 41)))
  have hx := Lib.hid hx
  rw [hx.out] at HS
  clear hs
  unfold effC at HS
  go_enter Try.func14, Try.ntmps14
  go_wp2_with (go_at_call 19; refine (HS.out).mono ?_; rintro e w1 ⟨rfl, hb1⟩)
  go_ret2
  exact ⟨rfl, HB.out.trans (hb1.mono HB.out.size)⟩

theorem rs5_2 (fl mn tm sf sm st n : Int) (A : Option Addr) (l : List UInt8) (c : Nat) (ok : Bool) (w : World) (hA : BytesAt w A l) (x : Int) (hx : setErr 2 fl mn tm sf sm st = x) :
    Calls Try.prog 14 #[.int .i64 5, .agg (effC 2 fl mn tm (.slice A l.length c) n ok), .agg #[.int .u32 sf, .int .u8 sm, .int .u8 st]] w fun e w' => e = .returned (.tuple #[.int .i64 (6), .int .i64 (x)]) ∧ Below w.heap.size w w' := by
  have hs := rset 2 fl mn tm sf sm st (.slice A l.length c) n ok
  unfold effC
  have hw : Below w.heap.size w ((w.alloc (.cells #[.int .i64 2, .int .u32 fl, .int .u8 mn, .int .u8 tm, .slice A l.length c, .int .i64 n, .bool ok] 44)).alloc (.cells #[.int .u32 sf, .int .u8 sm, .int .u8 st] 41)) := ((Below.refl _ _).alloc (Nat.le_refl _) _).alloc (by simp) _
  have hA1 := hA.below hw
  have HB := Lib.hid hw
  clear hA hw
  have HS := Lib.hid (hs ((w.alloc (.cells #[.int .i64 2, .int .u32 fl, .int .u8 mn, .int .u8 tm, .slice A l.length c, .int .i64 n, .bool ok] 44)).alloc (.cells #[.int .u32 sf, .int .u8 sm, .int .u8 st] 41)))
  have hx := Lib.hid hx
  rw [hx.out] at HS
  clear hs
  unfold effC at HS
  go_enter Try.func14, Try.ntmps14
  go_wp2_with (go_at_call 19; refine (HS.out).mono ?_; rintro e w1 ⟨rfl, hb1⟩)
  go_ret2
  exact ⟨rfl, HB.out.trans (hb1.mono HB.out.size)⟩

theorem rs5_g (k fl mn tm sf sm st n : Int) (A : Option Addr) (l : List UInt8) (c : Nat) (ok : Bool) (w : World) (hA : BytesAt w A l) (hk2 : (k == 2) = false) (e0 : decide (k < 0) = false) (e7 : decide (6 < k) = false) (e6 : (k == 6) = false) (x : Int) (hx : setErr k fl mn tm sf sm st = x) :
    Calls Try.prog 14 #[.int .i64 5, .agg (effC k fl mn tm (.slice A l.length c) n ok), .agg #[.int .u32 sf, .int .u8 sm, .int .u8 st]] w fun e w' => e = .returned (.tuple #[.int .i64 (6), .int .i64 (x)]) ∧ Below w.heap.size w w' := by
  have hs := rset k fl mn tm sf sm st (.slice A l.length c) n ok
  unfold effC
  have hw : Below w.heap.size w ((w.alloc (.cells #[.int .i64 k, .int .u32 fl, .int .u8 mn, .int .u8 tm, .slice A l.length c, .int .i64 n, .bool ok] 44)).alloc (.cells #[.int .u32 sf, .int .u8 sm, .int .u8 st] 41)) := ((Below.refl _ _).alloc (Nat.le_refl _) _).alloc (by simp) _
  have hA1 := hA.below hw
  have HB := Lib.hid hw
  clear hA hw
  have HS := Lib.hid (hs ((w.alloc (.cells #[.int .i64 k, .int .u32 fl, .int .u8 mn, .int .u8 tm, .slice A l.length c, .int .i64 n, .bool ok] 44)).alloc (.cells #[.int .u32 sf, .int .u8 sm, .int .u8 st] 41)))
  have hx := Lib.hid hx
  rw [hx.out] at HS
  clear hs
  unfold effC at HS
  go_enter Try.func14, Try.ntmps14
  go_wp2_with (go_at_call 19; refine (HS.out).mono ?_; rintro e w1 ⟨rfl, hb1⟩)
  go_ret2
  exact ⟨rfl, HB.out.trans (hb1.mono HB.out.size)⟩

theorem rs6_2 (fl mn tm sf sm st n : Int) (A : Option Addr) (l : List UInt8) (c : Nat) (ok : Bool) (w : World) (hA : BytesAt w A l)  :
    Calls Try.prog 14 #[.int .i64 6, .agg (effC 2 fl mn tm (.slice A l.length c) n ok), .agg #[.int .u32 sf, .int .u8 sm, .int .u8 st]] w fun e w' => e = .returned (.tuple #[.int .i64 (0), .int .i64 (11)]) ∧ Below w.heap.size w w' := by
  unfold effC
  have hw : Below w.heap.size w ((w.alloc (.cells #[.int .i64 2, .int .u32 fl, .int .u8 mn, .int .u8 tm, .slice A l.length c, .int .i64 n, .bool ok] 44)).alloc (.cells #[.int .u32 sf, .int .u8 sm, .int .u8 st] 41)) := ((Below.refl _ _).alloc (Nat.le_refl _) _).alloc (by simp) _
  have hA1 := hA.below hw
  have HB := Lib.hid hw
  clear hA hw
  go_enter Try.func14, Try.ntmps14
  go_wp2
  go_ret2
  exact ⟨rfl, HB.out⟩

theorem rs6_g (k fl mn tm sf sm st n : Int) (A : Option Addr) (l : List UInt8) (c : Nat) (ok : Bool) (w : World) (hA : BytesAt w A l) (hk2 : (k == 2) = false) (e0 : decide (k < 0) = false) (e7 : decide (6 < k) = false) (e6 : (k == 6) = false) :
    Calls Try.prog 14 #[.int .i64 6, .agg (effC k fl mn tm (.slice A l.length c) n ok), .agg #[.int .u32 sf, .int .u8 sm, .int .u8 st]] w fun e w' => e = .returned (.tuple #[.int .i64 (0), .int .i64 (11)]) ∧ Below w.heap.size w w' := by
  unfold effC
  have hw : Below w.heap.size w ((w.alloc (.cells #[.int .i64 k, .int .u32 fl, .int .u8 mn, .int .u8 tm, .slice A l.length c, .int .i64 n, .bool ok] 44)).alloc (.cells #[.int .u32 sf, .int .u8 sm, .int .u8 st] 41)) := ((Below.refl _ _).alloc (Nat.le_refl _) _).alloc (by simp) _
  have hA1 := hA.below hw
  have HB := Lib.hid hw
  clear hA hw
  go_enter Try.func14, Try.ntmps14
  go_wp2
  go_ret2
  exact ⟨rfl, HB.out⟩

theorem rs1_2 (fl mn tm sf sm st n : Int) (A : Option Addr) (l : List UInt8) (c : Nat) (ok : Bool) (w : World) (hA : BytesAt w A l)  (x : Int) (hx : setErr 2 fl mn tm (rawFl sf) 1 0 = x) (hf : 0 ≤ sf ∧ sf < 4294967296) :
    Calls Try.prog 14 #[.int .i64 1, .agg (effC 2 fl mn tm (.slice A l.length c) n ok), .agg #[.int .u32 sf, .int .u8 sm, .int .u8 st]] w fun e w' => e = .returned (.tuple #[.int .i64 (if x = 0 then (if ok then 2 else 5) else 2), .int .i64 (x)]) ∧ Below w.heap.size w w' := by
  obtain ⟨wb, hwb⟩ : ∃ wb : World, wb = (w.alloc (.cells #[.int .i64 2, .int .u32 fl, .int .u8 mn, .int .u8 tm, .slice A l.length c, .int .i64 n, .bool ok] 44)).alloc (.cells #[.int .u32 sf, .int .u8 sm, .int .u8 st] 41) := ⟨_, rfl⟩
  have hn1 : Blk wb w.heap.size (effC 2 fl mn tm (.slice A l.length c) n ok) 44 := by rw [hwb]; exact (Blk.new w _ _).alloc _
  have hn2 : Blk wb (w.heap.size + 1) #[.int .u32 sf, .int .u8 sm, .int .u8 st] 41 := by
    rw [hwb]; have h := Blk.new (w.alloc (.cells #[.int .i64 2, .int .u32 fl, .int .u8 mn, .int .u8 tm, .slice A l.length c, .int .i64 n, .bool ok] 44)) #[.int .u32 sf, .int .u8 sm, .int .u8 st] 41; simpa using h
  have hS : ∀ W, Below wb.heap.size wb W → Below wb.heap.size wb W ∧ W.cell? ⟨w.heap.size, 0, none⟩ = some (.int .i64 2) ∧ W.cell? ⟨w.heap.size, 1, none⟩ = some (.int .u32 fl) ∧ W.cell? ⟨w.heap.size, 2, none⟩ = some (.int .u8 mn) ∧ W.cell? ⟨w.heap.size, 3, none⟩ = some (.int .u8 tm) ∧ W.cell? ⟨w.heap.size, 4, none⟩ = some (.slice A l.length c) ∧ W.cell? ⟨w.heap.size, 5, none⟩ = some (.int .i64 n) ∧ W.cell? ⟨w.heap.size, 6, none⟩ = some (.bool ok) ∧ W.cell? ⟨w.heap.size + 1, 0, none⟩ = some (.int .u32 sf) ∧ W.cell? ⟨w.heap.size + 1, 1, none⟩ = some (.int .u8 sm) ∧ W.cell? ⟨w.heap.size + 1, 2, none⟩ = some (.int .u8 st) := fun W hW => by
    have q1 : ∀ j v, wb.cell? ⟨w.heap.size, j, none⟩ = some v → W.cell? ⟨w.heap.size, j, none⟩ = some v := fun j v h => by rw [hW.cell (p := ⟨w.heap.size, j, none⟩) hn1.lt]; exact h
    have q2 : ∀ j v, wb.cell? ⟨w.heap.size + 1, j, none⟩ = some v → W.cell? ⟨w.heap.size + 1, j, none⟩ = some v := fun j v h => by rw [hW.cell (p := ⟨w.heap.size + 1, j, none⟩) hn2.lt]; exact h
    exact ⟨hW, q1 _ _ (hn1.cell rfl), q1 _ _ (hn1.cell rfl), q1 _ _ (hn1.cell rfl), q1 _ _ (hn1.cell rfl), q1 _ _ (hn1.cell rfl), q1 _ _ (hn1.cell rfl), q1 _ _ (hn1.cell rfl), q2 _ _ (hn2.cell rfl), q2 _ _ (hn2.cell rfl), q2 _ _ (hn2.cell rfl)⟩
  have HS6 : Hid (∀ W, Below wb.heap.size wb W → W.cell? ⟨w.heap.size, 6, none⟩ = some (.bool ok)) := fun W hW => (hS W hW).2.2.2.2.2.2.2.1
  have HS := Lib.hid hS
  have H1 := Lib.hid (lift (w1 := wb) (rraw sf sm st hf))
  have H2 := Lib.hid (lift (w1 := wb) (rset 2 fl mn tm (rawFl sf) 1 0 (.slice A l.length c) n ok))
  have hd0 : Below wb.heap.size wb wb.drew := (Below.refl _ _).drew
  rw [hx] at H2
  have HO := Lib.hid hwb
  unfold effC at H2
  clear hS hn1 hn2 hx hwb hf
  unfold effC
  have hw : Below w.heap.size w ((w.alloc (.cells #[.int .i64 2, .int .u32 fl, .int .u8 mn, .int .u8 tm, .slice A l.length c, .int .i64 n, .bool ok] 44)).alloc (.cells #[.int .u32 sf, .int .u8 sm, .int .u8 st] 41)) := ((Below.refl _ _).alloc (Nat.le_refl _) _).alloc (by simp) _
  have hA1 := hA.below hw
  have HB := Lib.hid hw
  clear hA hw
  rw [← HO.out] at HB
  go_enter Try.func14, Try.ntmps14
  go_wp2
  rw [← HO.out]
  go_region_held_law (fun W => Below wb.heap.size wb W ∧ W.cell? ⟨w.heap.size, 0, none⟩ = some (.int .i64 2) ∧ W.cell? ⟨w.heap.size, 1, none⟩ = some (.int .u32 fl) ∧ W.cell? ⟨w.heap.size, 2, none⟩ = some (.int .u8 mn) ∧ W.cell? ⟨w.heap.size, 3, none⟩ = some (.int .u8 tm) ∧ W.cell? ⟨w.heap.size, 4, none⟩ = some (.slice A l.length c) ∧ W.cell? ⟨w.heap.size, 5, none⟩ = some (.int .i64 n) ∧ W.cell? ⟨w.heap.size, 6, none⟩ = some (.bool ok) ∧ W.cell? ⟨w.heap.size + 1, 0, none⟩ = some (.int .u32 sf) ∧ W.cell? ⟨w.heap.size + 1, 1, none⟩ = some (.int .u8 sm) ∧ W.cell? ⟨w.heap.size + 1, 2, none⟩ = some (.int .u8 st))
    (first | assumption | exact HS.out _ (by assumption)) (first
    | (go_at_call 20; refine (H1.out _ ?_).mono ?_; (go_split_ands; assumption); rintro e w2 ⟨rfl, hb2⟩)
    | (go_at_call 19; refine (H2.out _ ?_).mono ?_; (go_split_ands; assumption); rintro e w3 ⟨rfl, hb3⟩))
  have h6 := HS6.out _ hb3
  by_cases hx0 : x = 0
  · subst hx0
    cases ok
    · go_wp2
      go_ret2
      exact ⟨rfl, HB.out.trans (hb3.mono HB.out.size)⟩
    · go_wp2
      go_ret2
      exact ⟨rfl, HB.out.trans (hb3.mono HB.out.size)⟩
  · have hx1 : (x == 0) = false := by simpa using hx0
    go_wp2
    go_ret2
    exact ⟨rfl, HB.out.trans (hb3.mono HB.out.size)⟩

theorem rs1_g (k fl mn tm sf sm st n : Int) (A : Option Addr) (l : List UInt8) (c : Nat) (ok : Bool) (w : World) (hA : BytesAt w A l) (hk2 : (k == 2) = false) (e0 : decide (k < 0) = false) (e7 : decide (6 < k) = false) (e6 : (k == 6) = false) (x : Int) (hx : setErr k fl mn tm (rawFl sf) 1 0 = x) (hf : 0 ≤ sf ∧ sf < 4294967296) :
    Calls Try.prog 14 #[.int .i64 1, .agg (effC k fl mn tm (.slice A l.length c) n ok), .agg #[.int .u32 sf, .int .u8 sm, .int .u8 st]] w fun e w' => e = .returned (.tuple #[.int .i64 (if x = 0 then (if ok then 2 else 5) else 2), .int .i64 (x)]) ∧ Below w.heap.size w w' := by
  obtain ⟨wb, hwb⟩ : ∃ wb : World, wb = (w.alloc (.cells #[.int .i64 k, .int .u32 fl, .int .u8 mn, .int .u8 tm, .slice A l.length c, .int .i64 n, .bool ok] 44)).alloc (.cells #[.int .u32 sf, .int .u8 sm, .int .u8 st] 41) := ⟨_, rfl⟩
  have hn1 : Blk wb w.heap.size (effC k fl mn tm (.slice A l.length c) n ok) 44 := by rw [hwb]; exact (Blk.new w _ _).alloc _
  have hn2 : Blk wb (w.heap.size + 1) #[.int .u32 sf, .int .u8 sm, .int .u8 st] 41 := by
    rw [hwb]; have h := Blk.new (w.alloc (.cells #[.int .i64 k, .int .u32 fl, .int .u8 mn, .int .u8 tm, .slice A l.length c, .int .i64 n, .bool ok] 44)) #[.int .u32 sf, .int .u8 sm, .int .u8 st] 41; simpa using h
  have hS : ∀ W, Below wb.heap.size wb W → Below wb.heap.size wb W ∧ W.cell? ⟨w.heap.size, 0, none⟩ = some (.int .i64 k) ∧ W.cell? ⟨w.heap.size, 1, none⟩ = some (.int .u32 fl) ∧ W.cell? ⟨w.heap.size, 2, none⟩ = some (.int .u8 mn) ∧ W.cell? ⟨w.heap.size, 3, none⟩ = some (.int .u8 tm) ∧ W.cell? ⟨w.heap.size, 4, none⟩ = some (.slice A l.length c) ∧ W.cell? ⟨w.heap.size, 5, none⟩ = some (.int .i64 n) ∧ W.cell? ⟨w.heap.size, 6, none⟩ = some (.bool ok) ∧ W.cell? ⟨w.heap.size + 1, 0, none⟩ = some (.int .u32 sf) ∧ W.cell? ⟨w.heap.size + 1, 1, none⟩ = some (.int .u8 sm) ∧ W.cell? ⟨w.heap.size + 1, 2, none⟩ = some (.int .u8 st) := fun W hW => by
    have q1 : ∀ j v, wb.cell? ⟨w.heap.size, j, none⟩ = some v → W.cell? ⟨w.heap.size, j, none⟩ = some v := fun j v h => by rw [hW.cell (p := ⟨w.heap.size, j, none⟩) hn1.lt]; exact h
    have q2 : ∀ j v, wb.cell? ⟨w.heap.size + 1, j, none⟩ = some v → W.cell? ⟨w.heap.size + 1, j, none⟩ = some v := fun j v h => by rw [hW.cell (p := ⟨w.heap.size + 1, j, none⟩) hn2.lt]; exact h
    exact ⟨hW, q1 _ _ (hn1.cell rfl), q1 _ _ (hn1.cell rfl), q1 _ _ (hn1.cell rfl), q1 _ _ (hn1.cell rfl), q1 _ _ (hn1.cell rfl), q1 _ _ (hn1.cell rfl), q1 _ _ (hn1.cell rfl), q2 _ _ (hn2.cell rfl), q2 _ _ (hn2.cell rfl), q2 _ _ (hn2.cell rfl)⟩
  have HS6 : Hid (∀ W, Below wb.heap.size wb W → W.cell? ⟨w.heap.size, 6, none⟩ = some (.bool ok)) := fun W hW => (hS W hW).2.2.2.2.2.2.2.1
  have HS := Lib.hid hS
  have H1 := Lib.hid (lift (w1 := wb) (rraw sf sm st hf))
  have H2 := Lib.hid (lift (w1 := wb) (rset k fl mn tm (rawFl sf) 1 0 (.slice A l.length c) n ok))
  have hd0 : Below wb.heap.size wb wb.drew := (Below.refl _ _).drew
  rw [hx] at H2
  have HO := Lib.hid hwb
  unfold effC at H2
  clear hS hn1 hn2 hx hwb hf
  unfold effC
  have hw : Below w.heap.size w ((w.alloc (.cells #[.int .i64 k, .int .u32 fl, .int .u8 mn, .int .u8 tm, .slice A l.length c, .int .i64 n, .bool ok] 44)).alloc (.cells #[.int .u32 sf, .int .u8 sm, .int .u8 st] 41)) := ((Below.refl _ _).alloc (Nat.le_refl _) _).alloc (by simp) _
  have hA1 := hA.below hw
  have HB := Lib.hid hw
  clear hA hw
  rw [← HO.out] at HB
  go_enter Try.func14, Try.ntmps14
  go_wp2
  rw [← HO.out]
  go_region_held_law (fun W => Below wb.heap.size wb W ∧ W.cell? ⟨w.heap.size, 0, none⟩ = some (.int .i64 k) ∧ W.cell? ⟨w.heap.size, 1, none⟩ = some (.int .u32 fl) ∧ W.cell? ⟨w.heap.size, 2, none⟩ = some (.int .u8 mn) ∧ W.cell? ⟨w.heap.size, 3, none⟩ = some (.int .u8 tm) ∧ W.cell? ⟨w.heap.size, 4, none⟩ = some (.slice A l.length c) ∧ W.cell? ⟨w.heap.size, 5, none⟩ = some (.int .i64 n) ∧ W.cell? ⟨w.heap.size, 6, none⟩ = some (.bool ok) ∧ W.cell? ⟨w.heap.size + 1, 0, none⟩ = some (.int .u32 sf) ∧ W.cell? ⟨w.heap.size + 1, 1, none⟩ = some (.int .u8 sm) ∧ W.cell? ⟨w.heap.size + 1, 2, none⟩ = some (.int .u8 st))
    (first | assumption | exact HS.out _ (by assumption)) (first
    | (go_at_call 20; refine (H1.out _ ?_).mono ?_; (go_split_ands; assumption); rintro e w2 ⟨rfl, hb2⟩)
    | (go_at_call 19; refine (H2.out _ ?_).mono ?_; (go_split_ands; assumption); rintro e w3 ⟨rfl, hb3⟩))
  have h6 := HS6.out _ hb3
  by_cases hx0 : x = 0
  · subst hx0
    cases ok
    · go_wp2
      go_ret2
      exact ⟨rfl, HB.out.trans (hb3.mono HB.out.size)⟩
    · go_wp2
      go_ret2
      exact ⟨rfl, HB.out.trans (hb3.mono HB.out.size)⟩
  · have hx1 : (x == 0) = false := by simpa using hx0
    go_wp2
    go_ret2
    exact ⟨rfl, HB.out.trans (hb3.mono HB.out.size)⟩

end Go.Proofs.Ytbkdmceefefiaaa.Aud

/- A buffer: where the character behind the place ends; what the keys do. -/
import Derived.Test.YtbkpnffgihjikaaDoorKeys2
import Derived.Test.YtbkpnffgihjikaaDoorDel
set_option linter.unusedVariables false
namespace Go.Proofs.YtbkpnffgihjikaaDoor.Edit
open Go.RowKit Go.Lib Go.Shelf ChangeShapes Mem Utf UtfP

def behF (t : List UInt8) : Nat → Nat → Nat
  | 0, j => j
  | d + 1, j => if firstB t j then j else behF t d (j + 1)
def behindV (t : List UInt8) (j : Nat) : Nat := behF t (t.length - j) j

set_option maxHeartbeats 1000000 in
theorem behind_c {b a c N p : Nat} {t : List UInt8} (w : World) (h : Buf w b a c N t p) :
    Calls Tryd.prog 93 #[.pointer (some ⟨b, 0, none⟩)] w fun e w' => e = .returned (.int .i64 (behindV t (min t.length (p + 1)) : Int)) ∧ But [] w w' := by
  have c0 := h.head.cell (j := 0) (v := .pointer (some ⟨a, 0, none⟩)) rfl
  have c1 := h.head.cell (j := 1) (v := .int .i64 (p : Int)) rfl
  have hpm : p ≤ 4096 := by have := h.ar.fit; have := h.ar.max; have := h.le; omega
  have htm : t.length ≤ 4096 := by have := h.ar.fit; have := h.ar.max; omega
  have H := Lib.hid h
  have HL : Hid (∀ n, Calls Tryd.prog 45 #[.pointer (some ⟨a, 0, none⟩)] (w.drewN n) fun e w' => e = .returned (.int .i64 (t.length : Int)) ∧ w' = w.drewN n) := fun n => len (w.drewN n) (Buf.drewN h n).ar
  clear h
  obtain ⟨m, hm⟩ : ∃ m, min t.length (p + 1) = m := ⟨_, rfl⟩
  rw [hm]
  have hmt : m ≤ t.length := by omega
  have HMI : Hid ((m : Int) = (if (t.length : Int) < (p : Int) + 1 then (t.length : Int) else (p : Int) + 1)) := by unfold Hid; split <;> omega
  have HM := Lib.hid hm
  obtain ⟨R, hR⟩ : ∃ R, behindV t m = R := ⟨_, rfl⟩
  rw [hR]
  have HR := Lib.hid hR
  clear hR hm
  go_enter Tryd.func93, Tryd.ntmps93
  go_wp2
  go_quiet ((go_at_call 45; exact Calls.quiet_of_same (HL.out _)))
  rw [show min (t.length : Int) ((p : Int) + 1) = (m : Int) by have := HM.out; omega]
  obtain ⟨w2, hw2⟩ : ∃ w2, w.drewN nq = w2 := ⟨_, rfl⟩
  have H2 : Hid (Buf w2 b a c N t p) := by rw [← hw2]; exact Buf.drewN H.out nq
  have HB2 : Hid (But [] w w2) := by rw [← hw2]; exact But.drewN _ _
  rw [hw2]
  have H1 := Lib.hid (fun i => first_c i w2 H2.out)
  clear hw2 c0 c1
  go_wp2
  go_loopw [3] (fun i wr => ∃ j : Nat, i = .int .i64 (j : Int) ∧ Hid (behindV t j = R) ∧ j ≤ t.length ∧ wr = w2) (fun i _ => t.length - (RowKit.intOf i).toNat)
  case atStart => exact ⟨m, rfl, HR, hmt, rfl⟩
  case round =>
    obtain ⟨j, rfl, HJ, hj, hw⟩ := hrel
    obtain rfl := hw.symm
    have H3 := Lib.hid (H1.out j)
    cases hf : firstB t j
    · have hjl : j < t.length := by
        apply Classical.byContradiction
        intro hn
        unfold firstB at hf
        rw [if_neg hn] at hf
        cases hf
      have HD : Hid (behindV t (j + 1) = R) := by
        have := HJ.out
        unfold behindV at this ⊢
        obtain ⟨d, hd⟩ : ∃ d, t.length - j = d + 1 := ⟨t.length - j - 1, by omega⟩
        rw [hd] at this
        unfold behF at this
        rw [hf] at this
        show behF t (t.length - (j + 1)) (j + 1) = R
        rw [show t.length - (j + 1) = d by omega]
        exact this
      rw [hf] at H3
      clear hf
      go_wp2_with (go_at_call 75; refine (H3.out).mono ?_; rintro e w1 ⟨rfl, hq⟩; obtain rfl := hq.symm)
      go_roundw
      case rel => exact ⟨j + 1, by go_num, HD, by omega, by first | rfl | trivial⟩
      case measure => simp [RowKit.intOf]; omega
    · have HD : Hid (j = R) := by
        have := HJ.out
        unfold behindV at this
        cases hd : t.length - j with
        | zero => rw [hd] at this; exact this
        | succ d => rw [hd] at this; unfold behF at this; rw [hf] at this; exact this
      rw [hf] at H3
      clear hf
      go_wp2_with (go_at_call 75; refine (H3.out).mono ?_; rintro e w1 ⟨rfl, hq⟩; obtain rfl := hq.symm)
      go_ret
      exact ⟨by rw [HD.out]; rfl, HB2.out⟩

theorem take_c {b a c N p : Nat} {t : List UInt8} (f to : Nat) (w : World) (h : Buf w b a c N t p) (h1 : f ≤ to) (h2 : to ≤ t.length) :
    Calls Tryd.prog 91 #[.pointer (some ⟨b, 0, none⟩), .int .i64 (f : Int), .int .i64 (to : Int)] w fun e w' => e = .returned (.tuple #[]) ∧ Buf w' b a c N (t.take f ++ t.drop to) f ∧ But [b, a, c] w w' := by
  have H := Lib.hid h
  have c0 := h.head.cell (j := 0) (v := .pointer (some ⟨a, 0, none⟩)) rfl
  have H1 := Lib.hid (delete_ok f to w h.ar h1 h2)
  clear h
  go_enter Tryd.func91, Tryd.ntmps91
  go_wp2_with (go_at_call 96; refine (H1.out).mono ?_; rintro e w1 ⟨rfl, har, hb1⟩; have hh1 := H.out.head.but hb1 (by simp; exact ⟨H.out.ba, H.out.bc⟩); have g1 := hh1.cell (j := 1) (v := .int .i64 (p : Int)) rfl; have gf := hh1.free 1; have HH1 := Lib.hid hh1; have HAR := Lib.hid har; have HB1 := Lib.hid hb1; clear hh1 har hb1)
  go_end0
  refine ⟨rfl, ⟨Blk.set HH1.out 1 _, Ar.but HAR.out (But.set (S := [b]) (But.refl _ _) (Or.inl (by simp)) _) (by simp; exact fun e => H.out.ba e.symm) (by simp; exact fun e => H.out.bc e.symm), H.out.ba, H.out.bc, ?_⟩, (HB1.out.mono (by simp)).set (Or.inl (by simp)) _⟩
  rw [List.length_append, List.length_take, List.length_drop]; omega

/-- the place alone -/
theorem Buf.place {w : World} {b a c N p : Nat} {t : List UInt8} (h : Buf w b a c N t p) (q : Nat) (hq : q ≤ t.length) : Buf (w.setCell ⟨b, 1, none⟩ (.int .i64 (q : Int))) b a c N t q :=
  ⟨Blk.set h.head 1 _, Ar.but h.ar (But.set (S := [b]) (But.refl _ _) (Or.inl (by simp)) _) (by simp; exact fun e => h.ba e.symm) (by simp; exact fun e => h.bc e.symm), h.ba, h.bc, hq⟩

theorem home_c {b a c N p : Nat} {t : List UInt8} (w : World) (h : Buf w b a c N t p) :
    Calls Tryd.prog 80 #[.pointer (some ⟨b, 0, none⟩)] w fun e w' => e = .returned (.tuple #[]) ∧ Buf w' b a c N t 0 ∧ But [b, a, c] w w' := by
  have H := Lib.hid h
  have c1 := h.head.cell (j := 1) (v := .int .i64 (p : Int)) rfl
  have f1 := h.head.free 1
  clear h
  go_enter Tryd.func80, Tryd.ntmps80
  go_wp2
  go_end0
  exact ⟨rfl, Buf.place H.out 0 (by omega), (But.refl _ _).set (Or.inl (by simp)) _⟩

theorem last_c {b a c N p : Nat} {t : List UInt8} (w : World) (h : Buf w b a c N t p) :
    Calls Tryd.prog 81 #[.pointer (some ⟨b, 0, none⟩)] w fun e w' => e = .returned (.tuple #[]) ∧ Buf w' b a c N t t.length ∧ But [b, a, c] w w' := by
  have H := Lib.hid h
  have c0 := h.head.cell (j := 0) (v := .pointer (some ⟨a, 0, none⟩)) rfl
  have c1 := h.head.cell (j := 1) (v := .int .i64 (p : Int)) rfl
  have f1 := h.head.free 1
  have H1 := Lib.hid (len w h.ar)
  clear h
  go_enter Tryd.func81, Tryd.ntmps81
  go_wp2_with (go_at_call 45; refine (H1.out).mono ?_; rintro e w1 ⟨rfl, hq⟩; obtain rfl := hq.symm)
  go_end0
  exact ⟨rfl, Buf.place H.out t.length (by omega), (But.refl _ _).set (Or.inl (by simp)) _⟩

theorem left_c {b a c N p : Nat} {t : List UInt8} (w : World) (h : Buf w b a c N t p) (h0 : firstB t 0 = true) (hle : aheadV t (p - 1) ≤ t.length) :
    Calls Tryd.prog 78 #[.pointer (some ⟨b, 0, none⟩)] w fun e w' => e = .returned (.tuple #[]) ∧ Buf w' b a c N t (aheadV t (p - 1)) ∧ But [b, a, c] w w' := by
  have H := Lib.hid h
  have c1 := h.head.cell (j := 1) (v := .int .i64 (p : Int)) rfl
  have f1 := h.head.free 1
  have H1 := Lib.hid (ahead_c w h h0)
  generalize aheadV t (p - 1) = q at *
  clear h h0
  go_enter Tryd.func78, Tryd.ntmps78
  go_wp2_with (go_at_call 92; refine (H1.out).mono ?_; rintro e w1 ⟨rfl, hq⟩; obtain rfl := hq.symm)
  go_end0
  exact ⟨rfl, Buf.place H.out q hle, (But.refl _ _).set (Or.inl (by simp)) _⟩

theorem right_c {b a c N p : Nat} {t : List UInt8} (w : World) (h : Buf w b a c N t p) (q : Nat) (hqv : behindV t (min t.length (p + 1)) = q) (hle : q ≤ t.length) :
    Calls Tryd.prog 79 #[.pointer (some ⟨b, 0, none⟩)] w fun e w' => e = .returned (.tuple #[]) ∧ Buf w' b a c N t q ∧ But [b, a, c] w w' := by
  have H := Lib.hid h
  have H1 := Lib.hid (behind_c w h)
  rw [hqv] at H1
  clear h hqv
  go_enter Tryd.func79, Tryd.ntmps79
  go_wp2_with (go_at_call 93; refine (H1.out).mono ?_; rintro e w1 ⟨rfl, hb1⟩; have hbf := H.out.but hb1 (by simp) (by simp) (by simp); have g1 := hbf.head.cell (j := 1) (v := .int .i64 (p : Int)) rfl; have gf := hbf.head.free 1; have HBF := Lib.hid hbf; have HB1 := Lib.hid hb1; clear hbf hb1)
  go_end0
  exact ⟨rfl, Buf.place HBF.out q hle, (HB1.out.mono (by simp)).set (Or.inl (by simp)) _⟩

end Go.Proofs.YtbkpnffgihjikaaDoor.Edit

/- PasteNone, the walk: of no stage, and no arena, nothing is told; without a buffer a paste is lost. -/
import Derived.Test.YtbkpnffgihjikaaDoorGA
import Derived.Test.YtbkpnffgihjikaaDoorGP
set_option linter.unusedVariables false
set_option linter.unusedSimpArgs false
namespace Go.Proofs.YtbkpnffgihjikaaDoor.PasteNone
open Go.RowKit Go.Lib Go.Shelf ChangeShapes Mem Utf UtfP Edit Law

set_option maxRecDepth 200000 in
set_option maxHeartbeats 2000000 in
theorem walk (x : Int) (l : List UInt8) (A : Option Addr) (cap : Nat) (w : World) (hT : Tabs w) (_ : (Lit.int .i64 x).wf = true) (hA : BytesAt w A l) (hcap : l.length ≤ cap) (hm : l.length ≤ 140737488355328) :
    Calls Tryd.prog 3 #[.int .i64 x, .slice A l.length cap] w fun e w' => e = .returned (.bool true) ∧ Below w.heap.size w w' := by
  have HA := Lib.hid hA
  have HT := Lib.hid hT
  clear hT hA
  obtain ⟨m, hmm⟩ : ∃ m, min l.length 50 = m := ⟨_, rfl⟩
  have hm50 : m ≤ 50 := by omega
  have hml : m ≤ l.length := by omega
  have hmin : min (l.length : Int) 50 = (m : Int) := by omega
  have k0 : (m : Int) ≤ (cap : Int) := by omega
  have HLEN : Hid ((l.take m).length = m) := by unfold Hid; rw [List.length_take]; omega
  have HM := Lib.hid (And.intro hm50 hml)
  clear hmm hm50 hml
  go_enter Tryd.func3, Tryd.ntmps3
  go_wp2_with (first
    | (go_at_call 14; refine (drop_nil _).mono ?_; rintro e w2 ⟨rfl, hq⟩; obtain rfl := hq.symm)
    | (go_at_call 15; refine (start_nil _).mono ?_; rintro e w2 ⟨rfl, hq⟩; obtain rfl := hq.symm)
    | (go_at_call 16; refine (add_nil _ _).mono ?_; rintro e w2 ⟨rfl, hq⟩; obtain rfl := hq.symm)
    | (go_at_call 17; refine (end_nil _ _).mono ?_; rintro e w2 ⟨rfl, hq⟩; obtain rfl := hq.symm)
    | (go_at_call 18; refine (begun_nil _).mono ?_; rintro e w2 ⟨rfl, hq⟩; obtain rfl := hq.symm)
    | (go_at_call 19; refine (over_nil _).mono ?_; rintro e w2 ⟨rfl, hq⟩; obtain rfl := hq.symm)
    | (go_at_call 20; refine (lenP_nil _).mono ?_; rintro e w2 ⟨rfl, hq⟩; obtain rfl := hq.symm)
    | (go_at_call 21; refine (newP_nil _).mono ?_; rintro e w2 ⟨rfl, hq⟩; obtain rfl := hq.symm)
    | fail)
  refine (new_ex 50 (by decide) (by decide) _).mono ?_
  rintro e w3 ⟨a, c, rfl, hla, hlc, har, hb3⟩
  have HW3 := Lib.hid hb3
  have HL := Lib.hid (And.intro hla hlc)
  have HAR3 := Lib.hid har
  clear har hb3 hla hlc
  go_wp2_with fail
  refine (aliveP _ (HT.out.below HW3.out)).mono ?_
  rintro e w4 ⟨rfl, hb4⟩
  have HAR4 : Hid (Ar w4 a c 50 []) := Ar.but HAR3.out (But.of_below (S := []) hb4) (by simp) (by simp)
  have HW4 : Hid (Below w.heap.size w w4) := HW3.out.trans (hb4.mono HW3.out.size)
  clear hb4
  have HI : Hid (Calls Tryd.prog 24 #[.pointer (some ⟨a, 0, none⟩), .int .i64 0, .slice A m cap] w4 fun e w' => e = .returned (.int .i64 0) ∧ Ar w' a c 50 (l.take m) ∧ But [a, c] w4 w') := by
    have hb := BytesAt.take (HA.out.below HW4.out) m
    have := insert_ok 0 A (l.take m) cap w4 HAR4.out (by simp) (by rw [HLEN.out]; have := HM.out; simp; omega) (BytesAt.src hb) (fun ad had hne => by
      obtain ⟨g, off, rfl, hlt, _⟩ := BytesAt.take HA.out m hne
      cases had
      have := HL.out
      show g ≠ c
      omega)
    rw [HLEN.out] at this
    unfold Hid
    simpa using this
  go_wp2_with fail
  refine (HI.out).mono ?_
  rintro e w5 ⟨rfl, har5, hb5⟩
  have HW5 : Hid (Below w.heap.size w w5) := HW4.out.trans (hb5.below HW4.out.size (by have := HL.out; simp; omega))
  have HN := Lib.hid (newP w5 har5)
  clear har5 hb5
  go_wp2_with fail
  refine (HN.out).mono ?_
  rintro e w6 ⟨s, rfl, hls, hst, hb6⟩
  have HW6 : Hid (Below w.heap.size w w6) := HW5.out.trans (hb6.below HW5.out.size (by have := HL.out; simp; omega))
  have HLS : Hid (w.heap.size ≤ s) := Nat.le_trans HW5.out.size hls
  have HST6 := Lib.hid hst
  have H1 := zeroA w6 hst.ar
  rw [show allZ [] = true from by decide] at H1
  have H1 := Lib.hid H1
  clear hst hb6 hls
  go_wp2_with (first
    | (go_at_call 25; refine (H1.out).mono ?_; rintro e w7 ⟨rfl, hq⟩; obtain rfl := hq.symm)
    | (go_at_call 18; refine (begun_c _ HST6.out).mono ?_; rintro e w2 ⟨rfl, hq⟩; obtain rfl := hq.symm)
    | (go_at_call 17; refine (end_state _ _ HST6.out).mono ?_; rintro e w2 ⟨rfl, hq⟩; obtain rfl := hq.symm)
    | fail)
  refine (start_any (L := []) w6 ⟨HST6.out, by intro y hy; simp at hy⟩).mono ?_
  rintro e w7 ⟨rfl, hsg7, hb7⟩
  have HSG7 := Lib.hid hsg7
  have HW7 : Hid (Below w.heap.size w w7) := HW6.out.trans (hb7.below HW6.out.size (by have := HL.out; have := HLS.out; simp; omega))
  clear hsg7 hb7
  go_wp2_with fail
  refine (add_any x w7 HSG7.out).mono ?_
  rintro e w8 ⟨rfl, hsg8, hb8⟩
  have HSG8 := Lib.hid hsg8
  have HW8 : Hid (Below w.heap.size w w8) := HW7.out.trans (hb8.below HW7.out.size (by have := HL.out; have := HLS.out; simp; omega))
  clear hsg8 hb8
  go_wp2_with fail
  refine (end_none w8 HSG8.out.st).mono ?_
  rintro e w9 ⟨rfl, hst9, hb9⟩
  have HST9 := Lib.hid hst9
  have HW9 : Hid (Below w.heap.size w w9) := HW8.out.trans (hb9.below HW8.out.size (by have := HL.out; have := HLS.out; simp; omega))
  have H2 := zeroA w9 hst9.ar
  rw [show allZ [] = true from by decide] at H2
  have H2 := Lib.hid H2
  clear hst9 hb9
  go_wp2_with (first
    | (go_at_call 25; refine (H2.out).mono ?_; rintro e w7 ⟨rfl, hq⟩; obtain rfl := hq.symm)
    | (go_at_call 18; refine (begun_c _ HST9.out).mono ?_; rintro e w2 ⟨rfl, hq⟩; obtain rfl := hq.symm)
    | (go_at_call 20; refine (lenP _ HST9.out).mono ?_; rintro e w2 ⟨rfl, hq⟩; obtain rfl := hq.symm))
  go_ret
  exact ⟨rfl, HW9.out⟩

end Go.Proofs.YtbkpnffgihjikaaDoor.PasteNone

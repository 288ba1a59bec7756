/- KeydecNone, the walk: of no decoder, and no arena, nothing is told; one that is too small is refused; a new decoder's arena is wiped. -/
import Derived.Test.YtcakeolnokninaaDoorGA
import Derived.Test.YtcakeolnokninaaDoorGK3
import Derived.Laws.Bits64
set_option linter.unusedVariables false
set_option linter.unusedSimpArgs false
namespace Go.Proofs.YtcakeolnokninaaDoor.KeydecNone
open Go.RowKit Go.Lib Go.Shelf ChangeShapes Mem Utf UtfP Edit Law

set_option maxRecDepth 200000 in
set_option maxHeartbeats 2000000 in
theorem walk (x : Int) (l : List UInt8) (A : Option Addr) (cap : Nat) (w : World) (hT : Tabs w) (_ : (Lit.int .i64 x).wf = true) (hA : BytesAt w A l) (hcap : l.length ≤ cap) (hm : l.length ≤ 140737488355328) :
    Calls Tryd.prog 11 #[.int .i64 x, .slice A l.length cap] w fun e w' => e = .returned (.bool true) ∧ Below w.heap.size w w' := by
  have HA := Lib.hid hA
  have HT := Lib.hid hT
  clear hT hA
  obtain ⟨u, hu⟩ : ∃ u, IntKind.u64.wrap x = u := ⟨_, rfl⟩
  have hu0 : 0 ≤ u := by rw [← hu]; rw [IntKind.wrap_u64]; omega
  obtain ⟨k, hk⟩ : ∃ k : Nat, u.tmod 100 = (k : Int) := ⟨(u.tmod 100).toNat, by
    rw [Int.tmod_eq_emod_of_nonneg hu0]; omega⟩
  have hk200 : k < 100 := by
    rw [Int.tmod_eq_emod_of_nonneg hu0] at hk
    omega
  have e2 : IntKind.i64.wrap (k : Int) = (k : Int) := by rw [IntKind.wrap_i64]; omega
  obtain ⟨m, hmm⟩ : ∃ m, min l.length (k + 1) = m := ⟨_, rfl⟩
  have hm50 : m ≤ k + 1 := by omega
  have hml : m ≤ l.length := by omega
  have hmin : min (l.length : Int) (1 + (k : Int)) = (m : Int) := by omega
  have k0 : (m : Int) ≤ (cap : Int) := by omega
  have HLEN : Hid ((l.take m).length = m) := by unfold Hid; rw [List.length_take]; omega
  have HM := Lib.hid (And.intro hm50 hml)
  have HNEW : Hid (∀ W, Calls Tryd.prog 38 #[.int .i64 (1 + (k : Int))] W fun e w' => ∃ a c, e = .returned (.tuple #[.pointer (some ⟨a, 0, none⟩), .int .i64 0]) ∧ W.heap.size ≤ a ∧ W.heap.size ≤ c ∧ Ar w' a c (k + 1) [] ∧ Below W.heap.size W w') := fun W => by
    have := new_ex (k + 1) (by omega) (by omega) W
    rw [show ((k + 1 : Nat) : Int) = 1 + (k : Int) by omega] at this
    exact this
  clear hmm hm50 hml
  go_enter Tryd.func11, Tryd.ntmps11
  go_wp2_with (first
    | (go_at_call 21; refine (feed_nil _ _).mono ?_; rintro e w2 ⟨rfl, hq⟩; obtain rfl := hq.symm)
    | (go_at_call 28; refine (finish_nil _).mono ?_; rintro e w2 ⟨rfl, hq⟩; obtain rfl := hq.symm)
    | (go_at_call 26; refine (reset_nil _).mono ?_; rintro e w2 ⟨rfl, hq⟩; obtain rfl := hq.symm)
    | (go_at_call 25; refine (heldD_nil _).mono ?_; rintro e w2 ⟨rfl, hq⟩; obtain rfl := hq.symm)
    | (go_at_call 24; refine (pastes_nil _).mono ?_; rintro e w2 ⟨rfl, hq⟩; obtain rfl := hq.symm)
    | (go_at_call 37; refine (newD_nil _).mono ?_; rintro e w2 ⟨rfl, hq⟩; obtain rfl := hq.symm)
    | fail)
  refine (HNEW.out _).mono ?_
  rintro e w3 ⟨a, c, rfl, hla, hlc, har, hb3⟩
  have HW3 := Lib.hid hb3
  have HL := Lib.hid (And.intro hla hlc)
  have HAR3 := Lib.hid har
  clear har hb3 hla hlc
  go_wp2_with fail
  refine (alive_c _ (HT.out.below HW3.out)).mono ?_
  rintro e w4 ⟨rfl, hb4⟩
  have HAR4 : Hid (Ar w4 a c (k + 1) []) := Ar.but HAR3.out (But.of_below (S := []) hb4) (by simp) (by simp)
  have HW4 : Hid (Below w.heap.size w w4) := HW3.out.trans (hb4.mono HW3.out.size)
  clear hb4
  have HI : Hid (Calls Tryd.prog 39 #[.pointer (some ⟨a, 0, none⟩), .int .i64 0, .slice A m cap] w4 fun e w' => e = .returned (.int .i64 0) ∧ Ar w' a c (k + 1) (l.take m) ∧ But [a, c] w4 w') := by
    have hb := BytesAt.take (HA.out.below HW4.out) m
    have := insert_in 0 A (l.take m) cap w4 HAR4.out (by omega) (by simp) (by rw [HLEN.out]; have := HM.out; simp; omega) (src_of hb) (fun ad had hne => by
      obtain ⟨g, off, rfl, hlt, _⟩ := BytesAt.take HA.out m hne
      cases had
      have := HL.out
      show g ≠ c
      omega)
    rw [HLEN.out] at this
    unfold Hid
    simpa using this
  go_wp2_with fail
  refine (HI.out).mono ?_
  rintro e w5 ⟨rfl, har5, hb5⟩
  have HW5 : Hid (Below w.heap.size w w5) := HW4.out.trans (hb5.below HW4.out.size (by have := HL.out; simp; omega))
  by_cases hk36 : k + 1 < 36
  · have HN := Lib.hid (newD_small w5 har5 hk36)
    have kk : decide (1 + (k : Int) < 36) = true := by simp; omega
    clear har5 hb5 hk36
    go_wp2_with fail
    refine (HN.out).mono ?_
    rintro e w6 ⟨rfl, hq⟩
    obtain rfl := hq.symm
    go_wp2
    go_ret
    exact ⟨rfl, HW5.out⟩
  · have HN := Lib.hid (newD w5 har5 (by omega))
    have kk : decide (1 + (k : Int) < 36) = false := by simp; omega
    clear har5 hb5 hk36
    go_wp2_with fail
    refine (HN.out).mono ?_
    rintro e w6 ⟨d, rfl, hls, hdc, hb6⟩
    have HW6 : Hid (Below w.heap.size w w6) := HW5.out.trans (hb6.below HW5.out.size (by have := HL.out; simp; omega))
    have H1 := zeroA w6 hdc.ar
    rw [show allZ [] = true from by decide] at H1
    have H1 := Lib.hid H1
    have H2 := Lib.hid (heldD w6 hdc)
    clear hdc hb6 hls
    go_wp2_with (first
      | (go_at_call 27; refine (H1.out).mono ?_; rintro e w7 ⟨rfl, hq⟩; obtain rfl := hq.symm)
      | (go_at_call 25; refine (H2.out).mono ?_; rintro e w2 ⟨rfl, hq⟩; obtain rfl := hq.symm)
      | fail)
    go_ret
    exact ⟨rfl, HW6.out⟩

end Go.Proofs.YtcakeolnokninaaDoor.KeydecNone

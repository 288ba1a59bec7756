/- Texts joined: RefPrint; RefPut. -/
import Derived.Test.YtbflcikfaoojmaaDoorGC
/- (the document's tests) The reference's Fine, Printable, Put, walked. -/
set_option linter.unusedVariables false
namespace Go.Proofs.YtbflcikfaoojmaaDoor.Utf
open Go.RowKit Go.Lib Go.Shelf UtfP

set_option maxHeartbeats 1000000 in
theorem refFine (c : Int) (w : World) : Calls Tryd.prog 28 #[.int .i64 c] w fun e w' => e = .returned (.bool (fineC c)) ∧ w = w' := by
  have hi := @fineC_iff c
  generalize fineC c = v at *
  by_cases h1 : 0 ≤ c
  · by_cases h2 : c ≤ 1114111
    · by_cases h3 : 55296 ≤ c
      · by_cases h4 : c ≤ 57343
        · obtain rfl : v = false := hi.2.2 (by omega)
          clear hi
          go_enter Tryd.func28, Tryd.ntmps28
          go_wp2
          go_ret
          exact ⟨rfl, rfl⟩
        · obtain rfl : v = true := hi.1.2 (by omega)
          have k4 : decide (c ≤ 57343) = false := by simp; omega
          clear hi h4
          go_enter Tryd.func28, Tryd.ntmps28
          go_wp2
          go_ret
          exact ⟨rfl, rfl⟩
      · obtain rfl : v = true := hi.1.2 (by omega)
        have k3 : decide (55296 ≤ c) = false := by simp; omega
        clear hi h3
        go_enter Tryd.func28, Tryd.ntmps28
        go_wp2
        go_ret
        exact ⟨rfl, rfl⟩
    · obtain rfl : v = false := hi.2.2 (by omega)
      have k2 : decide (c ≤ 1114111) = false := by simp; omega
      clear hi h2
      go_enter Tryd.func28, Tryd.ntmps28
      go_wp2
      go_ret
      exact ⟨rfl, rfl⟩
  · obtain rfl : v = false := hi.2.2 (by omega)
    have k1 : decide (0 ≤ c) = false := by simp; omega
    clear hi h1
    go_enter Tryd.func28, Tryd.ntmps28
    go_wp2
    go_ret
    exact ⟨rfl, rfl⟩

set_option maxHeartbeats 1000000 in
theorem refPrintable (c : Int) (w : World) : Calls Tryd.prog 10 #[.int .i64 c] w fun e w' => e = .returned (.bool (printC c)) ∧ w = w' := by
  have H1 := Lib.hid (refFine c)
  have hp : printC c = (fineC c && decide (32 ≤ c ∧ ¬ (127 ≤ c ∧ c ≤ 159))) := rfl
  generalize fineC c = f at *
  generalize printC c = v at *
  cases f with
  | false =>
    obtain rfl : v = false := by simpa using hp
    clear hp
    go_enter Tryd.func10, Tryd.ntmps10
    go_wp2_with (go_at_call 28; refine (H1.out _).mono ?_; rintro e w1 ⟨rfl, rfl⟩)
    go_ret
    exact ⟨rfl, rfl⟩
  | true =>
    by_cases h1 : 32 ≤ c
    · by_cases h2 : 127 ≤ c
      · by_cases h3 : c ≤ 159
        · obtain rfl : v = false := by rw [hp]; simp; omega
          clear hp
          go_enter Tryd.func10, Tryd.ntmps10
          go_wp2_with (go_at_call 28; refine (H1.out _).mono ?_; rintro e w1 ⟨rfl, rfl⟩)
          go_ret
          exact ⟨rfl, rfl⟩
        · obtain rfl : v = true := by rw [hp]; simp; omega
          have k3 : decide (c ≤ 159) = false := by simp; omega
          clear hp h3
          go_enter Tryd.func10, Tryd.ntmps10
          go_wp2_with (go_at_call 28; refine (H1.out _).mono ?_; rintro e w1 ⟨rfl, rfl⟩)
          go_ret
          exact ⟨rfl, rfl⟩
      · obtain rfl : v = true := by rw [hp]; simp; omega
        have k2 : decide (127 ≤ c) = false := by simp; omega
        clear hp h2
        go_enter Tryd.func10, Tryd.ntmps10
        go_wp2_with (go_at_call 28; refine (H1.out _).mono ?_; rintro e w1 ⟨rfl, rfl⟩)
        go_ret
        exact ⟨rfl, rfl⟩
    · obtain rfl : v = false := by rw [hp]; simp; omega
      have k1 : decide (32 ≤ c) = false := by simp; omega
      clear hp h1
      go_enter Tryd.func10, Tryd.ntmps10
      go_wp2_with (go_at_call 28; refine (H1.out _).mono ?_; rintro e w1 ⟨rfl, rfl⟩)
      go_ret
      exact ⟨rfl, rfl⟩

end Go.Proofs.YtbflcikfaoojmaaDoor.Utf

/- The reference's Fine, Printable, Put, walked. -/
set_option linter.unusedVariables false
namespace Go.Proofs.YtbflcikfaoojmaaDoor.Utf
open Go.RowKit Go.Lib Go.Shelf UtfP

/-- a slice that the call has just built -/
def NewB (w : World) (l : List UInt8) (e : Ending) (w' : World) : Prop := ∃ v, e = .returned v ∧ OwnB w' w.heap.size v l ∧ Below w.heap.size w w'

theorem newB_of (w : World) (l : List UInt8) (cs : List Value) (n : Nat) (hn : l.length = n) (hm : n ≤ maxLen) (hcs : cs = cellsU l) : NewB w l (.returned (.slice (some ⟨w.heap.size, 0, none⟩) n n)) (w.alloc (.cells cs.toArray 5)) := by
  subst hn
  exact ⟨_, rfl, OwnB.new w _ _ l (by rw [hcs]) (Nat.le_refl _) hm, (Below.refl _ _).alloc (Nat.le_refl _) _⟩

theorem enc_of {c : Int} {zs : List Int} (h : encodeRuneZ c = zs) : cellsU (enc c) = zs.map (Value.int .u8 ·) ∧ (enc c).length = zs.length := by
  have e : cellsU (enc c) = zs.map (Value.int .u8 ·) := by rw [enc_cells]; unfold runeCells; rw [h]
  exact ⟨e, by rw [← cellsU_length, e, List.length_map]⟩

set_option maxHeartbeats 1000000 in
theorem refPut (c : Int) (w : World) (h : fineC c = true) : Calls Tryd.prog 26 #[.int .i64 c] w (NewB w (enc c)) := by
  have hc := fineC_iff.1.1 h
  have b1 : 0 ≤ c := hc.1
  have b2 : c ≤ 1114111 := hc.2.1
  by_cases h1 : c < 128
  · have E := enc_of (c := c) (zs := [c]) (by unfold encodeRuneZ; rw [if_pos (by omega)])
    have HE := Lib.hid E
    clear h hc E
    go_enter Tryd.func26, Tryd.ntmps26
    go_wp2
    go_ret
    exact newB_of w (enc c) [_] 1 HE.out.2 (by decide) HE.out.1.symm
  · have k1 : decide (c < 128) = false := by simp; omega
    by_cases h2 : c < 2048
    · have E := enc_of (c := c) (zs := [192 + c / 64, 128 + c % 64]) (by unfold encodeRuneZ; rw [if_neg (by omega), if_pos (by omega)])
      have HE := Lib.hid E
      clear h hc E h1
      go_enter Tryd.func26, Tryd.ntmps26
      go_wp2
      go_ret
      exact newB_of w (enc c) [_, _] 2 HE.out.2 (by decide) HE.out.1.symm
    · have k2 : decide (c < 2048) = false := by simp; omega
      by_cases h3 : c < 65536
      · have E := enc_of (c := c) (zs := [224 + c / 4096, 128 + c / 64 % 64, 128 + c % 64]) (by unfold encodeRuneZ; rw [if_neg (by omega), if_neg (by omega), if_pos (by omega)])
        have HE := Lib.hid E
        clear h hc E h1 h2
        go_enter Tryd.func26, Tryd.ntmps26
        go_wp2
        go_ret
        exact newB_of w (enc c) [_, _, _] 3 HE.out.2 (by decide) HE.out.1.symm
      · have k3 : decide (c < 65536) = false := by simp; omega
        have E := enc_of (c := c) (zs := [240 + c / 262144, 128 + c / 4096 % 64, 128 + c / 64 % 64, 128 + c % 64]) (by unfold encodeRuneZ; rw [if_neg (by omega), if_neg (by omega), if_neg (by omega), if_pos (by omega)])
        have HE := Lib.hid E
        clear h hc E h1 h2 h3
        go_enter Tryd.func26, Tryd.ntmps26
        go_wp2
        go_ret
        exact newB_of w (enc c) [_, _, _, _] 4 HE.out.2 (by decide) HE.out.1.symm

end Go.Proofs.YtbflcikfaoojmaaDoor.Utf

/- utf.Put, utf.Printable and the reference's Fine, Printable, Put, walked. -/
import Derived.Test.YtbflcikfaoojmaaDoorHAppR
import Derived.Shelf.Small.Utf8
set_option linter.unusedVariables false
namespace Go.Proofs.YtbflcikfaoojmaaDoor.Utf
open Go.RowKit Go.Lib Go.Shelf UtfP

def rhoV : Ren := ⟨fun | 119 => 41 | _ => 0, fun | 4 => 4 | 5 => 5 | 21 => 21 | 37 => 47 | 46 => 105 | 51 => 29 | _ => 0, fun _ => 0⟩
theorem laysV : Lays.n119 Tryd.prog rhoV where
  mixed := by kernel_rfl
  f119 := by kernel_rfl
  t4 := by kernel_rfl
  a4 := fun _ => by kernel_rfl
  z4 := fun _ => by kernel_rfl
  v4 := fun _ => by kernel_rfl
  t21 := by kernel_rfl
  a21 := fun _ => by kernel_rfl
  z21 := fun _ => by kernel_rfl
  v21 := fun _ => by kernel_rfl

theorem validRune (r : Int) (w : World) : Calls Tryd.prog 41 #[.int .i32 r] w fun e w' => e = .returned (.bool (Lib.validRune r)) ∧ w = w' :=
  (Any.utf8_ValidRune (P := Tryd.prog) (ρ := rhoV) laysV r w).mono fun _ _ ⟨he, hw⟩ => ⟨he, hw.symm⟩

/-- what Put hands back of a character that may be -/
def PutOk (w : World) (c : Int) (e : Ending) (w' : World) : Prop := ∃ v, e = .returned (.tuple #[v, .int .i64 0]) ∧ OwnB w' w.heap.size v (enc c) ∧ Below w.heap.size w w'

set_option maxHeartbeats 1000000 in
theorem put_ok (c : Int) (w : World) (h : fineC c = true) : Calls Tryd.prog 22 #[.int .i64 c] w (PutOk w c) := by
  have hc := fineC_iff.1.1 h
  have C1 := fun W => validRune c W
  rw [show Lib.validRune c = true by unfold Lib.validRune; simp; omega] at C1
  have C2 := appendRune w.heap.size (.slice none 0 0) [] c (by omega) (by omega) w (OwnB.nil _ _) (by simp) (Nat.le_refl _)
  have H1 := Lib.hid C1
  have H2 := Lib.hid C2
  have k1 : decide (c < 0) = false := by simp; omega
  have k2 : decide (1114111 < c) = false := by simp; omega
  have b1 : 0 ≤ c := hc.1
  have b2 : c ≤ 1114111 := hc.2.1
  clear C1 C2 h hc
  go_enter Tryd.func22, Tryd.ntmps22
  go_wp2_with (first | (go_at_call 41; refine (H1.out _).mono ?_; rintro e w1 ⟨rfl, rfl⟩) | (go_at_call 42; refine (H2.out).mono ?_; rintro e w2 ⟨v, rfl, hown, hg⟩))
  go_ret2
  exact ⟨v, rfl, by simpa using hown, (Below.refl _ _).grown hg (Nat.le_refl _) (fun k hk => by cases hk)⟩

set_option maxHeartbeats 1000000 in
theorem put_bad (c : Int) (w : World) (h : fineC c = false) : Calls Tryd.prog 22 #[.int .i64 c] w fun e w' => e = .returned (.tuple #[.slice none 0 0, .int .i64 3]) ∧ w = w' := by
  have hc := fineC_iff.2.1 h
  by_cases h1 : c < 0
  · clear h hc
    go_enter Tryd.func22, Tryd.ntmps22
    go_wp2
    go_ret2
    exact ⟨rfl, rfl⟩
  · have k1 : decide (c < 0) = false := by simp; omega
    by_cases h2 : 1114111 < c
    · clear h hc h1
      go_enter Tryd.func22, Tryd.ntmps22
      go_wp2
      go_ret2
      exact ⟨rfl, rfl⟩
    · have k2 : decide (1114111 < c) = false := by simp; omega
      have C1 := fun W => validRune c W
      rw [show Lib.validRune c = false by unfold Lib.validRune; simp; omega] at C1
      have H1 := Lib.hid C1
      have b1 : 0 ≤ c := by omega
      have b2 : c ≤ 1114111 := by omega
      clear C1 h hc h1 h2
      go_enter Tryd.func22, Tryd.ntmps22
      go_wp2_with (go_at_call 41; refine (H1.out _).mono ?_; rintro e w1 ⟨rfl, rfl⟩)
      go_ret2
      exact ⟨rfl, rfl⟩

set_option maxHeartbeats 1000000 in
theorem printable (c : Int) (w : World) : Calls Tryd.prog 21 #[.int .i64 c] w fun e w' => e = .returned (.bool (printC c)) ∧ Below w.heap.size w w' := by
  cases hf : fineC c with
  | false =>
    have H1 := Lib.hid (put_bad c w hf)
    rw [show printC c = false by unfold printC; rw [hf]; rfl]
    clear hf
    go_enter Tryd.func21, Tryd.ntmps21
    go_wp2_with (go_at_call 22; refine (H1.out).mono ?_; rintro e w1 ⟨rfl, rfl⟩)
    go_ret
    exact ⟨rfl, Below.refl _ _⟩
  | true =>
    have H1 := Lib.hid (put_ok c w hf)
    have hp : printC c = decide (32 ≤ c ∧ ¬ (127 ≤ c ∧ c ≤ 159)) := by unfold printC; rw [hf]; rfl
    clear hf
    by_cases h1 : 32 ≤ c
    · by_cases h2 : c < 127
      · rw [show printC c = true by rw [hp]; simp; omega]
        clear hp
        go_enter Tryd.func21, Tryd.ntmps21
        go_wp2_with (go_at_call 22; refine (H1.out).mono ?_; rintro e w1 ⟨v, rfl, _, hb⟩)
        go_ret
        exact ⟨rfl, hb⟩
      · have k2 : decide (c < 127) = false := by simp; omega
        by_cases h3 : 159 < c
        · rw [show printC c = true by rw [hp]; simp; omega]
          clear hp h2
          go_enter Tryd.func21, Tryd.ntmps21
          go_wp2_with (go_at_call 22; refine (H1.out).mono ?_; rintro e w1 ⟨v, rfl, _, hb⟩)
          go_ret
          exact ⟨rfl, hb⟩
        · have k3 : decide (159 < c) = false := by simp; omega
          rw [show printC c = false by rw [hp]; simp; omega]
          clear hp h2 h3
          go_enter Tryd.func21, Tryd.ntmps21
          go_wp2_with (go_at_call 22; refine (H1.out).mono ?_; rintro e w1 ⟨v, rfl, _, hb⟩)
          go_ret
          exact ⟨rfl, hb⟩
    · have k1 : decide (32 ≤ c) = false := by simp; omega
      rw [show printC c = false by rw [hp]; simp; omega]
      clear hp h1
      go_enter Tryd.func21, Tryd.ntmps21
      go_wp2_with (go_at_call 22; refine (H1.out).mono ?_; rintro e w1 ⟨v, rfl, _, hb⟩)
      go_ret
      exact ⟨rfl, hb⟩

end Go.Proofs.YtbflcikfaoojmaaDoor.Utf

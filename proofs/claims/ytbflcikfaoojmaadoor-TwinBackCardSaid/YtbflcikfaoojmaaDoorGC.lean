/- Texts joined: PutP; Tw1; AppR; Put. -/
import Derived.Test.YtbflcikfaoojmaaDoorGA
import Derived.Lib.RuneBytes
import Derived.Test.YtbflcikfaoojmaaDoorHKd9
import Derived.Test.YtbflcikfaoojmaaDoorGB
import Derived.Shelf.Utf8.AppendRunePlain
import Derived.Shelf.Small.Utf8
/- Characters as numbers: which may be, which may be shown, their bytes. Plain. -/
set_option linter.unusedVariables false
namespace Go.Proofs.YtbflcikfaoojmaaDoor.UtfP
open Go.Lib

def fineC (c : Int) : Bool := decide (0 ≤ c ∧ c ≤ 1114111 ∧ ¬ (55296 ≤ c ∧ c ≤ 57343))
def printC (c : Int) : Bool := fineC c && decide (32 ≤ c ∧ ¬ (127 ≤ c ∧ c ≤ 159))
theorem fineC_iff {c : Int} : (fineC c = true ↔ 0 ≤ c ∧ c ≤ 1114111 ∧ ¬ (55296 ≤ c ∧ c ≤ 57343)) ∧ (fineC c = false ↔ ¬ (0 ≤ c ∧ c ≤ 1114111 ∧ ¬ (55296 ≤ c ∧ c ≤ 57343))) := by
  unfold fineC; exact ⟨decide_eq_true_iff, decide_eq_false_iff_not⟩
theorem printC_iff {c : Int} : (printC c = true ↔ (0 ≤ c ∧ c ≤ 1114111 ∧ ¬ (55296 ≤ c ∧ c ≤ 57343)) ∧ 32 ≤ c ∧ ¬ (127 ≤ c ∧ c ≤ 159)) := by
  unfold printC fineC; rw [Bool.and_eq_true, decide_eq_true_iff, decide_eq_true_iff]
theorem printC_fine {c : Int} (h : printC c = true) : fineC c = true := by
  unfold printC at h; rw [Bool.and_eq_true] at h; exact h.1
/-- a character's bytes -/
def enc (c : Int) : List UInt8 := encodeRune c
theorem enc_length (c : Int) : 1 ≤ (enc c).length ∧ (enc c).length ≤ 4 := by
  have := runeCells_le c
  rw [runeCells_length] at this
  exact this

end Go.Proofs.YtbflcikfaoojmaaDoor.UtfP

/- The secret characters of bytes: plain. -/
set_option linter.unusedVariables false
set_option linter.unusedSimpArgs false
namespace Go.Proofs.YtbflcikfaoojmaaDoor.Edit
open Go.RowKit Go.Lib Go.Shelf ChangeShapes Mem Utf UtfP

/-- is it a beginning of a sequence? -/
def begE (l : List UInt8) : Bool := decide ((seqN l).2.2 = 7)

theorem tw_seqF_pos (l : List UInt8) : ∀ (n i : Nat) (oth : Bool), 2 ≤ i → (seqF l n i oth).2.2 = 0 → 1 ≤ (seqF l n i oth).2.1 := by
  intro n
  induction n with
  | zero => intro i oth _ h; exact absurd (show (7 : Int) = 0 from h) (by decide)
  | succ n ih =>
    intro i oth hi h
    unfold seqF at h ⊢
    split
    · show 1 ≤ i + 1; omega
    · rename_i h1
      rw [if_neg h1] at h
      split
      · show 1 ≤ i; omega
      · rename_i h2
        rw [if_neg h2] at h
        split
        · rename_i h3
          rw [if_pos h3] at h
          exact ih _ _ (by omega) h
        · rename_i h3
          rw [if_neg h3] at h
          split
          · rename_i h4
            rw [if_pos h4] at h
            exact ih _ _ (by omega) h
          · show 1 ≤ i; omega
theorem tw_seqF_le (l : List UInt8) : ∀ (n i : Nat) (oth : Bool), i + n = l.length → (seqF l n i oth).2.1 ≤ l.length := by
  intro n
  induction n with
  | zero => intro i oth _; exact Nat.le_refl _
  | succ n ih =>
    intro i oth hi
    unfold seqF
    split
    · show i + 1 ≤ _; omega
    · split
      · show i ≤ _; omega
      · split
        · exact ih _ _ (by omega)
        · split
          · exact ih _ _ (by omega)
          · show i ≤ _; omega
theorem tw_seqN_pos {l : List UInt8} (h0 : l ≠ []) (h27 : bt l 0 = 27) (h : (seqN l).2.2 = 0) : 1 ≤ (seqN l).2.1 := by
  unfold seqN at h ⊢
  rw [if_neg h0, if_neg (by simpa using h27)] at h ⊢
  split
  · exact Nat.le_refl _
  · rename_i h1
    rw [if_neg h1] at h
    exact tw_seqF_pos l _ _ _ (Nat.le_refl _) h
theorem tw_seqN_le (l : List UInt8) : (seqN l).2.1 ≤ l.length := by
  unfold seqN
  split
  · exact Nat.zero_le _
  · rename_i h0
    have := List.length_pos_iff.2 h0
    split
    · exact Nat.zero_le _
    · split
      · show 1 ≤ l.length; omega
      · by_cases h2 : 2 ≤ l.length
        · exact tw_seqF_le l _ _ _ (by omega)
        · rw [show l.length - 2 = 0 by omega]; exact Nat.le_refl _

/-- one character's part -/
def secC (i : Nat) (r : Nat × Nat × Nat) (br : Bool) : List (Nat × Int) := if r.2.2 = 0 ∧ printC (r.1 : Int) = true ∧ (1 < r.2.1 ∨ br = false) then [(i, (r.1 : Int))] else []
/-- where secret characters stand from a place on, and which they are -/
def secF (b : List UInt8) : Nat → Nat → Bool → List (Nat × Int)
  | 0, _, _ => []
  | k + 1, i, br =>
    if b.length ≤ i then [] else
    if bt (b.drop i) 0 = 27 then
      if (seqN (b.drop i)).2.2 ≠ 0 then [] else secF b k (i + (seqN (b.drop i)).2.1) (begE ((b.drop i).take (seqN (b.drop i)).2.1))
    else secC i (next (b.drop i)) br ++ secF b k (i + (next (b.drop i)).2.1) false
def secE (b : List UInt8) : List (Nat × Int) := secF b b.length 0 false

theorem secF_end {b : List UInt8} {k i : Nat} {br : Bool} (h : b.length ≤ i) : secF b k i br = [] := by
  cases k with
  | zero => rfl
  | succ k => unfold secF; rw [if_pos h]
theorem secC_mem {i : Nat} {r : Nat × Nat × Nat} {br : Bool} {x : Nat × Int} (h : x ∈ secC i r br) : x.1 = i ∧ printC x.2 = true := by
  unfold secC at h
  split at h
  · rename_i hh
    simp at h
    subst h
    exact ⟨rfl, hh.2.1⟩
  · simp at h
theorem secF_mem {b : List UInt8} : ∀ {k i : Nat} {br : Bool} {x : Nat × Int}, x ∈ secF b k i br → x.1 < b.length ∧ printC x.2 = true := by
  intro k
  induction k with
  | zero => intro i br x h; simp [secF] at h
  | succ k ih =>
    intro i br x h
    unfold secF at h
    split at h
    · simp at h
    · rename_i hi
      split at h
      · split at h
        · simp at h
        · exact ih h
      · rcases List.mem_append.1 h with h | h
        · obtain ⟨h1, h2⟩ := secC_mem h
          exact ⟨by omega, h2⟩
        · exact ih h
theorem secE_mem {b : List UInt8} {x : Nat × Int} (h : x ∈ secE b) : x.1 < b.length ∧ printC x.2 = true := secF_mem h
theorem secC_len (i : Nat) (r : Nat × Nat × Nat) (br : Bool) : (secC i r br).length ≤ 1 := by unfold secC; split <;> simp
theorem secF_len {b : List UInt8} : ∀ (k i : Nat) (br : Bool), (secF b k i br).length ≤ k := by
  intro k
  induction k with
  | zero => intro i br; simp [secF]
  | succ k ih =>
    intro i br
    unfold secF
    split
    · simp
    · split
      · split
        · simp
        · have := ih (i + (seqN (b.drop i)).2.1) (begE ((b.drop i).take (seqN (b.drop i)).2.1)); omega
      · rw [List.length_append]
        have := ih (i + (next (b.drop i)).2.1) false
        have := secC_len i (next (b.drop i)) br
        omega
theorem secE_len (b : List UInt8) : (secE b).length ≤ b.length := secF_len _ _ _

end Go.Proofs.YtbflcikfaoojmaaDoor.Edit

/- utf8.AppendRune, by the shelf's contract. -/
set_option linter.unusedVariables false
namespace Go.Proofs.YtbflcikfaoojmaaDoor.Utf
open Go.RowKit Go.Lib Go.Shelf UtfP

def rhoA : Ren := ⟨fun | 242 => 42 | 278 => 55 | _ => 0,
  fun | 4 => 4 | 5 => 5 | 21 => 21 | 37 => 47 | 46 => 105 | 51 => 29 | _ => 0, fun _ => 0⟩
theorem laysA : Lays.n242 Tryd.prog rhoA where
  mixed := by kernel_rfl
  f242 := by kernel_rfl
  f278 := by kernel_rfl
  t4 := by kernel_rfl
  a4 := fun _ => by kernel_rfl
  z4 := fun _ => by kernel_rfl
  v4 := fun _ => by kernel_rfl
  t5 := by kernel_rfl
  a5 := fun _ => by kernel_rfl
  z5 := fun _ => by kernel_rfl
  v5 := fun _ => by kernel_rfl
  t21 := by kernel_rfl
  a21 := fun _ => by kernel_rfl
  z21 := fun _ => by kernel_rfl
  v21 := fun _ => by kernel_rfl
  t37 := by kernel_rfl
  a37 := fun _ => by kernel_rfl
  z37 := fun _ => by kernel_rfl
  v37 := fun _ => by kernel_rfl
  t46 := by kernel_rfl
  a46 := fun _ => by kernel_rfl
  z46 := fun _ => by kernel_rfl
  v46 := fun _ => by kernel_rfl
  t51 := by kernel_rfl
  a51 := fun _ => by kernel_rfl
  z51 := fun _ => by kernel_rfl
  v51 := fun _ => by kernel_rfl
theorem enc_cells (c : Int) : cellsU (enc c) = Lib.runeCells c := byteCells_encodeRune c

theorem appendRune (B : Nat) (v : Value) (l : List UInt8) (r : Int) (h0 : -2147483648 ≤ r) (h1 : r ≤ 2147483647) (w : World) (hown : OwnB w B v l) (hlen : l.length + 4 ≤ 140737488355328) (hB : B ≤ w.heap.size) :
    Calls Tryd.prog 42 #[v, .int .i32 r] w fun e w' => ∃ v', e = .returned v' ∧ OwnB w' B v' (l ++ enc r) ∧ w.grownBy w' v.ownBlock := by
  refine (Any.utf8_AppendRune_plain (P := Tryd.prog) (ρ := rhoA) laysA infoU8 B v l.length (cellsU l) r h0 h1 w hown hlen hB).mono ?_
  rintro e w' ⟨v', he, hown', o, hg⟩
  refine ⟨v', he, ?_, ⟨hg.os, hg.tape, hg.output, ?_, fun k hk hne => ?_⟩⟩
  · unfold OwnB
    rw [List.length_append, cellsU_append, enc_cells]
    rw [runeCells_length] at hown'
    exact hown'
  · have := hg.size; simp at this; omega
  · rw [hg.block k (by simp; omega) hne]
    exact Below.heap_alloc w o k hk

theorem OwnB.base {w : World} {B B' : Nat} {v : Value} {l : List UInt8} (h : OwnB w B v l) (hB : B' ≤ B) : OwnB w B' v l := by
  obtain ⟨h1, h2 | ⟨g, cap, cur, h3, h4, h5⟩⟩ := h
  · exact ⟨h1, Or.inl h2⟩
  · exact ⟨h1, Or.inr ⟨g, cap, cur, h3, Nat.le_trans hB h4, h5⟩⟩

end Go.Proofs.YtbflcikfaoojmaaDoor.Utf

/- utf.Put, utf.Printable and the reference's Fine, Printable, Put, walked. -/
set_option linter.unusedVariables false
namespace Go.Proofs.YtbflcikfaoojmaaDoor.Utf
open Go.RowKit Go.Lib Go.Shelf UtfP

def rhoV : Ren := ⟨fun | 119 => 41 | _ => 0, fun | 4 => 4 | 5 => 5 | 21 => 21 | 37 => 47 | 46 => 105 | 51 => 29 | _ => 0, fun _ => 0⟩
theorem laysV : Lays.n119 Tryd.prog rhoV where
  mixed := by kernel_rfl
  f119 := by kernel_rfl
  t4 := by kernel_rfl
  a4 := fun _ => by kernel_rfl
  z4 := fun _ => by kernel_rfl
  v4 := fun _ => by kernel_rfl
  t21 := by kernel_rfl
  a21 := fun _ => by kernel_rfl
  z21 := fun _ => by kernel_rfl
  v21 := fun _ => by kernel_rfl

theorem validRune (r : Int) (w : World) : Calls Tryd.prog 41 #[.int .i32 r] w fun e w' => e = .returned (.bool (Lib.validRune r)) ∧ w = w' :=
  (Any.utf8_ValidRune (P := Tryd.prog) (ρ := rhoV) laysV r w).mono fun _ _ ⟨he, hw⟩ => ⟨he, hw.symm⟩

/-- what Put hands back of a character that may be -/
def PutOk (w : World) (c : Int) (e : Ending) (w' : World) : Prop := ∃ v, e = .returned (.tuple #[v, .int .i64 0]) ∧ OwnB w' w.heap.size v (enc c) ∧ Below w.heap.size w w'

set_option maxHeartbeats 1000000 in
theorem put_ok (c : Int) (w : World) (h : fineC c = true) : Calls Tryd.prog 22 #[.int .i64 c] w (PutOk w c) := by
  have hc := fineC_iff.1.1 h
  have C1 := fun W => validRune c W
  rw [show Lib.validRune c = true by unfold Lib.validRune; simp; omega] at C1
  have C2 := appendRune w.heap.size (.slice none 0 0) [] c (by omega) (by omega) w (OwnB.nil _ _) (by simp) (Nat.le_refl _)
  have H1 := Lib.hid C1
  have H2 := Lib.hid C2
  have k1 : decide (c < 0) = false := by simp; omega
  have k2 : decide (1114111 < c) = false := by simp; omega
  have b1 : 0 ≤ c := hc.1
  have b2 : c ≤ 1114111 := hc.2.1
  clear C1 C2 h hc
  go_enter Tryd.func22, Tryd.ntmps22
  go_wp2_with (first | (go_at_call 41; refine (H1.out _).mono ?_; rintro e w1 ⟨rfl, rfl⟩) | (go_at_call 42; refine (H2.out).mono ?_; rintro e w2 ⟨v, rfl, hown, hg⟩))
  go_ret2
  exact ⟨v, rfl, by simpa using hown, (Below.refl _ _).grown hg (Nat.le_refl _) (fun k hk => by cases hk)⟩

set_option maxHeartbeats 1000000 in
theorem put_bad (c : Int) (w : World) (h : fineC c = false) : Calls Tryd.prog 22 #[.int .i64 c] w fun e w' => e = .returned (.tuple #[.slice none 0 0, .int .i64 3]) ∧ w = w' := by
  have hc := fineC_iff.2.1 h
  by_cases h1 : c < 0
  · clear h hc
    go_enter Tryd.func22, Tryd.ntmps22
    go_wp2
    go_ret2
    exact ⟨rfl, rfl⟩
  · have k1 : decide (c < 0) = false := by simp; omega
    by_cases h2 : 1114111 < c
    · clear h hc h1
      go_enter Tryd.func22, Tryd.ntmps22
      go_wp2
      go_ret2
      exact ⟨rfl, rfl⟩
    · have k2 : decide (1114111 < c) = false := by simp; omega
      have C1 := fun W => validRune c W
      rw [show Lib.validRune c = false by unfold Lib.validRune; simp; omega] at C1
      have H1 := Lib.hid C1
      have b1 : 0 ≤ c := by omega
      have b2 : c ≤ 1114111 := by omega
      clear C1 h hc h1 h2
      go_enter Tryd.func22, Tryd.ntmps22
      go_wp2_with (go_at_call 41; refine (H1.out _).mono ?_; rintro e w1 ⟨rfl, rfl⟩)
      go_ret2
      exact ⟨rfl, rfl⟩

set_option maxHeartbeats 1000000 in
theorem printable (c : Int) (w : World) : Calls Tryd.prog 21 #[.int .i64 c] w fun e w' => e = .returned (.bool (printC c)) ∧ Below w.heap.size w w' := by
  cases hf : fineC c with
  | false =>
    have H1 := Lib.hid (put_bad c w hf)
    rw [show printC c = false by unfold printC; rw [hf]; rfl]
    clear hf
    go_enter Tryd.func21, Tryd.ntmps21
    go_wp2_with (go_at_call 22; refine (H1.out).mono ?_; rintro e w1 ⟨rfl, rfl⟩)
    go_ret
    exact ⟨rfl, Below.refl _ _⟩
  | true =>
    have H1 := Lib.hid (put_ok c w hf)
    have hp : printC c = decide (32 ≤ c ∧ ¬ (127 ≤ c ∧ c ≤ 159)) := by unfold printC; rw [hf]; rfl
    clear hf
    by_cases h1 : 32 ≤ c
    · by_cases h2 : c < 127
      · rw [show printC c = true by rw [hp]; simp; omega]
        clear hp
        go_enter Tryd.func21, Tryd.ntmps21
        go_wp2_with (go_at_call 22; refine (H1.out).mono ?_; rintro e w1 ⟨v, rfl, _, hb⟩)
        go_ret
        exact ⟨rfl, hb⟩
      · have k2 : decide (c < 127) = false := by simp; omega
        by_cases h3 : 159 < c
        · rw [show printC c = true by rw [hp]; simp; omega]
          clear hp h2
          go_enter Tryd.func21, Tryd.ntmps21
          go_wp2_with (go_at_call 22; refine (H1.out).mono ?_; rintro e w1 ⟨v, rfl, _, hb⟩)
          go_ret
          exact ⟨rfl, hb⟩
        · have k3 : decide (159 < c) = false := by simp; omega
          rw [show printC c = false by rw [hp]; simp; omega]
          clear hp h2 h3
          go_enter Tryd.func21, Tryd.ntmps21
          go_wp2_with (go_at_call 22; refine (H1.out).mono ?_; rintro e w1 ⟨v, rfl, _, hb⟩)
          go_ret
          exact ⟨rfl, hb⟩
    · have k1 : decide (32 ≤ c) = false := by simp; omega
      rw [show printC c = false by rw [hp]; simp; omega]
      clear hp h1
      go_enter Tryd.func21, Tryd.ntmps21
      go_wp2_with (go_at_call 22; refine (H1.out).mono ?_; rintro e w1 ⟨v, rfl, _, hb⟩)
      go_ret
      exact ⟨rfl, hb⟩

end Go.Proofs.YtbflcikfaoojmaaDoor.Utf

/- The plain side of layer 1: characters in bytes, as functions on lists of bytes. No program in sight. -/
import Derived.Lib.DecodeNEq
set_option linter.unusedVariables false
namespace Go.Proofs.YtbflcikfaoojmaaDoor.UtfP
open Go.Lib

/-- how many bytes a first byte asks for -/
def size1 (c : Nat) : Nat := if c < 128 then 1 else if 194 ≤ c ∧ c ≤ 223 then 2 else if 224 ≤ c ∧ c ≤ 239 then 3 else if 240 ≤ c ∧ c ≤ 244 then 4 else 0
def lo2 (a : Nat) : Nat := if a = 224 then 160 else if a = 240 then 144 else 128
def hi2 (a : Nat) : Nat := if a = 237 then 159 else if a = 244 then 143 else 191
/-- a second byte that may be -/
def sec (a c : Nat) : Bool := decide (lo2 a ≤ c ∧ c ≤ hi2 a)
def cont (c : Nat) : Bool := decide (128 ≤ c ∧ c ≤ 191)

/-- the character, how many bytes, the error; of n bytes that begin b0 b1 b2 b3 -/
def nextN (n b0 b1 b2 b3 : Nat) : Nat × Nat × Nat :=
  if n = 0 then (0, 0, 6)
  else if size1 b0 = 0 then (0, 1, 8)
  else if size1 b0 = 1 then (b0, 1, 0)
  else if n = 1 then (0, 1, 7)
  else if sec b0 b1 = false then (0, 1, 8)
  else if size1 b0 = 2 then (b0 % 32 * 64 + (b1 - 128), 2, 0)
  else if n = 2 then (0, 2, 7)
  else if cont b2 = false then (0, 2, 8)
  else if size1 b0 = 3 then (b0 % 16 * 4096 + (b1 - 128) * 64 + (b2 - 128), 3, 0)
  else if n = 3 then (0, 3, 7)
  else if cont b3 = false then (0, 3, 8)
  else (b0 % 8 * 262144 + (b1 - 128) * 4096 + (b2 - 128) * 64 + (b3 - 128), 4, 0)

/-- utf8.FullRune -/
def fullN (n b0 b1 b2 : Nat) : Bool :=
  if n = 0 then false
  else if firstT b0 % 8 ≤ n then true
  else if 1 < n ∧ (b1 < accLo (firstT b0 / 16) ∨ accHi (firstT b0 / 16) < b1) then true
  else if 2 < n ∧ (b2 < 128 ∨ 191 < b2) then true
  else false
/-- the program's 'beginning' -/
def begN (n b0 b1 b2 : Nat) : Bool := decide (0 < n ∧ n < 4) && !fullN n b0 b1 b2

/-- the program's loop: from k on, how far it goes -/
def runsN : Nat → Nat → Nat → Nat → Nat → Nat → Nat
  | 0, k, _, _, _, _ => k
  | d + 1, k, n, b0, b1, b2 => if k < n ∧ begN (k + 1) b0 b1 b2 = true then runsN d (k + 1) n b0 b1 b2 else k

/-- utf.Next, as the program's text goes -/
def goNext (n b0 b1 b2 b3 : Nat) : Nat × Nat × Nat :=
  if n = 0 then (0, 0, 6)
  else if (decodeN n b0 b1 b2 b3).1 ≠ 65533 ∨ 1 < (decodeN n b0 b1 b2 b3).2 then ((decodeN n b0 b1 b2 b3).1, (decodeN n b0 b1 b2 b3).2, 0)
  else if begN n b0 b1 b2 = true then (0, n, 7)
  else (0, runsN 3 1 n b0 b1 b2, 8)

theorem size_cases (b0 : Nat) : size1 b0 = 0 ∨ size1 b0 = 1 ∨ size1 b0 = 2 ∨ size1 b0 = 3 ∨ size1 b0 = 4 := by
  unfold size1; repeat' split
  all_goals simp
theorem size_class (b0 : Nat) : (size1 b0 = 1 ↔ b0 < 128) ∧ (size1 b0 = 2 ↔ 194 ≤ b0 ∧ b0 ≤ 223) ∧ (size1 b0 = 3 ↔ 224 ≤ b0 ∧ b0 ≤ 239) ∧ (size1 b0 = 4 ↔ 240 ≤ b0 ∧ b0 ≤ 244) := by
  unfold size1
  repeat' split
  all_goals omega
theorem tab_fin : ∀ b : Fin 256, (size1 b.val ≤ 1 → firstT b.val % 8 ≤ 1) ∧ (2 ≤ size1 b.val → firstT b.val % 8 = size1 b.val ∧ accLo (firstT b.val / 16) = lo2 b.val ∧ accHi (firstT b.val / 16) = hi2 b.val) := by decide +kernel
theorem tab_of {b0 : Nat} (h : b0 < 256) : (size1 b0 ≤ 1 → firstT b0 % 8 ≤ 1) ∧ (2 ≤ size1 b0 → firstT b0 % 8 = size1 b0 ∧ accLo (firstT b0 / 16) = lo2 b0 ∧ accHi (firstT b0 / 16) = hi2 b0) := tab_fin ⟨b0, h⟩
theorem lo_hi (b0 : Nat) : 128 ≤ lo2 b0 ∧ hi2 b0 ≤ 191 := by
  unfold lo2 hi2; repeat' split
  all_goals omega

theorem beg_small {n b0 b1 b2 : Nat} (hn : 0 < n) (h0 : b0 < 256) (hs : size1 b0 ≤ 1) : begN n b0 b1 b2 = false := by
  have t := (tab_of h0).1 hs
  unfold begN fullN
  rw [if_neg (by omega), if_pos (by omega)]; simp
theorem begN_one {b0 b1 b2 : Nat} (h0 : b0 < 256) : begN 1 b0 b1 b2 = decide (1 < size1 b0) := by
  by_cases hs : size1 b0 ≤ 1
  · rw [beg_small (by omega) h0 hs]; simp; omega
  · obtain ⟨t1, t2, t3⟩ := (tab_of h0).2 (by omega)
    unfold begN fullN
    rw [t1, if_neg (by omega), if_neg (by omega), if_neg (by omega), if_neg (by omega)]
    simp; omega
theorem begN_two {b0 b1 b2 : Nat} (h0 : b0 < 256) : begN 2 b0 b1 b2 = (decide (2 < size1 b0) && sec b0 b1) := by
  by_cases hs : size1 b0 ≤ 1
  · rw [beg_small (by omega) h0 hs]; simp; omega
  · obtain ⟨t1, t2, t3⟩ := (tab_of h0).2 (by omega)
    unfold begN fullN sec
    rw [t1, t2, t3]
    by_cases h2 : size1 b0 = 2
    · rw [if_neg (by omega), if_pos (by omega)]; simp; omega
    · rw [if_neg (by omega), if_neg (by omega)]
      by_cases h : lo2 b0 ≤ b1 ∧ b1 ≤ hi2 b0
      · rw [if_neg (by omega), if_neg (by omega)]; simp [h]; omega
      · rw [if_pos (by omega)]; simp; omega
theorem begN_three {b0 b1 b2 : Nat} (h0 : b0 < 256) : begN 3 b0 b1 b2 = (decide (3 < size1 b0) && sec b0 b1 && cont b2) := by
  by_cases hs : size1 b0 ≤ 1
  · rw [beg_small (by omega) h0 hs]; simp; omega
  · obtain ⟨t1, t2, t3⟩ := (tab_of h0).2 (by omega)
    unfold begN fullN sec cont
    rw [t1, t2, t3]
    by_cases h2 : size1 b0 ≤ 3
    · rw [if_neg (by omega), if_pos (by omega)]; simp; omega
    · rw [if_neg (by omega), if_neg (by omega)]
      by_cases h : lo2 b0 ≤ b1 ∧ b1 ≤ hi2 b0
      · rw [if_neg (by omega)]
        by_cases h' : 128 ≤ b2 ∧ b2 ≤ 191
        · rw [if_neg (by omega)]; simp [h, h']; omega
        · rw [if_pos (by omega)]; simp; omega
      · rw [if_pos (by omega)]; simp; omega
theorem begN_more {n b0 b1 b2 : Nat} (hn : 4 ≤ n) : begN n b0 b1 b2 = false := by
  unfold begN
  rw [decide_eq_false (by omega)]; rfl

def decOf (r : Nat × Nat × Nat) : Nat × Nat := if r.2.2 = 0 then (r.1, r.2.1) else (65533, 1)
/-- decodeN in the words of this text -/
theorem decode_of {n b0 b1 b2 b3 : Nat} {r : Nat × Nat × Nat} {q : Nat × Nat} (h : nextN n b0 b1 b2 b3 = r) (h' : decodeN n b0 b1 b2 b3 = q) (e : q = decOf r) :
    decodeN n b0 b1 b2 b3 = decOf (nextN n b0 b1 b2 b3) := by rw [h, h', e]
theorem sec_iff {a c : Nat} : (sec a c = true ↔ lo2 a ≤ c ∧ c ≤ hi2 a) ∧ (sec a c = false ↔ ¬ (lo2 a ≤ c ∧ c ≤ hi2 a)) := by
  unfold sec; exact ⟨decide_eq_true_iff, decide_eq_false_iff_not⟩
theorem cont_iff {c : Nat} : (cont c = true ↔ 128 ≤ c ∧ c ≤ 191) ∧ (cont c = false ↔ ¬ (128 ≤ c ∧ c ≤ 191)) := by
  unfold cont; exact ⟨decide_eq_true_iff, decide_eq_false_iff_not⟩
theorem lo_hi_at (b0 : Nat) : (b0 ≠ 224 → b0 ≠ 240 → lo2 b0 = 128) ∧ (b0 = 224 → lo2 b0 = 160) ∧ (b0 = 240 → lo2 b0 = 144) ∧ (b0 ≠ 237 → b0 ≠ 244 → hi2 b0 = 191) ∧ (b0 = 237 → hi2 b0 = 159) ∧ (b0 = 244 → hi2 b0 = 143) := by
  unfold lo2 hi2
  repeat' split
  all_goals omega

set_option maxHeartbeats 2000000 in
theorem decode_ok {n b0 b1 b2 b3 : Nat} (hn : 0 < n) (h0 : b0 < 256) (h1 : b1 < 256) (h2 : b2 < 256) (h3 : b3 < 256) :
    decodeN n b0 b1 b2 b3 = decOf (nextN n b0 b1 b2 b3) := by
  have hc := size_class b0
  have hl := lo_hi_at b0
  have s := @sec_iff b0 b1
  have c2 := @cont_iff b2
  have c3 := @cont_iff b3
  have hs := size_cases b0
  unfold nextN
  simp only [s.2, c2.2, c3.2]
  clear s c2 c3
  generalize size1 b0 = z at *
  generalize lo2 b0 = lo at *
  generalize hi2 b0 = hi at *
  unfold decOf decodeN
  rw [if_neg (show ¬ n = 0 by omega)]
  by_cases a0 : z = 0
  · rw [if_pos a0]; change _ = (65533, 1)
    repeat' split
    all_goals first | (exfalso; omega) | (apply Prod.ext <;> simp only <;> omega)
  · rw [if_neg a0]
    by_cases a1 : z = 1
    · rw [if_pos a1, if_pos (by omega)]; simp
    · rw [if_neg a1]
      by_cases n1 : n = 1
      · rw [if_pos n1]; change _ = (65533, 1)
        repeat' split
        all_goals first | rfl | (exfalso; omega)
      · rw [if_neg n1]
        by_cases a2 : lo ≤ b1 ∧ b1 ≤ hi
        · rw [if_neg (not_not_intro a2)]
          by_cases z2 : z = 2
          · rw [if_pos z2]; change _ = (b0 % 32 * 64 + (b1 - 128), 2)
            repeat' split
            all_goals first | (exfalso; omega) | (apply Prod.ext <;> simp only <;> omega)
          · rw [if_neg z2]
            by_cases n2 : n = 2
            · rw [if_pos n2]; change _ = (65533, 1)
              repeat' split
              all_goals first | rfl | (exfalso; omega)
            · rw [if_neg n2]
              by_cases k2 : 128 ≤ b2 ∧ b2 ≤ 191
              · rw [if_neg (not_not_intro k2)]
                by_cases z3 : z = 3
                · rw [if_pos z3]; change _ = (b0 % 16 * 4096 + (b1 - 128) * 64 + (b2 - 128), 3)
                  repeat' split
                  all_goals first | (exfalso; omega) | (apply Prod.ext <;> simp only <;> omega)
                · rw [if_neg z3]
                  by_cases n3 : n = 3
                  · rw [if_pos n3]; change _ = (65533, 1)
                    repeat' split
                    all_goals first | rfl | (exfalso; omega)
                  · rw [if_neg n3]
                    by_cases k3 : 128 ≤ b3 ∧ b3 ≤ 191
                    · rw [if_neg (not_not_intro k3)]; change _ = (b0 % 8 * 262144 + (b1 - 128) * 4096 + (b2 - 128) * 64 + (b3 - 128), 4)
                      repeat' split
                      all_goals first | (exfalso; omega) | (apply Prod.ext <;> simp only <;> omega)
                    · rw [if_pos k3]; change _ = (65533, 1)
                      repeat' split
                      all_goals first | rfl | (exfalso; omega)
              · rw [if_pos k2]; change _ = (65533, 1)
                repeat' split
                all_goals first | rfl | (exfalso; omega)
        · rw [if_pos a2]; change _ = (65533, 1)
          repeat' split
          all_goals first | rfl | (exfalso; omega)


end Go.Proofs.YtbflcikfaoojmaaDoor.UtfP

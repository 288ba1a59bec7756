/- Texts joined: UtfP; UtfQ; UtfT; UtfB. -/
import Derived.Lib.DecodeNEq
import Derived.Test.YtbflcikfaoojmaaDoorRows
import Derived.Shelf.Spec.DecodeRune
import Derived.Lib.LaidU8T
import Derived.WalkKit
import Derived.WalkSpells
import Derived.WalkLawsBesides
import Derived.Lib.Hide
import Derived.Deep.QuietTactic
import Derived.BigQuiet
/- The plain side of layer 1: characters in bytes, as functions on lists of bytes. No program in sight. -/
set_option linter.unusedVariables false
namespace Go.Proofs.YtbflcikfaoojmaaDoor.UtfP
open Go.Lib

/-- how many bytes a first byte asks for -/
def size1 (c : Nat) : Nat := if c < 128 then 1 else if 194 ≤ c ∧ c ≤ 223 then 2 else if 224 ≤ c ∧ c ≤ 239 then 3 else if 240 ≤ c ∧ c ≤ 244 then 4 else 0
def lo2 (a : Nat) : Nat := if a = 224 then 160 else if a = 240 then 144 else 128
def hi2 (a : Nat) : Nat := if a = 237 then 159 else if a = 244 then 143 else 191
/-- a second byte that may be -/
def sec (a c : Nat) : Bool := decide (lo2 a ≤ c ∧ c ≤ hi2 a)
def cont (c : Nat) : Bool := decide (128 ≤ c ∧ c ≤ 191)

/-- the character, how many bytes, the error; of n bytes that begin b0 b1 b2 b3 -/
def nextN (n b0 b1 b2 b3 : Nat) : Nat × Nat × Nat :=
  if n = 0 then (0, 0, 6)
  else if size1 b0 = 0 then (0, 1, 8)
  else if size1 b0 = 1 then (b0, 1, 0)
  else if n = 1 then (0, 1, 7)
  else if sec b0 b1 = false then (0, 1, 8)
  else if size1 b0 = 2 then (b0 % 32 * 64 + (b1 - 128), 2, 0)
  else if n = 2 then (0, 2, 7)
  else if cont b2 = false then (0, 2, 8)
  else if size1 b0 = 3 then (b0 % 16 * 4096 + (b1 - 128) * 64 + (b2 - 128), 3, 0)
  else if n = 3 then (0, 3, 7)
  else if cont b3 = false then (0, 3, 8)
  else (b0 % 8 * 262144 + (b1 - 128) * 4096 + (b2 - 128) * 64 + (b3 - 128), 4, 0)

/-- utf8.FullRune -/
def fullN (n b0 b1 b2 : Nat) : Bool :=
  if n = 0 then false
  else if firstT b0 % 8 ≤ n then true
  else if 1 < n ∧ (b1 < accLo (firstT b0 / 16) ∨ accHi (firstT b0 / 16) < b1) then true
  else if 2 < n ∧ (b2 < 128 ∨ 191 < b2) then true
  else false
/-- the program's 'beginning' -/
def begN (n b0 b1 b2 : Nat) : Bool := decide (0 < n ∧ n < 4) && !fullN n b0 b1 b2

/-- the program's loop: from k on, how far it goes -/
def runsN : Nat → Nat → Nat → Nat → Nat → Nat → Nat
  | 0, k, _, _, _, _ => k
  | d + 1, k, n, b0, b1, b2 => if k < n ∧ begN (k + 1) b0 b1 b2 = true then runsN d (k + 1) n b0 b1 b2 else k

/-- utf.Next, as the program's text goes -/
def goNext (n b0 b1 b2 b3 : Nat) : Nat × Nat × Nat :=
  if n = 0 then (0, 0, 6)
  else if (decodeN n b0 b1 b2 b3).1 ≠ 65533 ∨ 1 < (decodeN n b0 b1 b2 b3).2 then ((decodeN n b0 b1 b2 b3).1, (decodeN n b0 b1 b2 b3).2, 0)
  else if begN n b0 b1 b2 = true then (0, n, 7)
  else (0, runsN 3 1 n b0 b1 b2, 8)

theorem size_cases (b0 : Nat) : size1 b0 = 0 ∨ size1 b0 = 1 ∨ size1 b0 = 2 ∨ size1 b0 = 3 ∨ size1 b0 = 4 := by
  unfold size1; repeat' split
  all_goals simp
theorem size_class (b0 : Nat) : (size1 b0 = 1 ↔ b0 < 128) ∧ (size1 b0 = 2 ↔ 194 ≤ b0 ∧ b0 ≤ 223) ∧ (size1 b0 = 3 ↔ 224 ≤ b0 ∧ b0 ≤ 239) ∧ (size1 b0 = 4 ↔ 240 ≤ b0 ∧ b0 ≤ 244) := by
  unfold size1
  repeat' split
  all_goals omega
theorem tab_fin : ∀ b : Fin 256, (size1 b.val ≤ 1 → firstT b.val % 8 ≤ 1) ∧ (2 ≤ size1 b.val → firstT b.val % 8 = size1 b.val ∧ accLo (firstT b.val / 16) = lo2 b.val ∧ accHi (firstT b.val / 16) = hi2 b.val) := by decide +kernel
theorem tab_of {b0 : Nat} (h : b0 < 256) : (size1 b0 ≤ 1 → firstT b0 % 8 ≤ 1) ∧ (2 ≤ size1 b0 → firstT b0 % 8 = size1 b0 ∧ accLo (firstT b0 / 16) = lo2 b0 ∧ accHi (firstT b0 / 16) = hi2 b0) := tab_fin ⟨b0, h⟩
theorem lo_hi (b0 : Nat) : 128 ≤ lo2 b0 ∧ hi2 b0 ≤ 191 := by
  unfold lo2 hi2; repeat' split
  all_goals omega

theorem beg_small {n b0 b1 b2 : Nat} (hn : 0 < n) (h0 : b0 < 256) (hs : size1 b0 ≤ 1) : begN n b0 b1 b2 = false := by
  have t := (tab_of h0).1 hs
  unfold begN fullN
  rw [if_neg (by omega), if_pos (by omega)]; simp
theorem begN_one {b0 b1 b2 : Nat} (h0 : b0 < 256) : begN 1 b0 b1 b2 = decide (1 < size1 b0) := by
  by_cases hs : size1 b0 ≤ 1
  · rw [beg_small (by omega) h0 hs]; simp; omega
  · obtain ⟨t1, t2, t3⟩ := (tab_of h0).2 (by omega)
    unfold begN fullN
    rw [t1, if_neg (by omega), if_neg (by omega), if_neg (by omega), if_neg (by omega)]
    simp; omega
theorem begN_two {b0 b1 b2 : Nat} (h0 : b0 < 256) : begN 2 b0 b1 b2 = (decide (2 < size1 b0) && sec b0 b1) := by
  by_cases hs : size1 b0 ≤ 1
  · rw [beg_small (by omega) h0 hs]; simp; omega
  · obtain ⟨t1, t2, t3⟩ := (tab_of h0).2 (by omega)
    unfold begN fullN sec
    rw [t1, t2, t3]
    by_cases h2 : size1 b0 = 2
    · rw [if_neg (by omega), if_pos (by omega)]; simp; omega
    · rw [if_neg (by omega), if_neg (by omega)]
      by_cases h : lo2 b0 ≤ b1 ∧ b1 ≤ hi2 b0
      · rw [if_neg (by omega), if_neg (by omega)]; simp [h]; omega
      · rw [if_pos (by omega)]; simp; omega
theorem begN_three {b0 b1 b2 : Nat} (h0 : b0 < 256) : begN 3 b0 b1 b2 = (decide (3 < size1 b0) && sec b0 b1 && cont b2) := by
  by_cases hs : size1 b0 ≤ 1
  · rw [beg_small (by omega) h0 hs]; simp; omega
  · obtain ⟨t1, t2, t3⟩ := (tab_of h0).2 (by omega)
    unfold begN fullN sec cont
    rw [t1, t2, t3]
    by_cases h2 : size1 b0 ≤ 3
    · rw [if_neg (by omega), if_pos (by omega)]; simp; omega
    · rw [if_neg (by omega), if_neg (by omega)]
      by_cases h : lo2 b0 ≤ b1 ∧ b1 ≤ hi2 b0
      · rw [if_neg (by omega)]
        by_cases h' : 128 ≤ b2 ∧ b2 ≤ 191
        · rw [if_neg (by omega)]; simp [h, h']; omega
        · rw [if_pos (by omega)]; simp; omega
      · rw [if_pos (by omega)]; simp; omega
theorem begN_more {n b0 b1 b2 : Nat} (hn : 4 ≤ n) : begN n b0 b1 b2 = false := by
  unfold begN
  rw [decide_eq_false (by omega)]; rfl

def decOf (r : Nat × Nat × Nat) : Nat × Nat := if r.2.2 = 0 then (r.1, r.2.1) else (65533, 1)
/-- decodeN in the words of this text -/
theorem decode_of {n b0 b1 b2 b3 : Nat} {r : Nat × Nat × Nat} {q : Nat × Nat} (h : nextN n b0 b1 b2 b3 = r) (h' : decodeN n b0 b1 b2 b3 = q) (e : q = decOf r) :
    decodeN n b0 b1 b2 b3 = decOf (nextN n b0 b1 b2 b3) := by rw [h, h', e]
theorem sec_iff {a c : Nat} : (sec a c = true ↔ lo2 a ≤ c ∧ c ≤ hi2 a) ∧ (sec a c = false ↔ ¬ (lo2 a ≤ c ∧ c ≤ hi2 a)) := by
  unfold sec; exact ⟨decide_eq_true_iff, decide_eq_false_iff_not⟩
theorem cont_iff {c : Nat} : (cont c = true ↔ 128 ≤ c ∧ c ≤ 191) ∧ (cont c = false ↔ ¬ (128 ≤ c ∧ c ≤ 191)) := by
  unfold cont; exact ⟨decide_eq_true_iff, decide_eq_false_iff_not⟩
theorem lo_hi_at (b0 : Nat) : (b0 ≠ 224 → b0 ≠ 240 → lo2 b0 = 128) ∧ (b0 = 224 → lo2 b0 = 160) ∧ (b0 = 240 → lo2 b0 = 144) ∧ (b0 ≠ 237 → b0 ≠ 244 → hi2 b0 = 191) ∧ (b0 = 237 → hi2 b0 = 159) ∧ (b0 = 244 → hi2 b0 = 143) := by
  unfold lo2 hi2
  repeat' split
  all_goals omega

set_option maxHeartbeats 2000000 in
theorem decode_ok {n b0 b1 b2 b3 : Nat} (hn : 0 < n) (h0 : b0 < 256) (h1 : b1 < 256) (h2 : b2 < 256) (h3 : b3 < 256) :
    decodeN n b0 b1 b2 b3 = decOf (nextN n b0 b1 b2 b3) := by
  have hc := size_class b0
  have hl := lo_hi_at b0
  have s := @sec_iff b0 b1
  have c2 := @cont_iff b2
  have c3 := @cont_iff b3
  have hs := size_cases b0
  unfold nextN
  simp only [s.2, c2.2, c3.2]
  clear s c2 c3
  generalize size1 b0 = z at *
  generalize lo2 b0 = lo at *
  generalize hi2 b0 = hi at *
  unfold decOf decodeN
  rw [if_neg (show ¬ n = 0 by omega)]
  by_cases a0 : z = 0
  · rw [if_pos a0]; change _ = (65533, 1)
    repeat' split
    all_goals first | (exfalso; omega) | (apply Prod.ext <;> simp only <;> omega)
  · rw [if_neg a0]
    by_cases a1 : z = 1
    · rw [if_pos a1, if_pos (by omega)]; simp
    · rw [if_neg a1]
      by_cases n1 : n = 1
      · rw [if_pos n1]; change _ = (65533, 1)
        repeat' split
        all_goals first | rfl | (exfalso; omega)
      · rw [if_neg n1]
        by_cases a2 : lo ≤ b1 ∧ b1 ≤ hi
        · rw [if_neg (not_not_intro a2)]
          by_cases z2 : z = 2
          · rw [if_pos z2]; change _ = (b0 % 32 * 64 + (b1 - 128), 2)
            repeat' split
            all_goals first | (exfalso; omega) | (apply Prod.ext <;> simp only <;> omega)
          · rw [if_neg z2]
            by_cases n2 : n = 2
            · rw [if_pos n2]; change _ = (65533, 1)
              repeat' split
              all_goals first | rfl | (exfalso; omega)
            · rw [if_neg n2]
              by_cases k2 : 128 ≤ b2 ∧ b2 ≤ 191
              · rw [if_neg (not_not_intro k2)]
                by_cases z3 : z = 3
                · rw [if_pos z3]; change _ = (b0 % 16 * 4096 + (b1 - 128) * 64 + (b2 - 128), 3)
                  repeat' split
                  all_goals first | (exfalso; omega) | (apply Prod.ext <;> simp only <;> omega)
                · rw [if_neg z3]
                  by_cases n3 : n = 3
                  · rw [if_pos n3]; change _ = (65533, 1)
                    repeat' split
                    all_goals first | rfl | (exfalso; omega)
                  · rw [if_neg n3]
                    by_cases k3 : 128 ≤ b3 ∧ b3 ≤ 191
                    · rw [if_neg (not_not_intro k3)]; change _ = (b0 % 8 * 262144 + (b1 - 128) * 4096 + (b2 - 128) * 64 + (b3 - 128), 4)
                      repeat' split
                      all_goals first | (exfalso; omega) | (apply Prod.ext <;> simp only <;> omega)
                    · rw [if_pos k3]; change _ = (65533, 1)
                      repeat' split
                      all_goals first | rfl | (exfalso; omega)
              · rw [if_pos k2]; change _ = (65533, 1)
                repeat' split
                all_goals first | rfl | (exfalso; omega)
        · rw [if_pos a2]; change _ = (65533, 1)
          repeat' split
          all_goals first | rfl | (exfalso; omega)


end Go.Proofs.YtbflcikfaoojmaaDoor.UtfP

/- The plain side of layer 1, second part: the program's way is the document's. -/
set_option linter.unusedVariables false
namespace Go.Proofs.YtbflcikfaoojmaaDoor.UtfP
open Go.Lib

def OkNext (r : Nat × Nat × Nat) : Prop := r.2.2 = 0 → r.1 ≠ 65533 ∨ 1 < r.2.1
theorem ite_ok {c : Prop} [Decidable c] {P : Nat × Nat × Nat → Prop} {x y : Nat × Nat × Nat} (hx : c → P x) (hy : ¬ c → P y) : P (if c then x else y) := by
  by_cases hc : c
  · rw [if_pos hc]; exact hx hc
  · rw [if_neg hc]; exact hy hc
theorem ok_e {c n e : Nat} (h : e ≠ 0) : OkNext (c, n, e) := fun h' => absurd h' h
theorem ok_n {c n e : Nat} (h : 1 < n) : OkNext (c, n, e) := fun _ => Or.inr h
theorem ok_c {c n e : Nat} (h : c ≠ 65533) : OkNext (c, n, e) := fun _ => Or.inl h
/-- what an error's number says -/
theorem next_ok {n b0 b1 b2 b3 : Nat} : OkNext (nextN n b0 b1 b2 b3) := by
  have hc := size_class b0
  unfold nextN
  repeat' (with_reducible (refine ite_ok (P := OkNext) (fun _ => ?_) (fun _ => ?_)))
  all_goals first | exact ok_e (by decide) | exact ok_n (by decide) | exact ok_c (by omega)

theorem runs_1 {n b0 b1 b2 : Nat} (h : begN 2 b0 b1 b2 = false) : runsN 3 1 n b0 b1 b2 = 1 := by
  unfold runsN; rw [h, if_neg (fun h => Bool.false_ne_true h.2)]
theorem runs_2 {n b0 b1 b2 : Nat} (hn : 1 < n) (h : begN 2 b0 b1 b2 = true) (h' : begN 3 b0 b1 b2 = false) : runsN 3 1 n b0 b1 b2 = 2 := by
  unfold runsN; rw [h, if_pos ⟨hn, rfl⟩]
  unfold runsN; rw [h', if_neg (fun h => Bool.false_ne_true h.2)]
theorem runs_3 {n b0 b1 b2 : Nat} (hn : 2 < n) (h : begN 2 b0 b1 b2 = true) (h' : begN 3 b0 b1 b2 = true) : runsN 3 1 n b0 b1 b2 = 3 := by
  unfold runsN; rw [h, if_pos ⟨by omega, rfl⟩]
  unfold runsN; rw [h', if_pos ⟨hn, rfl⟩]
  unfold runsN; rw [begN_more (by omega), if_neg (fun h => Bool.false_ne_true h.2)]

def badWay (n b0 b1 b2 : Nat) : Nat × Nat × Nat := if begN n b0 b1 b2 = true then (0, n, 7) else (0, runsN 3 1 n b0 b1 b2, 8)
theorem bad_short {n b0 b1 b2 : Nat} (h : begN n b0 b1 b2 = true) : badWay n b0 b1 b2 = (0, n, 7) := by unfold badWay; rw [if_pos h]
theorem bad_form {n b0 b1 b2 k : Nat} (h : begN n b0 b1 b2 = false) (hk : runsN 3 1 n b0 b1 b2 = k) : badWay n b0 b1 b2 = (0, k, 8) := by
  unfold badWay; rw [h, if_neg Bool.false_ne_true, hk]

theorem bad_eq {n b0 b1 b2 b3 : Nat} (h0 : b0 < 256) (hn : n ≠ 0) : (nextN n b0 b1 b2 b3).2.2 ≠ 0 → badWay n b0 b1 b2 = nextN n b0 b1 b2 b3 := by
  have z := size_cases b0
  have e1 := @begN_one b0 b1 b2 h0
  have e2 := @begN_two b0 b1 b2 h0
  have e3 := @begN_three b0 b1 b2 h0
  unfold nextN
  rw [if_neg hn]
  by_cases a0 : size1 b0 = 0
  · rw [if_pos a0]; intro _
    exact bad_form (beg_small (by omega) h0 (by omega)) (runs_1 (beg_small (by omega) h0 (by omega)))
  · rw [if_neg a0]
    by_cases a1 : size1 b0 = 1
    · rw [if_pos a1]; intro h; exact absurd rfl h
    · rw [if_neg a1]
      by_cases n1 : n = 1
      · subst n1; rw [if_pos rfl]; intro _
        exact bad_short (by rw [e1]; simp; omega)
      · rw [if_neg n1]
        by_cases s1 : sec b0 b1 = true
        · rw [if_neg (by rw [s1]; simp)]
          by_cases a2 : size1 b0 = 2
          · rw [if_pos a2]; intro h; exact absurd rfl h
          · rw [if_neg a2]
            have e2' : begN 2 b0 b1 b2 = true := by rw [e2, s1]; simp; omega
            by_cases n2 : n = 2
            · subst n2; rw [if_pos rfl]; intro _; exact bad_short e2'
            · rw [if_neg n2]
              by_cases s2 : cont b2 = true
              · rw [if_neg (by rw [s2]; simp)]
                by_cases a3 : size1 b0 = 3
                · rw [if_pos a3]; intro h; exact absurd rfl h
                · rw [if_neg a3]
                  have e3' : begN 3 b0 b1 b2 = true := by rw [e3, s1, s2]; simp; omega
                  by_cases n3 : n = 3
                  · subst n3; rw [if_pos rfl]; intro _; exact bad_short e3'
                  · rw [if_neg n3]
                    by_cases s3 : cont b3 = true
                    · rw [if_neg (by rw [s3]; simp)]; intro h; exact absurd rfl h
                    · rw [if_pos (by simpa using s3)]; intro _
                      exact bad_form (begN_more (by omega)) (runs_3 (by omega) e2' e3')
              · have s2' : cont b2 = false := by simpa using s2
                rw [if_pos s2']; intro _
                have e3' : begN 3 b0 b1 b2 = false := by rw [e3, s2']; simp
                refine bad_form ?_ (runs_2 (by omega) e2' e3')
                by_cases n3 : n = 3
                · subst n3; exact e3'
                · exact begN_more (by omega)
        · have s1' : sec b0 b1 = false := by simpa using s1
          rw [if_pos s1']; intro _
          have e2' : begN 2 b0 b1 b2 = false := by rw [e2, s1']; simp
          refine bad_form ?_ (runs_1 e2')
          by_cases n2 : n = 2
          · subst n2; exact e2'
          · by_cases n3 : n = 3
            · subst n3; rw [e3, s1']; simp
            · exact begN_more (by omega)

theorem goNext_eq {n b0 b1 b2 b3 : Nat} (h0 : b0 < 256) (h1 : b1 < 256) (h2 : b2 < 256) (h3 : b3 < 256) : goNext n b0 b1 b2 b3 = nextN n b0 b1 b2 b3 := by
  by_cases hn : n = 0
  · subst hn; rfl
  · unfold goNext
    rw [if_neg hn, decode_ok (by omega) h0 h1 h2 h3]
    by_cases he : (nextN n b0 b1 b2 b3).2.2 = 0
    · have := next_ok he
      unfold decOf
      rw [if_pos he, if_pos this]
      exact Prod.ext rfl (Prod.ext rfl he.symm)
    · have hd : decOf (nextN n b0 b1 b2 b3) = (65533, 1) := by unfold decOf; rw [if_neg he]
      rw [hd, if_neg (by omega)]
      exact bad_eq h0 hn he

end Go.Proofs.YtbflcikfaoojmaaDoor.UtfP

/- Plain facts on the next character. -/
set_option linter.unusedVariables false
namespace Go.Proofs.YtbflcikfaoojmaaDoor.UtfP
open Go.Lib

def Fine3 (n : Nat) (r : Nat × Nat × Nat) : Prop := 1 ≤ r.2.1 ∧ r.2.1 ≤ n ∧ r.2.1 ≤ 4 ∧ (r.2.2 = 7 → r.2.1 = n ∧ n < 4) ∧ (r.2.2 = 0 ∨ r.2.2 = 7 ∨ r.2.2 = 8) ∧ (r.2.2 ≠ 0 → r.1 = 0)
theorem fine_ok {n c k : Nat} (h : 1 ≤ k ∧ k ≤ n ∧ k ≤ 4) : Fine3 n (c, k, 0) := ⟨h.1, h.2.1, h.2.2, fun h => absurd (show (0 : Nat) = 7 from h) (by decide), Or.inl rfl, fun h => absurd rfl h⟩
theorem fine_short {n k : Nat} (h : 1 ≤ k ∧ k = n ∧ k < 4) : Fine3 n (0, k, 7) := ⟨h.1, Nat.le_of_eq h.2.1, Nat.le_of_lt h.2.2, fun _ => ⟨h.2.1, h.2.1 ▸ h.2.2⟩, Or.inr (Or.inl rfl), fun _ => rfl⟩
theorem fine_form {n k : Nat} (h : 1 ≤ k ∧ k ≤ n ∧ k ≤ 4) : Fine3 n (0, k, 8) := ⟨h.1, h.2.1, h.2.2, fun h => absurd (show (8 : Nat) = 7 from h) (by decide), Or.inr (Or.inr rfl), fun _ => rfl⟩
theorem next_fine {n b0 b1 b2 b3 : Nat} (hn : 0 < n) : Fine3 n (nextN n b0 b1 b2 b3) := by
  unfold nextN
  rw [if_neg (by omega)]
  repeat' (with_reducible (refine ite_ok (P := Fine3 n) (fun _ => ?_) (fun _ => ?_)))
  all_goals first | exact fine_ok (by omega) | exact fine_short (by omega) | exact fine_form (by omega)

/-- bytes behind don't change it, but for a beginning -/
theorem next_more {n n' b0 b1 b2 b3 c1 c2 c3 : Nat} (hn : 0 < n) (hle : n ≤ n') (h1 : 1 < n → c1 = b1) (h2 : 2 < n → c2 = b2) (h3 : 3 < n → c3 = b3)
    (he : (nextN n b0 b1 b2 b3).2.2 ≠ 7) : nextN n' b0 c1 c2 c3 = nextN n b0 b1 b2 b3 := by
  revert he
  unfold nextN
  rw [if_neg (show ¬ n = 0 by omega), if_neg (show ¬ n' = 0 by omega)]
  by_cases a0 : size1 b0 = 0
  · rw [if_pos a0, if_pos a0]; intro _; rfl
  · rw [if_neg a0, if_neg a0]
    by_cases a1 : size1 b0 = 1
    · rw [if_pos a1, if_pos a1]; intro _; rfl
    · rw [if_neg a1, if_neg a1]
      by_cases n1 : n = 1
      · rw [if_pos n1]; intro h; exact absurd rfl h
      · rw [if_neg n1, if_neg (show ¬ n' = 1 by omega), h1 (by omega)]
        by_cases s1 : sec b0 b1 = false
        · rw [if_pos s1, if_pos s1]; intro _; rfl
        · rw [if_neg s1, if_neg s1]
          by_cases a2 : size1 b0 = 2
          · rw [if_pos a2, if_pos a2]; intro _; rfl
          · rw [if_neg a2, if_neg a2]
            by_cases n2 : n = 2
            · rw [if_pos n2]; intro h; exact absurd rfl h
            · rw [if_neg n2, if_neg (show ¬ n' = 2 by omega), h2 (by omega)]
              by_cases s2 : cont b2 = false
              · rw [if_pos s2, if_pos s2]; intro _; rfl
              · rw [if_neg s2, if_neg s2]
                by_cases a3 : size1 b0 = 3
                · rw [if_pos a3, if_pos a3]; intro _; rfl
                · rw [if_neg a3, if_neg a3]
                  by_cases n3 : n = 3
                  · rw [if_pos n3]; intro h; exact absurd rfl h
                  · rw [if_neg n3, if_neg (show ¬ n' = 3 by omega), h3 (by omega)]
                    intro _; rfl

/-- byte i of a list, 0 behind its end -/
def bt (l : List UInt8) (i : Nat) : Nat := (l.getD i 0).toNat
theorem bt_lt (l : List UInt8) (i : Nat) : bt l i < 256 := (l.getD i 0).toNat_lt
theorem bt_append {l m : List UInt8} {j : Nat} (h : j < l.length) : bt (l ++ m) j = bt l j := by
  unfold bt
  rw [List.getD_eq_getElem?_getD, List.getD_eq_getElem?_getD, List.getElem?_append_left h]
def next (l : List UInt8) : Nat × Nat × Nat := nextN l.length (bt l 0) (bt l 1) (bt l 2) (bt l 3)
theorem next_nil : next [] = (0, 0, 6) := by decide
theorem next_facts {l : List UInt8} (h : l ≠ []) : Fine3 l.length (next l) := next_fine (List.length_pos_iff.2 h)
theorem next_append {l m : List UInt8} (h : l ≠ []) (he : (next l).2.2 ≠ 7) : next (l ++ m) = next l := by
  have hn := List.length_pos_iff.2 h
  unfold next at he ⊢
  rw [bt_append hn]
  exact next_more hn (by rw [List.length_append]; omega) (fun h => bt_append h) (fun h => bt_append h) (fun h => bt_append h) he

end Go.Proofs.YtbflcikfaoojmaaDoor.UtfP

/- Bytes in memory, as a slice reads them; the library's decoder, by the shelf's contract. -/
set_option linter.unusedVariables false
namespace Go.Proofs.YtbflcikfaoojmaaDoor.Utf
open Go.RowKit Go.Lib Go.Shelf UtfP

theorem below_drewN {B : Nat} {a w : World} (h : Below B a w) (n : Nat) : Below B a (w.drewN n) := ⟨h.os, h.tape, h.output, h.size, h.block⟩

theorem quiet_left {P : Program} {f : FuncId} {args : Array Value} {w : World} {n : Nat} {v : Value}
    (h : Calls P f args (w.drewN n) fun e w' => e = .returned v ∧ w.drewN n = w') : Calls P f args (w.drewN n) fun e w'' => e = .returned v ∧ ∃ m, w'' = w.drewN m :=
  h.mono fun _ _ ⟨he, hm⟩ => ⟨he, n, hm.symm⟩

def dec (l : List UInt8) : Nat × Nat := decodeN l.length (bt l 0) (bt l 1) (bt l 2) (bt l 3)

/-- The slice value at address A, of a list's length, holds its bytes. -/
def BytesAt (w : World) (A : Option Addr) (l : List UInt8) : Prop :=
  l ≠ [] → ∃ b off, A = some ⟨b, off, none⟩ ∧ b < w.heap.size ∧ ∀ j, j < l.length → w.cell? ⟨b, off + j, none⟩ = some (.int .u8 (bt l j : Int))

theorem get!_mk (l : List UInt8) (j : Nat) : ((⟨l.toArray⟩ : ByteArray).get! j).toNat = bt l j := by
  show (l.toArray[j]!).toNat = (l.getD j 0).toNat
  rw [List.getElem!_toArray, List.getElem!_eq_getElem?_getD, List.getD_eq_getElem?_getD]; rfl

def rho : Ren := ⟨fun | 32 => 43 | 49 => 56 | _ => 0,
  fun | 0 => 0 | 3 => 3 | 4 => 4 | 5 => 5 | 21 => 21 | 25 => 105 | 30 => 47 | 33 => 83 | 66 => 106 | 68 => 108 | 69 => 109 | _ => 0,
  fun | 2 => 1 | 3 => 2 | _ => 0⟩
theorem lays : Lays7.n32 Tryd.prog rho where
  mixed := by kernel_rfl
  f32 := by kernel_rfl
  f49 := by kernel_rfl
  t0 := by kernel_rfl
  a0 := fun _ => by kernel_rfl
  z0 := fun _ => by kernel_rfl
  v0 := fun _ => by kernel_rfl
  i0 := by kernel_rfl
  t3 := by kernel_rfl
  a3 := fun _ => by kernel_rfl
  z3 := fun _ => by kernel_rfl
  v3 := fun _ => by kernel_rfl
  i3 := by kernel_rfl
  t4 := by kernel_rfl
  a4 := fun _ => by kernel_rfl
  z4 := fun _ => by kernel_rfl
  v4 := fun _ => by kernel_rfl
  i4 := by kernel_rfl
  t5 := by kernel_rfl
  a5 := fun _ => by kernel_rfl
  z5 := fun _ => by kernel_rfl
  v5 := fun _ => by kernel_rfl
  i5 := by kernel_rfl
  t21 := by kernel_rfl
  a21 := fun _ => by kernel_rfl
  z21 := fun _ => by kernel_rfl
  v21 := fun _ => by kernel_rfl
  i21 := by kernel_rfl
  t25 := by kernel_rfl
  a25 := fun _ => by kernel_rfl
  z25 := fun _ => by kernel_rfl
  v25 := fun _ => by kernel_rfl
  i25 := by kernel_rfl
  t30 := by kernel_rfl
  a30 := fun _ => by kernel_rfl
  z30 := fun _ => by kernel_rfl
  v30 := fun _ => by kernel_rfl
  i30 := by kernel_rfl
  t33 := by kernel_rfl
  a33 := fun _ => by kernel_rfl
  z33 := fun _ => by kernel_rfl
  v33 := fun _ => by kernel_rfl
  i33 := by kernel_rfl
  t66 := by kernel_rfl
  a66 := fun _ => by kernel_rfl
  z66 := fun _ => by kernel_rfl
  t68 := by kernel_rfl
  a68 := fun _ => by kernel_rfl
  z68 := fun _ => by kernel_rfl
  v68 := fun _ => by kernel_rfl
  i68 := by kernel_rfl
  t69 := by kernel_rfl
  a69 := fun _ => by kernel_rfl
  z69 := fun _ => by kernel_rfl
  v69 := fun _ => by kernel_rfl
  i69 := by kernel_rfl
  g2 := by kernel_rfl
  g3 := by kernel_rfl

def Tabs (w : World) : Prop := Lib.Utf8Tabs 1 2 w

theorem decodeRune (l : List UInt8) (A : Option Addr) (cap : Nat) (w : World) (hT : Tabs w) (hA : BytesAt w A l) (hne : l ≠ []) :
    Calls Tryd.prog 43 #[.slice A l.length cap] w fun e w' => e = .returned (.tuple #[.int .i32 ((dec l).1 : Int), .int .i64 ((dec l).2 : Int)]) ∧ Below w.heap.size w w' := by
  obtain ⟨b, off, rfl, _, hc⟩ := hA hne
  have h := Any7.utf8_DecodeRune (P := Tryd.prog) (ρ := rho) lays ⟨l.toArray⟩ b off cap w hT (fun j hj => by rw [get!_mk]; exact hc j hj)
  have hs : (⟨l.toArray⟩ : ByteArray).size = l.length := rfl
  have hd : Lib.decodeGo ⟨l.toArray⟩ = dec l := by
    unfold Lib.decodeGo
    rw [if_neg (by rw [hs]; intro h0; exact hne (List.eq_nil_of_length_eq_zero h0)), Lib.decode_at]
    simp only [get!_mk, hs]; rfl
  rw [hd, hs] at h
  exact h

end Go.Proofs.YtbflcikfaoojmaaDoor.Utf

/- A character's bytes are that character; a text's characters may be; plain. -/
import Derived.Test.YtbflcikfaoojmaaDoorHTextP
set_option linter.unusedVariables false
namespace Go.Proofs.YtbflcikfaoojmaaDoor.UtfP
open Go.Lib

theorem u8_of {z : Int} (h0 : 0 ≤ z) (h1 : z < 256) : ((z.toNat.toUInt8).toNat : Int) = z := by
  have : z.toNat.toUInt8.toNat = z.toNat % 256 := by simp
  rw [this]; omega
theorem enc_eq {c : Int} {zs : List Int} (h : encodeRuneZ c = zs) : enc c = zs.map fun x => x.toNat.toUInt8 := by
  unfold enc encodeRune; rw [h]

theorem next_enc {c : Int} (m : List UInt8) (h : fineC c = true) : next (enc c ++ m) = (c.toNat, (enc c).length, 0) := by
  have hc := fineC_iff.1.1 h
  have hs := @size_class
  have sg : ∀ {z : Int} {n : Nat}, ((z.toNat.toUInt8).toNat : Int) = z → (n : Int) = z → z.toNat.toUInt8.toNat = n := by intro z n h1 h2; omega
  by_cases h1 : c < 128
  · have e := enc_eq (c := c) (zs := [c]) (by unfold encodeRuneZ; rw [if_pos (by omega)])
    rw [e]
    have b0 := u8_of (z := c) (by omega) (by omega)
    unfold next
    have q0 : bt (([c].map fun x : Int => x.toNat.toUInt8) ++ m) 0 = c.toNat := by show c.toNat.toUInt8.toNat = _; omega
    rw [q0]
    unfold nextN
    have z := (hs c.toNat).1.2 (by omega)
    rw [if_neg (by simp), if_neg (by omega), if_pos z]
    rfl
  · by_cases h2 : c < 2048
    · have e := enc_eq (c := c) (zs := [192 + c / 64, 128 + c % 64]) (by unfold encodeRuneZ; rw [if_neg (by omega), if_pos (by omega)])
      rw [e]
      have b0 := u8_of (z := 192 + c / 64) (by omega) (by omega)
      have b1 := u8_of (z := 128 + c % 64) (by omega) (by omega)
      unfold next
      have q0 : bt (([192 + c / 64, 128 + c % 64].map fun x : Int => x.toNat.toUInt8) ++ m) 0 = (192 + c / 64).toNat := by show (192 + c / 64).toNat.toUInt8.toNat = _; omega
      have q1 : bt (([192 + c / 64, 128 + c % 64].map fun x : Int => x.toNat.toUInt8) ++ m) 1 = (128 + c % 64).toNat := by show (128 + c % 64).toNat.toUInt8.toNat = _; omega
      rw [q0, q1]
      have z : size1 (192 + c / 64).toNat = 2 := (hs _).2.1.2 (by omega)
      have s : sec (192 + c / 64).toNat (128 + c % 64).toNat = true := by
        refine sec_iff.1.2 ?_
        have := lo_hi_at (192 + c / 64).toNat
        have a1 := this.1 (by omega) (by omega)
        have a2 := this.2.2.2.1 (by omega) (by omega)
        omega
      unfold nextN
      rw [if_neg (by simp), if_neg (by omega), if_neg (by omega), if_neg (by simp), s, if_neg (by simp), if_pos z]
      refine Prod.ext ?_ rfl
      show (192 + c / 64).toNat % 32 * 64 + ((128 + c % 64).toNat - 128) = c.toNat
      omega
    · by_cases h3 : c < 65536
      · have e := enc_eq (c := c) (zs := [224 + c / 4096, 128 + c / 64 % 64, 128 + c % 64]) (by unfold encodeRuneZ; rw [if_neg (by omega), if_neg (by omega), if_pos (by omega)])
        rw [e]
        have b0 := u8_of (z := 224 + c / 4096) (by omega) (by omega)
        have b1 := u8_of (z := 128 + c / 64 % 64) (by omega) (by omega)
        have b2 := u8_of (z := 128 + c % 64) (by omega) (by omega)
        unfold next
        have q0 : bt (([224 + c / 4096, 128 + c / 64 % 64, 128 + c % 64].map fun x : Int => x.toNat.toUInt8) ++ m) 0 = (224 + c / 4096).toNat := by show (224 + c / 4096).toNat.toUInt8.toNat = _; omega
        have q1 : bt (([224 + c / 4096, 128 + c / 64 % 64, 128 + c % 64].map fun x : Int => x.toNat.toUInt8) ++ m) 1 = (128 + c / 64 % 64).toNat := by show (128 + c / 64 % 64).toNat.toUInt8.toNat = _; omega
        have q2 : bt (([224 + c / 4096, 128 + c / 64 % 64, 128 + c % 64].map fun x : Int => x.toNat.toUInt8) ++ m) 2 = (128 + c % 64).toNat := by show (128 + c % 64).toNat.toUInt8.toNat = _; omega
        rw [q0, q1, q2]
        have z : size1 (224 + c / 4096).toNat = 3 := (hs _).2.2.1.2 (by omega)
        have s : sec (224 + c / 4096).toNat (128 + c / 64 % 64).toNat = true := by
          refine sec_iff.1.2 ?_
          have := lo_hi_at (224 + c / 4096).toNat
          by_cases k1 : (224 + c / 4096).toNat = 224
          · have a1 := this.2.1 k1
            have a2 := this.2.2.2.1 (by omega) (by omega)
            omega
          · have a1 := this.1 k1 (by omega)
            by_cases k2 : (224 + c / 4096).toNat = 237
            · have a2 := this.2.2.2.2.1 k2
              omega
            · have a2 := this.2.2.2.1 k2 (by omega)
              omega
        have s2 : cont (128 + c % 64).toNat = true := cont_iff.1.2 (by omega)
        unfold nextN
        rw [if_neg (by simp), if_neg (by omega), if_neg (by omega), if_neg (by simp), s, if_neg (by simp), if_neg (by omega), if_neg (by simp), s2, if_neg (by simp), if_pos z]
        refine Prod.ext ?_ rfl
        show (224 + c / 4096).toNat % 16 * 4096 + ((128 + c / 64 % 64).toNat - 128) * 64 + ((128 + c % 64).toNat - 128) = c.toNat
        omega
      · have e := enc_eq (c := c) (zs := [240 + c / 262144, 128 + c / 4096 % 64, 128 + c / 64 % 64, 128 + c % 64]) (by unfold encodeRuneZ; rw [if_neg (by omega), if_neg (by omega), if_neg (by omega), if_pos (by omega)])
        rw [e]
        have b0 := u8_of (z := 240 + c / 262144) (by omega) (by omega)
        have b1 := u8_of (z := 128 + c / 4096 % 64) (by omega) (by omega)
        have b2 := u8_of (z := 128 + c / 64 % 64) (by omega) (by omega)
        have b3 := u8_of (z := 128 + c % 64) (by omega) (by omega)
        unfold next
        have q0 : bt (([240 + c / 262144, 128 + c / 4096 % 64, 128 + c / 64 % 64, 128 + c % 64].map fun x : Int => x.toNat.toUInt8) ++ m) 0 = (240 + c / 262144).toNat := by show (240 + c / 262144).toNat.toUInt8.toNat = _; omega
        have q1 : bt (([240 + c / 262144, 128 + c / 4096 % 64, 128 + c / 64 % 64, 128 + c % 64].map fun x : Int => x.toNat.toUInt8) ++ m) 1 = (128 + c / 4096 % 64).toNat := by show (128 + c / 4096 % 64).toNat.toUInt8.toNat = _; omega
        have q2 : bt (([240 + c / 262144, 128 + c / 4096 % 64, 128 + c / 64 % 64, 128 + c % 64].map fun x : Int => x.toNat.toUInt8) ++ m) 2 = (128 + c / 64 % 64).toNat := by show (128 + c / 64 % 64).toNat.toUInt8.toNat = _; omega
        have q3 : bt (([240 + c / 262144, 128 + c / 4096 % 64, 128 + c / 64 % 64, 128 + c % 64].map fun x : Int => x.toNat.toUInt8) ++ m) 3 = (128 + c % 64).toNat := by show (128 + c % 64).toNat.toUInt8.toNat = _; omega
        rw [q0, q1, q2, q3]
        have z : size1 (240 + c / 262144).toNat = 4 := (hs _).2.2.2.2 (by omega)
        have s : sec (240 + c / 262144).toNat (128 + c / 4096 % 64).toNat = true := by
          refine sec_iff.1.2 ?_
          have := lo_hi_at (240 + c / 262144).toNat
          by_cases k1 : (240 + c / 262144).toNat = 240
          · have a1 := this.2.2.1 k1
            have a2 := this.2.2.2.1 (by omega) (by omega)
            omega
          · have a1 := this.1 (by omega) k1
            by_cases k2 : (240 + c / 262144).toNat = 244
            · have a2 := this.2.2.2.2.2 k2
              omega
            · have a2 := this.2.2.2.1 (by omega) k2
              omega
        have s2 : cont (128 + c / 64 % 64).toNat = true := cont_iff.1.2 (by omega)
        have s3 : cont (128 + c % 64).toNat = true := cont_iff.1.2 (by omega)
        unfold nextN
        rw [if_neg (by simp), if_neg (by omega), if_neg (by omega), if_neg (by simp), s, if_neg (by simp), if_neg (by omega), if_neg (by simp), s2, if_neg (by simp), if_neg (by omega), if_neg (by simp), s3, if_neg (by simp)]
        refine Prod.ext ?_ rfl
        show (240 + c / 262144).toNat % 8 * 262144 + ((128 + c / 4096 % 64).toNat - 128) * 4096 + ((128 + c / 64 % 64).toNat - 128) * 64 + ((128 + c % 64).toNat - 128) = c.toNat
        omega

theorem enc_ne (c : Int) : enc c ≠ [] := fun h => by have := (enc_length c).1; rw [h] at this; simp at this
theorem headC_enc {c : Int} (m : List UInt8) (h : fineC c = true) : headC (enc c ++ m) = c := by
  unfold headC
  rw [next_enc m h]
  have := (fineC_iff.1.1 h).1
  simp; omega
theorem chars_enc {c : Int} (m : List UInt8) (h : fineC c = true) : chars (enc c ++ m) = c :: chars m := by
  rw [chars_cons (by simp [enc_ne]), headC_enc m h, next_enc m h]
  simp
theorem chars_encs (m : List UInt8) : ∀ (cs : List Int), (∀ c ∈ cs, fineC c = true) → chars (cs.flatMap enc ++ m) = cs ++ chars m
  | [], _ => rfl
  | c :: cs, h => by
    rw [List.flatMap_cons, List.append_assoc, chars_enc _ (h c (by simp)), chars_encs m cs (fun x hx => h x (by simp [hx]))]
    rfl

theorem next_fineC {l : List UInt8} (he : (next l).2.2 = 0) : fineC ((next l).1 : Int) = true := by
  revert he
  refine (?_ : (fun r : Nat × Nat × Nat => r.2.2 = 0 → fineC (r.1 : Int) = true) (next l))
  have hk : ∀ {c : Prop} [Decidable c] {x y : Nat × Nat × Nat}, (c → (x.2.2 = 0 → fineC (x.1 : Int) = true)) → (¬ c → (y.2.2 = 0 → fineC (y.1 : Int) = true)) → ((if c then x else y).2.2 = 0 → fineC ((if c then x else y).1 : Int) = true) := by
    intro c _ x y hx hy
    by_cases hc : c
    · rw [if_pos hc]; exact hx hc
    · rw [if_neg hc]; exact hy hc
  have hc := size_class (bt l 0)
  have hs := size_cases (bt l 0)
  have s := @sec_iff (bt l 0) (bt l 1)
  have hl := lo_hi_at (bt l 0)
  have hlh := lo_hi (bt l 0)
  have c2 := @cont_iff (bt l 2)
  have c3 := @cont_iff (bt l 3)
  unfold next nextN
  refine hk (fun _ h => absurd h (by decide)) (fun _ => hk (fun _ h => absurd (show (8 : Nat) = 0 from h) (by decide)) (fun a0 => hk (fun a1 _ => ?_) (fun a1 => hk (fun _ h => absurd (show (7 : Nat) = 0 from h) (by decide)) (fun _ => hk (fun _ h => absurd (show (8 : Nat) = 0 from h) (by decide)) (fun s1 => hk (fun a2 _ => ?_) (fun a2 => hk (fun _ h => absurd (show (7 : Nat) = 0 from h) (by decide)) (fun _ => hk (fun _ h => absurd (show (8 : Nat) = 0 from h) (by decide)) (fun s2 => hk (fun a3 _ => ?_) (fun a3 => hk (fun _ h => absurd (show (7 : Nat) = 0 from h) (by decide)) (fun _ => hk (fun _ h => absurd (show (8 : Nat) = 0 from h) (by decide)) (fun s3 _ => ?_)))))))))))
  · refine fineC_iff.1.2 ?_
    show 0 ≤ ((bt l 0 : Nat) : Int) ∧ _
    have := hc.1.1 a1
    omega
  · refine fineC_iff.1.2 ?_
    show 0 ≤ ((bt l 0 % 32 * 64 + (bt l 1 - 128) : Nat) : Int) ∧ _
    have k1 := s.1.1 (by simpa using s1)
    omega
  · refine fineC_iff.1.2 ?_
    show 0 ≤ ((bt l 0 % 16 * 4096 + (bt l 1 - 128) * 64 + (bt l 2 - 128) : Nat) : Int) ∧ _
    have k1 := s.1.1 (by simpa using s1)
    have k2 := c2.1.1 (by simpa using s2)
    have k4 := hc.2.2.1.1 a3
    by_cases e : bt l 0 = 237
    · have := hl.2.2.2.2.1 e
      omega
    · omega
  · refine fineC_iff.1.2 ?_
    show 0 ≤ ((bt l 0 % 8 * 262144 + (bt l 1 - 128) * 4096 + (bt l 2 - 128) * 64 + (bt l 3 - 128) : Nat) : Int) ∧ _
    have k1 := s.1.1 (by simpa using s1)
    have k2 := c2.1.1 (by simpa using s2)
    have k3 := c3.1.1 (by simpa using s3)
    have k4 : 240 ≤ bt l 0 ∧ bt l 0 ≤ 244 := hc.2.2.2.1 (by omega)
    by_cases e : bt l 0 = 244
    · have := hl.2.2.2.2.2 e
      rw [e]; omega
    · by_cases e' : bt l 0 = 240
      · have := hl.2.2.1 e'
        rw [e']; omega
      · omega
theorem headC_fine (l : List UInt8) : fineC (headC l) = true := by
  unfold headC
  by_cases h : (next l).2.2 = 0
  · rw [if_pos h]; exact next_fineC h
  · rw [if_neg h]; decide
theorem chars_fine (l : List UInt8) : ∀ c ∈ chars l, fineC c = true := by
  have : ∀ (n : Nat) (l : List UInt8), l.length ≤ n → ∀ c ∈ chars l, fineC c = true := by
    intro n
    induction n with
    | zero => intro l h c hc; rw [List.eq_nil_of_length_eq_zero (by omega : l.length = 0)] at hc; cases hc
    | succ n ih =>
      intro l h c hc
      by_cases hl : l = []
      · subst hl; cases hc
      · rw [chars_cons hl] at hc
        obtain ⟨f1, f2, _⟩ := next_facts hl
        rcases List.mem_cons.1 hc with rfl | hc
        · exact headC_fine l
        · exact ih _ (by rw [List.length_drop]; omega) c hc
  exact this l.length l (Nat.le_refl _)
theorem chars_text_append (l m : List UInt8) : chars (text l ++ m) = chars l ++ chars m := chars_encs m _ (chars_fine l)
theorem chars_text (l : List UInt8) : chars (text l) = chars l := by
  have := chars_text_append l []
  rwa [List.append_nil, chars_nil, List.append_nil] at this
theorem text_text (l : List UInt8) : text (text l) = text l := by unfold text; rw [show chars (List.flatMap enc (chars l)) = chars l from chars_text l]
theorem text_append (l m : List UInt8) : text (text l ++ m) = text l ++ text m := by
  unfold text
  rw [show chars (List.flatMap enc (chars l) ++ m) = chars l ++ chars m from chars_text_append l m, List.flatMap_append]

end Go.Proofs.YtbflcikfaoojmaaDoor.UtfP

/- Texts joined: TextP; EncP; EncN; Tw5; TwC. -/
import Derived.Test.YtbflcikfaoojmaaDoorGC
import Derived.Test.YtbflcikfaoojmaaDoorHTw2
import Derived.Test.YtbflcikfaoojmaaDoorGT9
/- The characters of a text; plain. -/
set_option linter.unusedVariables false
namespace Go.Proofs.YtbflcikfaoojmaaDoor.UtfP
open Go.Lib

def charsF : Nat → List UInt8 → List Int
  | 0, _ => []
  | d + 1, l => if l = [] then [] else (if (next l).2.2 = 0 then ((next l).1 : Int) else 65533) :: charsF d (l.drop (next l).2.1)
/-- the characters of a text, what isn't right replaced -/
def chars (l : List UInt8) : List Int := charsF l.length l
def headC (l : List UInt8) : Int := if (next l).2.2 = 0 then ((next l).1 : Int) else 65533

theorem charsF_more : ∀ (d d' : Nat) (l : List UInt8), l.length ≤ d → l.length ≤ d' → charsF d l = charsF d' l := by
  intro d
  induction d with
  | zero =>
    intro d' l h _
    have : l = [] := List.eq_nil_of_length_eq_zero (by omega)
    subst this
    cases d' with
    | zero => rfl
    | succ d' => unfold charsF; rw [if_pos rfl]
  | succ d ih =>
    intro d' l h h'
    by_cases hl : l = []
    · subst hl
      unfold charsF
      cases d' with
      | zero => simp
      | succ d' => simp
    · obtain ⟨f1, f2, _⟩ := next_facts hl
      cases d' with
      | zero => exact absurd (List.eq_nil_of_length_eq_zero (by omega)) hl
      | succ d' =>
        unfold charsF
        rw [if_neg hl, if_neg hl, ih d' (l.drop (next l).2.1) (by rw [List.length_drop]; omega) (by rw [List.length_drop]; omega)]
theorem chars_nil : chars [] = [] := rfl
theorem chars_cons {l : List UInt8} (h : l ≠ []) : chars l = headC l :: chars (l.drop (next l).2.1) := by
  obtain ⟨f1, f2, _⟩ := next_facts h
  have hl := List.length_pos_iff.2 h
  obtain ⟨d, hd⟩ : ∃ d, l.length = d + 1 := ⟨l.length - 1, by omega⟩
  unfold chars
  rw [hd]
  conv => lhs; unfold charsF
  rw [if_neg h]
  unfold headC
  rw [charsF_more d (l.drop (next l).2.1).length (l.drop (next l).2.1) (by rw [List.length_drop]; omega) (Nat.le_refl _)]

def text (l : List UInt8) : List UInt8 := (chars l).flatMap enc

theorem next_small {l : List UInt8} : (next l).1 ≤ 1114111 := by
  unfold next
  by_cases hn : l.length = 0
  · unfold nextN; rw [if_pos hn]; decide
  · have ite_le : ∀ {c : Prop} [Decidable c] {x y : Nat × Nat × Nat}, (c → x.1 ≤ 1114111) → (¬ c → y.1 ≤ 1114111) → (if c then x else y).1 ≤ 1114111 := by
      intro c _ x y hx hy
      by_cases hc : c
      · rw [if_pos hc]; exact hx hc
      · rw [if_neg hc]; exact hy hc
    have hc := size_class (bt l 0)
    have hs := size_cases (bt l 0)
    have s := @sec_iff (bt l 0) (bt l 1)
    have hl := lo_hi_at (bt l 0)
    have c2 := @cont_iff (bt l 2)
    have c3 := @cont_iff (bt l 3)
    unfold nextN
    rw [if_neg hn]
    by_cases a0 : size1 (bt l 0) = 0
    · rw [if_pos a0]; decide
    · rw [if_neg a0]
      by_cases a1 : size1 (bt l 0) = 1
      · rw [if_pos a1]; show bt l 0 ≤ 1114111; omega
      · rw [if_neg a1]
        refine ite_le (fun _ => by decide) (fun _ => ite_le (fun _ => by decide) (fun h1 => ite_le (fun h2 => ?_) (fun h2 => ite_le (fun _ => by decide) (fun _ => ite_le (fun _ => by decide) (fun h3 => ite_le (fun h4 => ?_) (fun h4 => ite_le (fun _ => by decide) (fun _ => ite_le (fun _ => by decide) (fun h5 => ?_))))))))
        · show bt l 0 % 32 * 64 + (bt l 1 - 128) ≤ 1114111
          have := bt_lt l 1; omega
        · show bt l 0 % 16 * 4096 + (bt l 1 - 128) * 64 + (bt l 2 - 128) ≤ 1114111
          have := bt_lt l 1; have := bt_lt l 2; omega
        · show bt l 0 % 8 * 262144 + (bt l 1 - 128) * 4096 + (bt l 2 - 128) * 64 + (bt l 3 - 128) ≤ 1114111
          have k1 := s.1.1 (by simpa using h1)
          have k2 := c2.1.1 (by simpa using h3)
          have k3 := c3.1.1 (by simpa using h5)
          have k4 : 240 ≤ bt l 0 ∧ bt l 0 ≤ 244 := hc.2.2.2.1 (by omega)
          by_cases e : bt l 0 = 244
          · have := hl.2.2.2.2.2 e; rw [e]; omega
          · have : hi2 (bt l 0) = 191 := hl.2.2.2.1 (by omega) e
            omega
theorem headC_bd (l : List UInt8) : 0 ≤ headC l ∧ headC l ≤ 1114111 := by
  unfold headC
  have := @next_small l
  split <;> omega

/-- a replaced one has three bytes; any has at most four, and no more than it came of but for a replaced one -/
theorem enc_le (c : Int) (h0 : 0 ≤ c) : (enc c).length ≤ 4 := (enc_length c).2

end Go.Proofs.YtbflcikfaoojmaaDoor.UtfP

/- A character's bytes are that character; a text's characters may be; plain. -/
set_option linter.unusedVariables false
namespace Go.Proofs.YtbflcikfaoojmaaDoor.UtfP
open Go.Lib

theorem u8_of {z : Int} (h0 : 0 ≤ z) (h1 : z < 256) : ((z.toNat.toUInt8).toNat : Int) = z := by
  have : z.toNat.toUInt8.toNat = z.toNat % 256 := by simp
  rw [this]; omega
theorem enc_eq {c : Int} {zs : List Int} (h : encodeRuneZ c = zs) : enc c = zs.map fun x => x.toNat.toUInt8 := by
  unfold enc encodeRune; rw [h]

theorem next_enc {c : Int} (m : List UInt8) (h : fineC c = true) : next (enc c ++ m) = (c.toNat, (enc c).length, 0) := by
  have hc := fineC_iff.1.1 h
  have hs := @size_class
  have sg : ∀ {z : Int} {n : Nat}, ((z.toNat.toUInt8).toNat : Int) = z → (n : Int) = z → z.toNat.toUInt8.toNat = n := by intro z n h1 h2; omega
  by_cases h1 : c < 128
  · have e := enc_eq (c := c) (zs := [c]) (by unfold encodeRuneZ; rw [if_pos (by omega)])
    rw [e]
    have b0 := u8_of (z := c) (by omega) (by omega)
    unfold next
    have q0 : bt (([c].map fun x : Int => x.toNat.toUInt8) ++ m) 0 = c.toNat := by show c.toNat.toUInt8.toNat = _; omega
    rw [q0]
    unfold nextN
    have z := (hs c.toNat).1.2 (by omega)
    rw [if_neg (by simp), if_neg (by omega), if_pos z]
    rfl
  · by_cases h2 : c < 2048
    · have e := enc_eq (c := c) (zs := [192 + c / 64, 128 + c % 64]) (by unfold encodeRuneZ; rw [if_neg (by omega), if_pos (by omega)])
      rw [e]
      have b0 := u8_of (z := 192 + c / 64) (by omega) (by omega)
      have b1 := u8_of (z := 128 + c % 64) (by omega) (by omega)
      unfold next
      have q0 : bt (([192 + c / 64, 128 + c % 64].map fun x : Int => x.toNat.toUInt8) ++ m) 0 = (192 + c / 64).toNat := by show (192 + c / 64).toNat.toUInt8.toNat = _; omega
      have q1 : bt (([192 + c / 64, 128 + c % 64].map fun x : Int => x.toNat.toUInt8) ++ m) 1 = (128 + c % 64).toNat := by show (128 + c % 64).toNat.toUInt8.toNat = _; omega
      rw [q0, q1]
      have z : size1 (192 + c / 64).toNat = 2 := (hs _).2.1.2 (by omega)
      have s : sec (192 + c / 64).toNat (128 + c % 64).toNat = true := by
        refine sec_iff.1.2 ?_
        have := lo_hi_at (192 + c / 64).toNat
        have a1 := this.1 (by omega) (by omega)
        have a2 := this.2.2.2.1 (by omega) (by omega)
        omega
      unfold nextN
      rw [if_neg (by simp), if_neg (by omega), if_neg (by omega), if_neg (by simp), s, if_neg (by simp), if_pos z]
      refine Prod.ext ?_ rfl
      show (192 + c / 64).toNat % 32 * 64 + ((128 + c % 64).toNat - 128) = c.toNat
      omega
    · by_cases h3 : c < 65536
      · have e := enc_eq (c := c) (zs := [224 + c / 4096, 128 + c / 64 % 64, 128 + c % 64]) (by unfold encodeRuneZ; rw [if_neg (by omega), if_neg (by omega), if_pos (by omega)])
        rw [e]
        have b0 := u8_of (z := 224 + c / 4096) (by omega) (by omega)
        have b1 := u8_of (z := 128 + c / 64 % 64) (by omega) (by omega)
        have b2 := u8_of (z := 128 + c % 64) (by omega) (by omega)
        unfold next
        have q0 : bt (([224 + c / 4096, 128 + c / 64 % 64, 128 + c % 64].map fun x : Int => x.toNat.toUInt8) ++ m) 0 = (224 + c / 4096).toNat := by show (224 + c / 4096).toNat.toUInt8.toNat = _; omega
        have q1 : bt (([224 + c / 4096, 128 + c / 64 % 64, 128 + c % 64].map fun x : Int => x.toNat.toUInt8) ++ m) 1 = (128 + c / 64 % 64).toNat := by show (128 + c / 64 % 64).toNat.toUInt8.toNat = _; omega
        have q2 : bt (([224 + c / 4096, 128 + c / 64 % 64, 128 + c % 64].map fun x : Int => x.toNat.toUInt8) ++ m) 2 = (128 + c % 64).toNat := by show (128 + c % 64).toNat.toUInt8.toNat = _; omega
        rw [q0, q1, q2]
        have z : size1 (224 + c / 4096).toNat = 3 := (hs _).2.2.1.2 (by omega)
        have s : sec (224 + c / 4096).toNat (128 + c / 64 % 64).toNat = true := by
          refine sec_iff.1.2 ?_
          have := lo_hi_at (224 + c / 4096).toNat
          by_cases k1 : (224 + c / 4096).toNat = 224
          · have a1 := this.2.1 k1
            have a2 := this.2.2.2.1 (by omega) (by omega)
            omega
          · have a1 := this.1 k1 (by omega)
            by_cases k2 : (224 + c / 4096).toNat = 237
            · have a2 := this.2.2.2.2.1 k2
              omega
            · have a2 := this.2.2.2.1 k2 (by omega)
              omega
        have s2 : cont (128 + c % 64).toNat = true := cont_iff.1.2 (by omega)
        unfold nextN
        rw [if_neg (by simp), if_neg (by omega), if_neg (by omega), if_neg (by simp), s, if_neg (by simp), if_neg (by omega), if_neg (by simp), s2, if_neg (by simp), if_pos z]
        refine Prod.ext ?_ rfl
        show (224 + c / 4096).toNat % 16 * 4096 + ((128 + c / 64 % 64).toNat - 128) * 64 + ((128 + c % 64).toNat - 128) = c.toNat
        omega
      · have e := enc_eq (c := c) (zs := [240 + c / 262144, 128 + c / 4096 % 64, 128 + c / 64 % 64, 128 + c % 64]) (by unfold encodeRuneZ; rw [if_neg (by omega), if_neg (by omega), if_neg (by omega), if_pos (by omega)])
        rw [e]
        have b0 := u8_of (z := 240 + c / 262144) (by omega) (by omega)
        have b1 := u8_of (z := 128 + c / 4096 % 64) (by omega) (by omega)
        have b2 := u8_of (z := 128 + c / 64 % 64) (by omega) (by omega)
        have b3 := u8_of (z := 128 + c % 64) (by omega) (by omega)
        unfold next
        have q0 : bt (([240 + c / 262144, 128 + c / 4096 % 64, 128 + c / 64 % 64, 128 + c % 64].map fun x : Int => x.toNat.toUInt8) ++ m) 0 = (240 + c / 262144).toNat := by show (240 + c / 262144).toNat.toUInt8.toNat = _; omega
        have q1 : bt (([240 + c / 262144, 128 + c / 4096 % 64, 128 + c / 64 % 64, 128 + c % 64].map fun x : Int => x.toNat.toUInt8) ++ m) 1 = (128 + c / 4096 % 64).toNat := by show (128 + c / 4096 % 64).toNat.toUInt8.toNat = _; omega
        have q2 : bt (([240 + c / 262144, 128 + c / 4096 % 64, 128 + c / 64 % 64, 128 + c % 64].map fun x : Int => x.toNat.toUInt8) ++ m) 2 = (128 + c / 64 % 64).toNat := by show (128 + c / 64 % 64).toNat.toUInt8.toNat = _; omega
        have q3 : bt (([240 + c / 262144, 128 + c / 4096 % 64, 128 + c / 64 % 64, 128 + c % 64].map fun x : Int => x.toNat.toUInt8) ++ m) 3 = (128 + c % 64).toNat := by show (128 + c % 64).toNat.toUInt8.toNat = _; omega
        rw [q0, q1, q2, q3]
        have z : size1 (240 + c / 262144).toNat = 4 := (hs _).2.2.2.2 (by omega)
        have s : sec (240 + c / 262144).toNat (128 + c / 4096 % 64).toNat = true := by
          refine sec_iff.1.2 ?_
          have := lo_hi_at (240 + c / 262144).toNat
          by_cases k1 : (240 + c / 262144).toNat = 240
          · have a1 := this.2.2.1 k1
            have a2 := this.2.2.2.1 (by omega) (by omega)
            omega
          · have a1 := this.1 (by omega) k1
            by_cases k2 : (240 + c / 262144).toNat = 244
            · have a2 := this.2.2.2.2.2 k2
              omega
            · have a2 := this.2.2.2.1 (by omega) k2
              omega
        have s2 : cont (128 + c / 64 % 64).toNat = true := cont_iff.1.2 (by omega)
        have s3 : cont (128 + c % 64).toNat = true := cont_iff.1.2 (by omega)
        unfold nextN
        rw [if_neg (by simp), if_neg (by omega), if_neg (by omega), if_neg (by simp), s, if_neg (by simp), if_neg (by omega), if_neg (by simp), s2, if_neg (by simp), if_neg (by omega), if_neg (by simp), s3, if_neg (by simp)]
        refine Prod.ext ?_ rfl
        show (240 + c / 262144).toNat % 8 * 262144 + ((128 + c / 4096 % 64).toNat - 128) * 4096 + ((128 + c / 64 % 64).toNat - 128) * 64 + ((128 + c % 64).toNat - 128) = c.toNat
        omega

theorem enc_ne (c : Int) : enc c ≠ [] := fun h => by have := (enc_length c).1; rw [h] at this; simp at this
theorem headC_enc {c : Int} (m : List UInt8) (h : fineC c = true) : headC (enc c ++ m) = c := by
  unfold headC
  rw [next_enc m h]
  have := (fineC_iff.1.1 h).1
  simp; omega
theorem chars_enc {c : Int} (m : List UInt8) (h : fineC c = true) : chars (enc c ++ m) = c :: chars m := by
  rw [chars_cons (by simp [enc_ne]), headC_enc m h, next_enc m h]
  simp
theorem chars_encs (m : List UInt8) : ∀ (cs : List Int), (∀ c ∈ cs, fineC c = true) → chars (cs.flatMap enc ++ m) = cs ++ chars m
  | [], _ => rfl
  | c :: cs, h => by
    rw [List.flatMap_cons, List.append_assoc, chars_enc _ (h c (by simp)), chars_encs m cs (fun x hx => h x (by simp [hx]))]
    rfl

theorem next_fineC {l : List UInt8} (he : (next l).2.2 = 0) : fineC ((next l).1 : Int) = true := by
  revert he
  refine (?_ : (fun r : Nat × Nat × Nat => r.2.2 = 0 → fineC (r.1 : Int) = true) (next l))
  have hk : ∀ {c : Prop} [Decidable c] {x y : Nat × Nat × Nat}, (c → (x.2.2 = 0 → fineC (x.1 : Int) = true)) → (¬ c → (y.2.2 = 0 → fineC (y.1 : Int) = true)) → ((if c then x else y).2.2 = 0 → fineC ((if c then x else y).1 : Int) = true) := by
    intro c _ x y hx hy
    by_cases hc : c
    · rw [if_pos hc]; exact hx hc
    · rw [if_neg hc]; exact hy hc
  have hc := size_class (bt l 0)
  have hs := size_cases (bt l 0)
  have s := @sec_iff (bt l 0) (bt l 1)
  have hl := lo_hi_at (bt l 0)
  have hlh := lo_hi (bt l 0)
  have c2 := @cont_iff (bt l 2)
  have c3 := @cont_iff (bt l 3)
  unfold next nextN
  refine hk (fun _ h => absurd h (by decide)) (fun _ => hk (fun _ h => absurd (show (8 : Nat) = 0 from h) (by decide)) (fun a0 => hk (fun a1 _ => ?_) (fun a1 => hk (fun _ h => absurd (show (7 : Nat) = 0 from h) (by decide)) (fun _ => hk (fun _ h => absurd (show (8 : Nat) = 0 from h) (by decide)) (fun s1 => hk (fun a2 _ => ?_) (fun a2 => hk (fun _ h => absurd (show (7 : Nat) = 0 from h) (by decide)) (fun _ => hk (fun _ h => absurd (show (8 : Nat) = 0 from h) (by decide)) (fun s2 => hk (fun a3 _ => ?_) (fun a3 => hk (fun _ h => absurd (show (7 : Nat) = 0 from h) (by decide)) (fun _ => hk (fun _ h => absurd (show (8 : Nat) = 0 from h) (by decide)) (fun s3 _ => ?_)))))))))))
  · refine fineC_iff.1.2 ?_
    show 0 ≤ ((bt l 0 : Nat) : Int) ∧ _
    have := hc.1.1 a1
    omega
  · refine fineC_iff.1.2 ?_
    show 0 ≤ ((bt l 0 % 32 * 64 + (bt l 1 - 128) : Nat) : Int) ∧ _
    have k1 := s.1.1 (by simpa using s1)
    omega
  · refine fineC_iff.1.2 ?_
    show 0 ≤ ((bt l 0 % 16 * 4096 + (bt l 1 - 128) * 64 + (bt l 2 - 128) : Nat) : Int) ∧ _
    have k1 := s.1.1 (by simpa using s1)
    have k2 := c2.1.1 (by simpa using s2)
    have k4 := hc.2.2.1.1 a3
    by_cases e : bt l 0 = 237
    · have := hl.2.2.2.2.1 e
      omega
    · omega
  · refine fineC_iff.1.2 ?_
    show 0 ≤ ((bt l 0 % 8 * 262144 + (bt l 1 - 128) * 4096 + (bt l 2 - 128) * 64 + (bt l 3 - 128) : Nat) : Int) ∧ _
    have k1 := s.1.1 (by simpa using s1)
    have k2 := c2.1.1 (by simpa using s2)
    have k3 := c3.1.1 (by simpa using s3)
    have k4 : 240 ≤ bt l 0 ∧ bt l 0 ≤ 244 := hc.2.2.2.1 (by omega)
    by_cases e : bt l 0 = 244
    · have := hl.2.2.2.2.2 e
      rw [e]; omega
    · by_cases e' : bt l 0 = 240
      · have := hl.2.2.1 e'
        rw [e']; omega
      · omega
theorem headC_fine (l : List UInt8) : fineC (headC l) = true := by
  unfold headC
  by_cases h : (next l).2.2 = 0
  · rw [if_pos h]; exact next_fineC h
  · rw [if_neg h]; decide
theorem chars_fine (l : List UInt8) : ∀ c ∈ chars l, fineC c = true := by
  have : ∀ (n : Nat) (l : List UInt8), l.length ≤ n → ∀ c ∈ chars l, fineC c = true := by
    intro n
    induction n with
    | zero => intro l h c hc; rw [List.eq_nil_of_length_eq_zero (by omega : l.length = 0)] at hc; cases hc
    | succ n ih =>
      intro l h c hc
      by_cases hl : l = []
      · subst hl; cases hc
      · rw [chars_cons hl] at hc
        obtain ⟨f1, f2, _⟩ := next_facts hl
        rcases List.mem_cons.1 hc with rfl | hc
        · exact headC_fine l
        · exact ih _ (by rw [List.length_drop]; omega) c hc
  exact this l.length l (Nat.le_refl _)
theorem chars_text_append (l m : List UInt8) : chars (text l ++ m) = chars l ++ chars m := chars_encs m _ (chars_fine l)
theorem chars_text (l : List UInt8) : chars (text l) = chars l := by
  have := chars_text_append l []
  rwa [List.append_nil, chars_nil, List.append_nil] at this
theorem text_text (l : List UInt8) : text (text l) = text l := by unfold text; rw [show chars (List.flatMap enc (chars l)) = chars l from chars_text l]
theorem text_append (l m : List UInt8) : text (text l ++ m) = text l ++ text m := by
  unfold text
  rw [show chars (List.flatMap enc (chars l) ++ m) = chars l ++ chars m from chars_text_append l m, List.flatMap_append]

end Go.Proofs.YtbflcikfaoojmaaDoor.UtfP

/- The bytes of the next character are its encoding. -/
set_option linter.unusedVariables false
namespace Go.Proofs.YtbflcikfaoojmaaDoor.Edit
open Go.Lib UtfP

theorem bt_enc {c : Int} {zs : List Int} (h : encodeRuneZ c = zs) (hb : ∀ z ∈ zs, 0 ≤ z ∧ z < 256) (i : Nat) (z : Int) (hz : zs[i]? = some z) : (bt (enc c) i : Int) = z := by
  rw [enc_eq h]
  unfold bt
  rw [List.getD_eq_getElem?_getD, List.getElem?_map, hz]
  simp only [Option.map_some, Option.getD_some]
  have hb' := hb z (List.mem_of_getElem? hz)
  exact u8_of hb'.1 hb'.2

theorem take_of_bt (l m : List UInt8) (k : Nat) (hk : k ≤ l.length) (hm : m.length = k) (h : ∀ i, i < k → bt m i = bt l i) : m = l.take k := by
  apply List.ext_getElem
  · rw [List.length_take]; omega
  · intro i h1 h2
    have := h i (by omega)
    unfold bt at this
    rw [List.getD_eq_getElem?_getD, List.getD_eq_getElem?_getD, List.getElem?_eq_getElem h1, List.getElem?_eq_getElem (by omega)] at this
    simp only [Option.getD_some] at this
    rw [List.getElem_take]
    exact UInt8.toNat_inj.1 this

theorem enc_next {l : List UInt8} (he : (next l).2.2 = 0) : (enc ((next l).1 : Int)).length = (next l).2.1 ∧ ∀ i, i < (next l).2.1 → bt (enc ((next l).1 : Int)) i = bt l i := by
  revert he
  refine (?_ : (fun r : Nat × Nat × Nat => r.2.2 = 0 → (enc (r.1 : Int)).length = r.2.1 ∧ ∀ i, i < r.2.1 → bt (enc (r.1 : Int)) i = bt l i) (next l))
  have hk : ∀ {c : Prop} [Decidable c] {x y : Nat × Nat × Nat}, (c → (x.2.2 = 0 → (enc (x.1 : Int)).length = x.2.1 ∧ ∀ i, i < x.2.1 → bt (enc (x.1 : Int)) i = bt l i)) → (¬ c → (y.2.2 = 0 → (enc (y.1 : Int)).length = y.2.1 ∧ ∀ i, i < y.2.1 → bt (enc (y.1 : Int)) i = bt l i)) → ((if c then x else y).2.2 = 0 → (enc ((if c then x else y).1 : Int)).length = (if c then x else y).2.1 ∧ ∀ i, i < (if c then x else y).2.1 → bt (enc ((if c then x else y).1 : Int)) i = bt l i) := by
    intro c _ x y hx hy
    by_cases hc : c
    · rw [if_pos hc]; exact hx hc
    · rw [if_neg hc]; exact hy hc
  have hc := size_class (bt l 0)
  have hs := size_cases (bt l 0)
  have s := @sec_iff (bt l 0) (bt l 1)
  have hl := lo_hi_at (bt l 0)
  have hlh := lo_hi (bt l 0)
  have c2 := @cont_iff (bt l 2)
  have c3 := @cont_iff (bt l 3)
  have fin : ∀ (c : Nat) (zs : List Int) (k : Nat), encodeRuneZ (c : Int) = zs → zs.length = k → (∀ z ∈ zs, 0 ≤ z ∧ z < 256) → (∀ (i : Nat) (z : Int), zs[i]? = some z → z = (bt l i : Int)) → (enc (c : Int)).length = k ∧ ∀ i, i < k → bt (enc (c : Int)) i = bt l i := by
    intro c zs k hz hk hb hbt
    refine ⟨by rw [enc_eq hz, List.length_map, hk], fun i hi => ?_⟩
    have h1 := bt_enc hz hb i zs[i] (List.getElem?_eq_getElem (by omega))
    have h2 := hbt i zs[i] (List.getElem?_eq_getElem (by omega))
    omega
  unfold next nextN
  refine hk (fun _ h => absurd h (by decide)) (fun _ => hk (fun _ h => absurd (show (8 : Nat) = 0 from h) (by decide)) (fun a0 => hk (fun a1 _ => ?_) (fun a1 => hk (fun _ h => absurd (show (7 : Nat) = 0 from h) (by decide)) (fun _ => hk (fun _ h => absurd (show (8 : Nat) = 0 from h) (by decide)) (fun s1 => hk (fun a2 _ => ?_) (fun a2 => hk (fun _ h => absurd (show (7 : Nat) = 0 from h) (by decide)) (fun _ => hk (fun _ h => absurd (show (8 : Nat) = 0 from h) (by decide)) (fun s2 => hk (fun a3 _ => ?_) (fun a3 => hk (fun _ h => absurd (show (7 : Nat) = 0 from h) (by decide)) (fun _ => hk (fun _ h => absurd (show (8 : Nat) = 0 from h) (by decide)) (fun s3 _ => ?_)))))))))))
  · have := hc.1.1 a1
    refine fin (bt l 0) [(bt l 0 : Int)] 1 (encodeRuneZ_one (by omega) (by omega)) rfl (by simp; omega) ?_
    intro i z hz
    rcases i with _ | i
    · simp at hz; omega
    · simp at hz
  · have k1 := s.1.1 (by simpa using s1)
    have k4 := hc.2.1.1 a2
    have b1 := bt_lt l 1
    refine fin (bt l 0 % 32 * 64 + (bt l 1 - 128)) _ 2 (encodeRuneZ_two (by omega) (by omega)) rfl (by simp; omega) ?_
    intro i z hz
    rcases i with _ | _ | i
    · simp at hz; show z = ((bt l 0 : Nat) : Int); omega
    · simp at hz; show z = ((bt l 1 : Nat) : Int); omega
    · simp at hz
  · have k1 := s.1.1 (by simpa using s1)
    have k2 := c2.1.1 (by simpa using s2)
    have k4 := hc.2.2.1.1 a3
    have hr : (2048 ≤ ((bt l 0 % 16 * 4096 + (bt l 1 - 128) * 64 + (bt l 2 - 128) : Nat) : Int) ∧ ((bt l 0 % 16 * 4096 + (bt l 1 - 128) * 64 + (bt l 2 - 128) : Nat) : Int) < 55296) ∨ (57343 < ((bt l 0 % 16 * 4096 + (bt l 1 - 128) * 64 + (bt l 2 - 128) : Nat) : Int) ∧ ((bt l 0 % 16 * 4096 + (bt l 1 - 128) * 64 + (bt l 2 - 128) : Nat) : Int) ≤ 65535) := by
      by_cases e : bt l 0 = 237
      · have := hl.2.2.2.2.1 e
        omega
      · by_cases e' : bt l 0 = 224
        · have := hl.2.1 e'
          omega
        · omega
    refine fin (bt l 0 % 16 * 4096 + (bt l 1 - 128) * 64 + (bt l 2 - 128)) _ 3 (encodeRuneZ_three hr) rfl (by simp; omega) ?_
    intro i z hz
    rcases i with _ | _ | _ | i
    · simp at hz; show z = ((bt l 0 : Nat) : Int); omega
    · simp at hz; show z = ((bt l 1 : Nat) : Int); omega
    · simp at hz; show z = ((bt l 2 : Nat) : Int); omega
    · simp at hz
  · have k1 := s.1.1 (by simpa using s1)
    have k2 := c2.1.1 (by simpa using s2)
    have k3 := c3.1.1 (by simpa using s3)
    have k4 : 240 ≤ bt l 0 ∧ bt l 0 ≤ 244 := hc.2.2.2.1 (by omega)
    have hr : 65536 ≤ ((bt l 0 % 8 * 262144 + (bt l 1 - 128) * 4096 + (bt l 2 - 128) * 64 + (bt l 3 - 128) : Nat) : Int) ∧ ((bt l 0 % 8 * 262144 + (bt l 1 - 128) * 4096 + (bt l 2 - 128) * 64 + (bt l 3 - 128) : Nat) : Int) ≤ 1114111 := by
      by_cases e : bt l 0 = 244
      · have := hl.2.2.2.2.2 e
        omega
      · by_cases e' : bt l 0 = 240
        · have := hl.2.2.1 e'
          omega
        · omega
    refine fin (bt l 0 % 8 * 262144 + (bt l 1 - 128) * 4096 + (bt l 2 - 128) * 64 + (bt l 3 - 128)) _ 4 (encodeRuneZ_four hr.1 hr.2) rfl (by simp; omega) ?_
    intro i z hz
    rcases i with _ | _ | _ | _ | i
    · simp at hz; show z = ((bt l 0 : Nat) : Int); omega
    · simp at hz; show z = ((bt l 1 : Nat) : Int); omega
    · simp at hz; show z = ((bt l 2 : Nat) : Int); omega
    · simp at hz; show z = ((bt l 3 : Nat) : Int); omega
    · simp at hz

end Go.Proofs.YtbflcikfaoojmaaDoor.Edit

/- A plan's bytes turned: plain. -/
set_option linter.unusedVariables false
set_option linter.unusedSimpArgs false
namespace Go.Proofs.YtbflcikfaoojmaaDoor.Edit
open Go.RowKit Go.Lib Go.Shelf ChangeShapes Mem Utf UtfP

theorem turnE_print {c : Int} (z : Int) (h : printC c = true) : printC (turnE c z) = true ∧ (enc (turnE c z)).length = (enc c).length := by
  have hc := printC_iff.1 h
  have key : ∀ r : Int, ((32 ≤ r ∧ r ≤ 126 ∧ c ≤ 126) ∨ (160 ≤ r ∧ r ≤ 2047 ∧ 160 ≤ c ∧ c ≤ 2047) ∨ (2048 ≤ r ∧ r ≤ 65535 ∧ ¬ (55296 ≤ r ∧ r ≤ 57343) ∧ 2048 ≤ c ∧ c ≤ 65535) ∨ (65536 ≤ r ∧ r ≤ 1114111 ∧ 65536 ≤ c)) → printC r = true ∧ (enc r).length = (enc c).length := by
    intro r hr
    have hp : printC r = true := printC_iff.2 (by omega)
    refine ⟨hp, ?_⟩
    have e1 := enc_len r (printC_fine hp)
    have e2 := enc_len c (printC_fine h)
    have : ((enc r).length : Int) = ((enc c).length : Int) := by
      rw [e1, e2]
      (repeat' split) <;> omega
    omega
  apply key
  unfold turnE
  have b0 := rowE_bd 32 95 c z (by decide)
  have b1 := rowE_bd 160 1888 c z (by decide)
  have b2 := rowE_bd 65536 1048576 c z (by decide)
  have b3 := rowE_bd 2048 61440 (if 55296 < c then c - 2048 else c) z (by decide)
  generalize rowE 32 95 c z = r0 at *
  generalize rowE 160 1888 c z = r1 at *
  generalize rowE 65536 1048576 c z = r2 at *
  generalize rowE 2048 61440 (if 55296 < c then c - 2048 else c) z = r3 at *
  (repeat' split) <;> omega

/-- one character set in bytes -/
def stepE (z : Int) (b : List UInt8) (x : Nat × Int) : List UInt8 := splice b x.1 ((enc (turnE x.2 z)).take (b.length - x.1))
theorem stepE_len (z : Int) (b : List UInt8) (x : Nat × Int) (h : x.1 ≤ b.length) : (stepE z b x).length = b.length := by
  unfold stepE splice
  simp only [List.length_append, List.length_take, List.length_drop]
  omega
/-- one character's part, turned -/
def plC (z : Int) (l : List UInt8) (r : Nat × Nat × Nat) (br : Bool) : List UInt8 := if r.2.2 = 0 ∧ printC (r.1 : Int) = true ∧ (1 < r.2.1 ∨ br = false) then enc (turnE (r.1 : Int) z) else l.take r.2.1
/-- bytes turned, part by part -/
def plF (z : Int) : Nat → Bool → List UInt8 → List UInt8
  | 0, _, l => l
  | k + 1, br, l =>
    if l = [] then [] else
    if bt l 0 = 27 then
      if (seqN l).2.2 ≠ 0 then l else l.take (seqN l).2.1 ++ plF z k (begE (l.take (seqN l).2.1)) (l.drop (seqN l).2.1)
    else plC z l (next l) br ++ plF z k false (l.drop (next l).2.1)
def planE (z : Int) (b : List UInt8) : List UInt8 := plF z b.length false b

theorem plC_len (z : Int) (l : List UInt8) (br : Bool) (h : l ≠ []) : (plC z l (next l) br).length = (next l).2.1 := by
  have hf := next_facts h
  unfold plC
  split
  · rename_i hh
    rw [(turnE_print z hh.2.1).2, (enc_next hh.1).1]
  · rw [List.length_take]
    have := hf.2.1
    omega
theorem plF_len (z : Int) : ∀ (k : Nat) (br : Bool) (l : List UInt8), (plF z k br l).length = l.length := by
  intro k
  induction k with
  | zero => intro br l; rfl
  | succ k ih =>
    intro br l
    unfold plF
    split
    · rename_i h; rw [h]
    · rename_i h
      split
      · split
        · rfl
        · have := tw_seqN_le l
          rw [List.length_append, ih, List.length_take, List.length_drop]
          omega
      · have := (next_facts h).2.1
        rw [List.length_append, ih, plC_len z l br h, List.length_drop]
        omega
theorem planE_len (z : Int) (b : List UInt8) : (planE z b).length = b.length := plF_len _ _ _ _

theorem plan_fold (z : Int) (b : List UInt8) : ∀ (k i : Nat) (br : Bool) (Q : List UInt8), Q.length = i → i ≤ b.length → (secF b k i br).foldl (stepE z) (Q ++ b.drop i) = Q ++ plF z k br (b.drop i) := by
  intro k
  induction k with
  | zero => intro i br Q _ _; rfl
  | succ k ih =>
    intro i br Q hQ hi
    unfold secF plF
    by_cases hlt : b.length ≤ i
    · rw [if_pos hlt, if_pos (List.drop_eq_nil_of_le hlt), List.drop_eq_nil_of_le hlt]
      rfl
    · have hne : b.drop i ≠ [] := by intro e; have := congrArg List.length e; rw [List.length_drop] at this; simp at this; omega
      have hdl : (b.drop i).length = b.length - i := List.length_drop
      rw [if_neg hlt, if_neg hne]
      by_cases h27 : bt (b.drop i) 0 = 27
      · rw [if_pos h27, if_pos h27]
        by_cases her : (seqN (b.drop i)).2.2 ≠ 0
        · rw [if_pos her, if_pos her]; rfl
        · rw [if_neg her, if_neg her]
          have hle := tw_seqN_le (b.drop i)
          generalize hn : (seqN (b.drop i)).2.1 = n at *
          have e : Q ++ b.drop i = (Q ++ (b.drop i).take n) ++ b.drop (i + n) := by
            rw [List.append_assoc, ← List.drop_drop, List.take_append_drop]
          rw [e, ih (i + n) _ (Q ++ (b.drop i).take n) (by rw [List.length_append, List.length_take]; omega) (by omega), List.append_assoc, List.drop_drop]
      · rw [if_neg h27, if_neg h27, List.foldl_append]
        have hf := next_facts hne
        have hfl := hf.2.1
        unfold secC plC
        by_cases hc : (next (b.drop i)).2.2 = 0 ∧ printC ((next (b.drop i)).1 : Int) = true ∧ (1 < (next (b.drop i)).2.1 ∨ br = false)
        · rw [if_pos hc, if_pos hc]
          have hlen : (enc (turnE ((next (b.drop i)).1 : Int) z)).length = (next (b.drop i)).2.1 := by rw [(turnE_print z hc.2.1).2, (enc_next hc.1).1]
          obtain ⟨c, hcc⟩ : ∃ c : Int, ((next (b.drop i)).1 : Int) = c := ⟨_, rfl⟩
          obtain ⟨n, hn⟩ : ∃ n, (next (b.drop i)).2.1 = n := ⟨_, rfl⟩
          obtain ⟨E, hE⟩ : ∃ E, enc (turnE c z) = E := ⟨_, rfl⟩
          rw [hcc, hn, hE] at hlen
          rw [hn] at hfl
          rw [hcc, hn, hE]
          have hst : stepE z (Q ++ b.drop i) (i, c) = (Q ++ E) ++ b.drop (i + n) := by
            unfold stepE splice
            simp only [hE]
            rw [List.length_append, hQ, hdl, show i + (b.length - i) - i = b.length - i by omega, List.take_of_length_le (show E.length ≤ b.length - i by omega), hlen, ← List.append_assoc]
            congr 1
            · rw [← hQ, List.take_left]
            · rw [← List.drop_drop, ← hQ, List.drop_left, List.drop_drop]
          show (secF b k (i + n) false).foldl (stepE z) (stepE z (Q ++ b.drop i) (i, c)) = _
          rw [hst, ih (i + n) _ (Q ++ E) (by rw [List.length_append]; omega) (by omega), List.append_assoc, List.drop_drop]
        · rw [if_neg hc, if_neg hc]
          generalize hn : (next (b.drop i)).2.1 = n at *
          have e : Q ++ b.drop i = (Q ++ (b.drop i).take n) ++ b.drop (i + n) := by
            rw [List.append_assoc, ← List.drop_drop, List.take_append_drop]
          show (secF b k (i + n) false).foldl (stepE z) (Q ++ b.drop i) = _
          rw [e, ih (i + n) _ (Q ++ (b.drop i).take n) (by rw [List.length_append, List.length_take]; omega) (by omega), List.append_assoc, List.drop_drop]

theorem planE_fold (z : Int) (b : List UInt8) : (secE b).foldl (stepE z) b = planE z b := by
  have := plan_fold z b b.length 0 false [] rfl (Nat.zero_le _)
  simpa [secE, planE] using this

end Go.Proofs.YtbflcikfaoojmaaDoor.Edit

/- A copy into a row of one's own, within a fence. -/
set_option linter.unusedVariables false
set_option linter.unusedSimpArgs false
namespace Go.Proofs.YtbflcikfaoojmaaDoor.Edit
open Go.RowKit Go.Lib Go.Shelf ChangeShapes Mem Utf UtfP

theorem keepsFrom_below {B : Nat} {W W' : World} (h : Below W.heap.size W W') : KeepsFrom B W W' :=
  ⟨h.size, fun k o _ hk _ => (h.block k (Array.getElem?_eq_some_iff.1 hk).1).trans hk⟩
theorem keepsFrom_but {B g : Nat} {W W' : World} {cs : Array Value} {t : TypeId} (hg : Blk W g cs t) (h : But [g] W W') : KeepsFrom B W W' :=
  ⟨h.size, fun k o _ hk ho => (h.block k (Array.getElem?_eq_some_iff.1 hk).1 (by
    intro hm
    rw [List.mem_singleton] at hm
    subst hm
    rw [show W.heap[k]? = _ from hg] at hk
    cases hk
    cases ho)).trans hk⟩

theorem ownB_row {w : World} {B g cap : Nat} {n : Nat} {l : List UInt8} (h : OwnB w B (.slice (some ⟨g, 0, none⟩) n cap) l) : n = l.length ∧ B ≤ g ∧ ∃ cur, Blk w g cur 5 ∧ l.length ≤ cap ∧ cap ≤ maxLen ∧ cur.size = cap ∧ cur.toList.take l.length = cellsU l := by
  rcases h.2 with ⟨h, _⟩ | ⟨g', cap', cur, hv, hB, hg, hn, hm, hsz, htake⟩
  · cases h
  · cases hv
    exact ⟨rfl, hB, cur, hg, hn, hm, by omega, by rw [Nat.mul_one] at htake; exact htake⟩

theorem splice_take {α : Type} (L : List α) (n i : Nat) (x : List α) (h : i + x.length ≤ n) (hn : n ≤ L.length) : (splice L i x).take n = splice (L.take n) i x := by
  unfold splice
  rw [List.take_append, List.take_append, List.length_take, List.drop_take, List.take_of_length_le (l := x) (by omega)]
  congr 1
  · rw [List.take_take, List.take_take, Nat.min_comm]
  · congr 2
    omega

theorem ownB_copy {w : World} {B g cap : Nat} {t x : List UInt8} (i : Nat) (h : OwnB w B (.slice (some ⟨g, 0, none⟩) t.length cap) t) (hi : i + x.length ≤ t.length) :
    OwnB (w.setCells g i (cellsB x)) B (.slice (some ⟨g, 0, none⟩) t.length cap) (splice t i x) ∧ But [g] w (w.setCells g i (cellsB x)) ∧ (∀ j, j < (cellsB x).length → (w.cell? ⟨g, i + j, none⟩).isSome = true) ∧ (∀ j, j < (cellsB x).length → w.frozen? ⟨g, i + j, none⟩ = false) := by
  obtain ⟨_, hB, cur, hg, hn, hm, hsz, htake⟩ := ownB_row h
  have hl : (splice t i x).length = t.length := by unfold splice; simp; omega
  have hg' : Blk w g cur.toList.toArray 5 := hg
  refine ⟨⟨by rw [cellsU_length, Nat.mul_one], .inr ⟨g, cap, _, by rw [hl], hB, Blk.setCells (cellsB x) i w cur.toList hg' (by simp [cellsB_length]; omega), by omega, hm, ?_, ?_⟩⟩, But.setCells (.inl (by simp)) _ _ _ (But.refl _ _), ?_, ?_⟩
  · unfold splice
    simp [cellsB_length]
    omega
  · rw [Nat.mul_one, hl]
    show (splice cur.toList i (cellsB x)).take t.length = _
    rw [splice_take _ _ _ _ (by rw [cellsB_length]; exact hi) (by simp; omega), htake]
    exact cellsB_splice t x i
  · intro j hj
    rw [cellsB_length] at hj
    rw [hg.cell (j := i + j) (v := cur[i + j]'(by omega)) (Array.getElem?_eq_getElem _)]
    rfl
  · intro j hj
    exact hg.free _

theorem wpListIn_copy_own {F : Fence} {n : Nat} {w : World} {ops : Array Oper} {rest : List Oper} {o : Oper} {a : Act} {Q : Exit → Act → World → Prop} (hgd : o.guard = none) (d s : Operand)
    (ho : o.op = .call { callee := .builtin .copy, args := #[d, s], argTypes := #[47, 47] }) {B g cap : Nat} {t x : List UInt8} (i : Nat) (dLen dCap sCap sLen : Nat) (ad : Addr)
    (hd : a.eval d = .slice (some ⟨g, i, none⟩) dLen dCap) (hs : a.eval s = .slice (some ad) sLen sCap)
    (hdl : dLen = t.length - i) (hsl : sLen = x.length) (hsrc : BytesAt w (some ad) x) (hown : OwnB w B (.slice (some ⟨g, 0, none⟩) t.length cap) t) (hi : i ≤ t.length)
    (hK : ∀ w' k, Hid (OwnB w' B (.slice (some ⟨g, 0, none⟩) t.length cap) (splice t i (x.take (t.length - i)))) → Hid (But [g] w w') → wpListIn F n Tryd.prog ops Q rest (a.put o.dst (goInt k)) w') :
    wpListIn F n Tryd.prog ops Q (o :: rest) a w := by
  refine wpListIn_plain hgd fun K hK' => ?_
  have hlen : (cellsB (x.take (t.length - i))).length = Nat.min sLen dLen := by rw [cellsB_length, List.length_take, hdl, hsl]; exact Nat.min_comm _ _
  obtain ⟨h1, h2, h3, h4⟩ := ownB_copy (x := x.take (t.length - i)) i hown (by rw [List.length_take]; omega)
  have hcs : ∀ j v, (cellsB (x.take (t.length - i)))[j]? = some v → w.cell? (ad.add j) = some v := by
    intro j v hj
    have hjl : j < (x.take (t.length - i)).length := by
      have := (List.getElem?_eq_some_iff.1 hj).1
      rwa [cellsB_length] at this
    have hjx : j < x.length := by rw [List.length_take] at hjl; omega
    have hne : x ≠ [] := by intro e; rw [e] at hjx; simp at hjx
    obtain ⟨b, off, hA, hlt, hc⟩ := hsrc hne
    cases hA
    rw [addr_add, hc j hjx]
    rw [cellsB_take, List.getElem?_take_of_lt (by rw [List.length_take] at hjl; omega)] at hj
    rw [← hj]
    exact (cellsU_at hjx).symm
  have hrun := run_copy_cells (P := Tryd.prog) w 47 47 o.type 5 g i dLen dCap ad sLen sCap _ Tryd.underlying47 (by kernel_rfl) hlen hcs h3 h4 (cellsB_one _)
  unfold Oper.wpIn
  refine ⟨?_, ?_⟩
  · simp [Oper.about, ho, resolve, Target.leads, Sem.run_pure]
  · rw [Oper.semAt_plain F _ _ (by rw [ho]; intro c hc'; cases hc')]
    simp [execOp, ho, resolve, invoke, builtin, hd, hs, hrun, Result.andThen]
    exact hK' _ _ (hK _ _ h1 h2)

end Go.Proofs.YtbflcikfaoojmaaDoor.Edit

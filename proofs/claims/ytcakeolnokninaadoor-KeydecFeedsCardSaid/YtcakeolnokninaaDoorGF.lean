/- Texts joined: Cut; TextP; EncP; OwnI; UtfR; UtfS; Chars. -/
import Derived.Test.YtcakeolnokninaaDoorGB
import Derived.Test.YtcakeolnokninaaDoorGC
/- A cut of bytes; a row of one's own in a later world. -/
set_option linter.unusedVariables false
namespace Go.Proofs.YtcakeolnokninaaDoor.Utf
open Go.RowKit Go.Lib Go.Shelf UtfP

def lenOf : Value → Nat | .slice _ n _ => n | _ => 0

theorem BytesAt.cut {w : World} {A : Option Addr} {l : List UInt8} {k cap : Nat} (h : BytesAt w A l) (hcap : l.length ≤ cap) :
    BytesAt w (if cap = k then A else A.map (·.add k)) (l.drop k) := by
  intro hne
  have hk : k < l.length := by
    rcases Nat.lt_or_ge k l.length with h' | h'
    · exact h'
    · exact absurd (List.drop_of_length_le h') hne
  obtain ⟨b, off, rfl, hlt, hc⟩ := h (fun e => by subst e; simp at hk)
  rw [if_neg (by omega)]
  refine ⟨b, off + k, by simp [addr_add], hlt, fun j hj => ?_⟩
  rw [List.length_drop] at hj
  rw [Nat.add_assoc, hc (k + j) (by omega)]
  have : bt (l.drop k) j = bt l (k + j) := by
    unfold bt
    rw [List.getD_eq_getElem?_getD, List.getD_eq_getElem?_getD, List.getElem?_drop]
  rw [this]

theorem OwnB.lt {w : World} {B : Nat} {v : Value} {l : List UInt8} (h : OwnB w B v l) {k : Nat} (hk : v.ownBlock = some k) : B ≤ k ∧ k < w.heap.size := by
  rcases h.2 with ⟨rfl, _⟩ | ⟨g, cap, cur, rfl, hB, hg, _⟩
  · cases hk
  · cases hk
    refine ⟨hB, ?_⟩
    rcases Nat.lt_or_ge g w.heap.size with h' | h'
    · exact h'
    · rw [Array.getElem?_eq_none h'] at hg; cases hg
theorem OwnB.below {w w' : World} {B : Nat} {v : Value} {l : List UInt8} (h : OwnB w B v l) (hb : Below w.heap.size w w') : OwnB w' B v l := by
  obtain ⟨h1, h2 | ⟨g, cap, cur, h3, h4, h5, h6⟩⟩ := h
  · exact ⟨h1, Or.inl h2⟩
  · refine ⟨h1, Or.inr ⟨g, cap, cur, h3, h4, ?_, h6⟩⟩
    rw [hb.block g]
    · exact h5
    · rcases Nat.lt_or_ge g w.heap.size with h' | h'
      · exact h'
      · rw [Array.getElem?_eq_none h'] at h5; cases h5

end Go.Proofs.YtcakeolnokninaaDoor.Utf

/- The characters of a text; plain. -/
set_option linter.unusedVariables false
namespace Go.Proofs.YtcakeolnokninaaDoor.UtfP
open Go.Lib

def charsF : Nat → List UInt8 → List Int
  | 0, _ => []
  | d + 1, l => if l = [] then [] else (if (next l).2.2 = 0 then ((next l).1 : Int) else 65533) :: charsF d (l.drop (next l).2.1)
/-- the characters of a text, what isn't right replaced -/
def chars (l : List UInt8) : List Int := charsF l.length l
def headC (l : List UInt8) : Int := if (next l).2.2 = 0 then ((next l).1 : Int) else 65533

theorem charsF_more : ∀ (d d' : Nat) (l : List UInt8), l.length ≤ d → l.length ≤ d' → charsF d l = charsF d' l := by
  intro d
  induction d with
  | zero =>
    intro d' l h _
    have : l = [] := List.eq_nil_of_length_eq_zero (by omega)
    subst this
    cases d' with
    | zero => rfl
    | succ d' => unfold charsF; rw [if_pos rfl]
  | succ d ih =>
    intro d' l h h'
    by_cases hl : l = []
    · subst hl
      unfold charsF
      cases d' with
      | zero => simp
      | succ d' => simp
    · obtain ⟨f1, f2, _⟩ := next_facts hl
      cases d' with
      | zero => exact absurd (List.eq_nil_of_length_eq_zero (by omega)) hl
      | succ d' =>
        unfold charsF
        rw [if_neg hl, if_neg hl, ih d' (l.drop (next l).2.1) (by rw [List.length_drop]; omega) (by rw [List.length_drop]; omega)]
theorem chars_nil : chars [] = [] := rfl
theorem chars_cons {l : List UInt8} (h : l ≠ []) : chars l = headC l :: chars (l.drop (next l).2.1) := by
  obtain ⟨f1, f2, _⟩ := next_facts h
  have hl := List.length_pos_iff.2 h
  obtain ⟨d, hd⟩ : ∃ d, l.length = d + 1 := ⟨l.length - 1, by omega⟩
  unfold chars
  rw [hd]
  conv => lhs; unfold charsF
  rw [if_neg h]
  unfold headC
  rw [charsF_more d (l.drop (next l).2.1).length (l.drop (next l).2.1) (by rw [List.length_drop]; omega) (Nat.le_refl _)]

def text (l : List UInt8) : List UInt8 := (chars l).flatMap enc

theorem next_small {l : List UInt8} : (next l).1 ≤ 1114111 := by
  unfold next
  by_cases hn : l.length = 0
  · unfold nextN; rw [if_pos hn]; decide
  · have ite_le : ∀ {c : Prop} [Decidable c] {x y : Nat × Nat × Nat}, (c → x.1 ≤ 1114111) → (¬ c → y.1 ≤ 1114111) → (if c then x else y).1 ≤ 1114111 := by
      intro c _ x y hx hy
      by_cases hc : c
      · rw [if_pos hc]; exact hx hc
      · rw [if_neg hc]; exact hy hc
    have hc := size_class (bt l 0)
    have hs := size_cases (bt l 0)
    have s := @sec_iff (bt l 0) (bt l 1)
    have hl := lo_hi_at (bt l 0)
    have c2 := @cont_iff (bt l 2)
    have c3 := @cont_iff (bt l 3)
    unfold nextN
    rw [if_neg hn]
    by_cases a0 : size1 (bt l 0) = 0
    · rw [if_pos a0]; decide
    · rw [if_neg a0]
      by_cases a1 : size1 (bt l 0) = 1
      · rw [if_pos a1]; show bt l 0 ≤ 1114111; omega
      · rw [if_neg a1]
        refine ite_le (fun _ => by decide) (fun _ => ite_le (fun _ => by decide) (fun h1 => ite_le (fun h2 => ?_) (fun h2 => ite_le (fun _ => by decide) (fun _ => ite_le (fun _ => by decide) (fun h3 => ite_le (fun h4 => ?_) (fun h4 => ite_le (fun _ => by decide) (fun _ => ite_le (fun _ => by decide) (fun h5 => ?_))))))))
        · show bt l 0 % 32 * 64 + (bt l 1 - 128) ≤ 1114111
          have := bt_lt l 1; omega
        · show bt l 0 % 16 * 4096 + (bt l 1 - 128) * 64 + (bt l 2 - 128) ≤ 1114111
          have := bt_lt l 1; have := bt_lt l 2; omega
        · show bt l 0 % 8 * 262144 + (bt l 1 - 128) * 4096 + (bt l 2 - 128) * 64 + (bt l 3 - 128) ≤ 1114111
          have k1 := s.1.1 (by simpa using h1)
          have k2 := c2.1.1 (by simpa using h3)
          have k3 := c3.1.1 (by simpa using h5)
          have k4 : 240 ≤ bt l 0 ∧ bt l 0 ≤ 244 := hc.2.2.2.1 (by omega)
          by_cases e : bt l 0 = 244
          · have := hl.2.2.2.2.2 e; rw [e]; omega
          · have : hi2 (bt l 0) = 191 := hl.2.2.2.1 (by omega) e
            omega
theorem headC_bd (l : List UInt8) : 0 ≤ headC l ∧ headC l ≤ 1114111 := by
  unfold headC
  have := @next_small l
  split <;> omega

/-- a replaced one has three bytes; any has at most four, and no more than it came of but for a replaced one -/
theorem enc_le (c : Int) (h0 : 0 ≤ c) : (enc c).length ≤ 4 := (enc_length c).2

end Go.Proofs.YtcakeolnokninaaDoor.UtfP

/- A character's bytes are that character; a text's characters may be; plain. -/
set_option linter.unusedVariables false
namespace Go.Proofs.YtcakeolnokninaaDoor.UtfP
open Go.Lib

theorem u8_of {z : Int} (h0 : 0 ≤ z) (h1 : z < 256) : ((z.toNat.toUInt8).toNat : Int) = z := by
  have : z.toNat.toUInt8.toNat = z.toNat % 256 := by simp
  rw [this]; omega
theorem enc_eq {c : Int} {zs : List Int} (h : encodeRuneZ c = zs) : enc c = zs.map fun x => x.toNat.toUInt8 := by
  unfold enc encodeRune; rw [h]

theorem next_enc {c : Int} (m : List UInt8) (h : fineC c = true) : next (enc c ++ m) = (c.toNat, (enc c).length, 0) := by
  have hc := fineC_iff.1.1 h
  have hs := @size_class
  have sg : ∀ {z : Int} {n : Nat}, ((z.toNat.toUInt8).toNat : Int) = z → (n : Int) = z → z.toNat.toUInt8.toNat = n := by intro z n h1 h2; omega
  by_cases h1 : c < 128
  · have e := enc_eq (c := c) (zs := [c]) (by unfold encodeRuneZ; rw [if_pos (by omega)])
    rw [e]
    have b0 := u8_of (z := c) (by omega) (by omega)
    unfold next
    have q0 : bt (([c].map fun x : Int => x.toNat.toUInt8) ++ m) 0 = c.toNat := by show c.toNat.toUInt8.toNat = _; omega
    rw [q0]
    unfold nextN
    have z := (hs c.toNat).1.2 (by omega)
    rw [if_neg (by simp), if_neg (by omega), if_pos z]
    rfl
  · by_cases h2 : c < 2048
    · have e := enc_eq (c := c) (zs := [192 + c / 64, 128 + c % 64]) (by unfold encodeRuneZ; rw [if_neg (by omega), if_pos (by omega)])
      rw [e]
      have b0 := u8_of (z := 192 + c / 64) (by omega) (by omega)
      have b1 := u8_of (z := 128 + c % 64) (by omega) (by omega)
      unfold next
      have q0 : bt (([192 + c / 64, 128 + c % 64].map fun x : Int => x.toNat.toUInt8) ++ m) 0 = (192 + c / 64).toNat := by show (192 + c / 64).toNat.toUInt8.toNat = _; omega
      have q1 : bt (([192 + c / 64, 128 + c % 64].map fun x : Int => x.toNat.toUInt8) ++ m) 1 = (128 + c % 64).toNat := by show (128 + c % 64).toNat.toUInt8.toNat = _; omega
      rw [q0, q1]
      have z : size1 (192 + c / 64).toNat = 2 := (hs _).2.1.2 (by omega)
      have s : sec (192 + c / 64).toNat (128 + c % 64).toNat = true := by
        refine sec_iff.1.2 ?_
        have := lo_hi_at (192 + c / 64).toNat
        have a1 := this.1 (by omega) (by omega)
        have a2 := this.2.2.2.1 (by omega) (by omega)
        omega
      unfold nextN
      rw [if_neg (by simp), if_neg (by omega), if_neg (by omega), if_neg (by simp), s, if_neg (by simp), if_pos z]
      refine Prod.ext ?_ rfl
      show (192 + c / 64).toNat % 32 * 64 + ((128 + c % 64).toNat - 128) = c.toNat
      omega
    · by_cases h3 : c < 65536
      · have e := enc_eq (c := c) (zs := [224 + c / 4096, 128 + c / 64 % 64, 128 + c % 64]) (by unfold encodeRuneZ; rw [if_neg (by omega), if_neg (by omega), if_pos (by omega)])
        rw [e]
        have b0 := u8_of (z := 224 + c / 4096) (by omega) (by omega)
        have b1 := u8_of (z := 128 + c / 64 % 64) (by omega) (by omega)
        have b2 := u8_of (z := 128 + c % 64) (by omega) (by omega)
        unfold next
        have q0 : bt (([224 + c / 4096, 128 + c / 64 % 64, 128 + c % 64].map fun x : Int => x.toNat.toUInt8) ++ m) 0 = (224 + c / 4096).toNat := by show (224 + c / 4096).toNat.toUInt8.toNat = _; omega
        have q1 : bt (([224 + c / 4096, 128 + c / 64 % 64, 128 + c % 64].map fun x : Int => x.toNat.toUInt8) ++ m) 1 = (128 + c / 64 % 64).toNat := by show (128 + c / 64 % 64).toNat.toUInt8.toNat = _; omega
        have q2 : bt (([224 + c / 4096, 128 + c / 64 % 64, 128 + c % 64].map fun x : Int => x.toNat.toUInt8) ++ m) 2 = (128 + c % 64).toNat := by show (128 + c % 64).toNat.toUInt8.toNat = _; omega
        rw [q0, q1, q2]
        have z : size1 (224 + c / 4096).toNat = 3 := (hs _).2.2.1.2 (by omega)
        have s : sec (224 + c / 4096).toNat (128 + c / 64 % 64).toNat = true := by
          refine sec_iff.1.2 ?_
          have := lo_hi_at (224 + c / 4096).toNat
          by_cases k1 : (224 + c / 4096).toNat = 224
          · have a1 := this.2.1 k1
            have a2 := this.2.2.2.1 (by omega) (by omega)
            omega
          · have a1 := this.1 k1 (by omega)
            by_cases k2 : (224 + c / 4096).toNat = 237
            · have a2 := this.2.2.2.2.1 k2
              omega
            · have a2 := this.2.2.2.1 k2 (by omega)
              omega
        have s2 : cont (128 + c % 64).toNat = true := cont_iff.1.2 (by omega)
        unfold nextN
        rw [if_neg (by simp), if_neg (by omega), if_neg (by omega), if_neg (by simp), s, if_neg (by simp), if_neg (by omega), if_neg (by simp), s2, if_neg (by simp), if_pos z]
        refine Prod.ext ?_ rfl
        show (224 + c / 4096).toNat % 16 * 4096 + ((128 + c / 64 % 64).toNat - 128) * 64 + ((128 + c % 64).toNat - 128) = c.toNat
        omega
      · have e := enc_eq (c := c) (zs := [240 + c / 262144, 128 + c / 4096 % 64, 128 + c / 64 % 64, 128 + c % 64]) (by unfold encodeRuneZ; rw [if_neg (by omega), if_neg (by omega), if_neg (by omega), if_pos (by omega)])
        rw [e]
        have b0 := u8_of (z := 240 + c / 262144) (by omega) (by omega)
        have b1 := u8_of (z := 128 + c / 4096 % 64) (by omega) (by omega)
        have b2 := u8_of (z := 128 + c / 64 % 64) (by omega) (by omega)
        have b3 := u8_of (z := 128 + c % 64) (by omega) (by omega)
        unfold next
        have q0 : bt (([240 + c / 262144, 128 + c / 4096 % 64, 128 + c / 64 % 64, 128 + c % 64].map fun x : Int => x.toNat.toUInt8) ++ m) 0 = (240 + c / 262144).toNat := by show (240 + c / 262144).toNat.toUInt8.toNat = _; omega
        have q1 : bt (([240 + c / 262144, 128 + c / 4096 % 64, 128 + c / 64 % 64, 128 + c % 64].map fun x : Int => x.toNat.toUInt8) ++ m) 1 = (128 + c / 4096 % 64).toNat := by show (128 + c / 4096 % 64).toNat.toUInt8.toNat = _; omega
        have q2 : bt (([240 + c / 262144, 128 + c / 4096 % 64, 128 + c / 64 % 64, 128 + c % 64].map fun x : Int => x.toNat.toUInt8) ++ m) 2 = (128 + c / 64 % 64).toNat := by show (128 + c / 64 % 64).toNat.toUInt8.toNat = _; omega
        have q3 : bt (([240 + c / 262144, 128 + c / 4096 % 64, 128 + c / 64 % 64, 128 + c % 64].map fun x : Int => x.toNat.toUInt8) ++ m) 3 = (128 + c % 64).toNat := by show (128 + c % 64).toNat.toUInt8.toNat = _; omega
        rw [q0, q1, q2, q3]
        have z : size1 (240 + c / 262144).toNat = 4 := (hs _).2.2.2.2 (by omega)
        have s : sec (240 + c / 262144).toNat (128 + c / 4096 % 64).toNat = true := by
          refine sec_iff.1.2 ?_
          have := lo_hi_at (240 + c / 262144).toNat
          by_cases k1 : (240 + c / 262144).toNat = 240
          · have a1 := this.2.2.1 k1
            have a2 := this.2.2.2.1 (by omega) (by omega)
            omega
          · have a1 := this.1 (by omega) k1
            by_cases k2 : (240 + c / 262144).toNat = 244
            · have a2 := this.2.2.2.2.2 k2
              omega
            · have a2 := this.2.2.2.1 (by omega) k2
              omega
        have s2 : cont (128 + c / 64 % 64).toNat = true := cont_iff.1.2 (by omega)
        have s3 : cont (128 + c % 64).toNat = true := cont_iff.1.2 (by omega)
        unfold nextN
        rw [if_neg (by simp), if_neg (by omega), if_neg (by omega), if_neg (by simp), s, if_neg (by simp), if_neg (by omega), if_neg (by simp), s2, if_neg (by simp), if_neg (by omega), if_neg (by simp), s3, if_neg (by simp)]
        refine Prod.ext ?_ rfl
        show (240 + c / 262144).toNat % 8 * 262144 + ((128 + c / 4096 % 64).toNat - 128) * 4096 + ((128 + c / 64 % 64).toNat - 128) * 64 + ((128 + c % 64).toNat - 128) = c.toNat
        omega

theorem enc_ne (c : Int) : enc c ≠ [] := fun h => by have := (enc_length c).1; rw [h] at this; simp at this
theorem headC_enc {c : Int} (m : List UInt8) (h : fineC c = true) : headC (enc c ++ m) = c := by
  unfold headC
  rw [next_enc m h]
  have := (fineC_iff.1.1 h).1
  simp; omega
theorem chars_enc {c : Int} (m : List UInt8) (h : fineC c = true) : chars (enc c ++ m) = c :: chars m := by
  rw [chars_cons (by simp [enc_ne]), headC_enc m h, next_enc m h]
  simp
theorem chars_encs (m : List UInt8) : ∀ (cs : List Int), (∀ c ∈ cs, fineC c = true) → chars (cs.flatMap enc ++ m) = cs ++ chars m
  | [], _ => rfl
  | c :: cs, h => by
    rw [List.flatMap_cons, List.append_assoc, chars_enc _ (h c (by simp)), chars_encs m cs (fun x hx => h x (by simp [hx]))]
    rfl

theorem next_fineC {l : List UInt8} (he : (next l).2.2 = 0) : fineC ((next l).1 : Int) = true := by
  revert he
  refine (?_ : (fun r : Nat × Nat × Nat => r.2.2 = 0 → fineC (r.1 : Int) = true) (next l))
  have hk : ∀ {c : Prop} [Decidable c] {x y : Nat × Nat × Nat}, (c → (x.2.2 = 0 → fineC (x.1 : Int) = true)) → (¬ c → (y.2.2 = 0 → fineC (y.1 : Int) = true)) → ((if c then x else y).2.2 = 0 → fineC ((if c then x else y).1 : Int) = true) := by
    intro c _ x y hx hy
    by_cases hc : c
    · rw [if_pos hc]; exact hx hc
    · rw [if_neg hc]; exact hy hc
  have hc := size_class (bt l 0)
  have hs := size_cases (bt l 0)
  have s := @sec_iff (bt l 0) (bt l 1)
  have hl := lo_hi_at (bt l 0)
  have hlh := lo_hi (bt l 0)
  have c2 := @cont_iff (bt l 2)
  have c3 := @cont_iff (bt l 3)
  unfold next nextN
  refine hk (fun _ h => absurd h (by decide)) (fun _ => hk (fun _ h => absurd (show (8 : Nat) = 0 from h) (by decide)) (fun a0 => hk (fun a1 _ => ?_) (fun a1 => hk (fun _ h => absurd (show (7 : Nat) = 0 from h) (by decide)) (fun _ => hk (fun _ h => absurd (show (8 : Nat) = 0 from h) (by decide)) (fun s1 => hk (fun a2 _ => ?_) (fun a2 => hk (fun _ h => absurd (show (7 : Nat) = 0 from h) (by decide)) (fun _ => hk (fun _ h => absurd (show (8 : Nat) = 0 from h) (by decide)) (fun s2 => hk (fun a3 _ => ?_) (fun a3 => hk (fun _ h => absurd (show (7 : Nat) = 0 from h) (by decide)) (fun _ => hk (fun _ h => absurd (show (8 : Nat) = 0 from h) (by decide)) (fun s3 _ => ?_)))))))))))
  · refine fineC_iff.1.2 ?_
    show 0 ≤ ((bt l 0 : Nat) : Int) ∧ _
    have := hc.1.1 a1
    omega
  · refine fineC_iff.1.2 ?_
    show 0 ≤ ((bt l 0 % 32 * 64 + (bt l 1 - 128) : Nat) : Int) ∧ _
    have k1 := s.1.1 (by simpa using s1)
    omega
  · refine fineC_iff.1.2 ?_
    show 0 ≤ ((bt l 0 % 16 * 4096 + (bt l 1 - 128) * 64 + (bt l 2 - 128) : Nat) : Int) ∧ _
    have k1 := s.1.1 (by simpa using s1)
    have k2 := c2.1.1 (by simpa using s2)
    have k4 := hc.2.2.1.1 a3
    by_cases e : bt l 0 = 237
    · have := hl.2.2.2.2.1 e
      omega
    · omega
  · refine fineC_iff.1.2 ?_
    show 0 ≤ ((bt l 0 % 8 * 262144 + (bt l 1 - 128) * 4096 + (bt l 2 - 128) * 64 + (bt l 3 - 128) : Nat) : Int) ∧ _
    have k1 := s.1.1 (by simpa using s1)
    have k2 := c2.1.1 (by simpa using s2)
    have k3 := c3.1.1 (by simpa using s3)
    have k4 : 240 ≤ bt l 0 ∧ bt l 0 ≤ 244 := hc.2.2.2.1 (by omega)
    by_cases e : bt l 0 = 244
    · have := hl.2.2.2.2.2 e
      rw [e]; omega
    · by_cases e' : bt l 0 = 240
      · have := hl.2.2.1 e'
        rw [e']; omega
      · omega
theorem headC_fine (l : List UInt8) : fineC (headC l) = true := by
  unfold headC
  by_cases h : (next l).2.2 = 0
  · rw [if_pos h]; exact next_fineC h
  · rw [if_neg h]; decide
theorem chars_fine (l : List UInt8) : ∀ c ∈ chars l, fineC c = true := by
  have : ∀ (n : Nat) (l : List UInt8), l.length ≤ n → ∀ c ∈ chars l, fineC c = true := by
    intro n
    induction n with
    | zero => intro l h c hc; rw [List.eq_nil_of_length_eq_zero (by omega : l.length = 0)] at hc; cases hc
    | succ n ih =>
      intro l h c hc
      by_cases hl : l = []
      · subst hl; cases hc
      · rw [chars_cons hl] at hc
        obtain ⟨f1, f2, _⟩ := next_facts hl
        rcases List.mem_cons.1 hc with rfl | hc
        · exact headC_fine l
        · exact ih _ (by rw [List.length_drop]; omega) c hc
  exact this l.length l (Nat.le_refl _)
theorem chars_text_append (l m : List UInt8) : chars (text l ++ m) = chars l ++ chars m := chars_encs m _ (chars_fine l)
theorem chars_text (l : List UInt8) : chars (text l) = chars l := by
  have := chars_text_append l []
  rwa [List.append_nil, chars_nil, List.append_nil] at this
theorem text_text (l : List UInt8) : text (text l) = text l := by unfold text; rw [show chars (List.flatMap enc (chars l)) = chars l from chars_text l]
theorem text_append (l m : List UInt8) : text (text l ++ m) = text l ++ text m := by
  unfold text
  rw [show chars (List.flatMap enc (chars l) ++ m) = chars l ++ chars m from chars_text_append l m, List.flatMap_append]

end Go.Proofs.YtcakeolnokninaaDoor.UtfP

/- Rows of integers of the call's own. -/
set_option linter.unusedVariables false
namespace Go.Proofs.YtcakeolnokninaaDoor.Utf
open Go.RowKit Go.Lib Go.Shelf UtfP

theorem infoInt : (Tryd.prog.info? 3).map (fun i => (i.zero, i.size, i.bytes)) = some (some (.int .i64 0), 1, 8) := by kernel_rfl
def cellsI (cs : List Int) : List Value := cs.map fun c => .int .i64 c
theorem cellsI_length (cs : List Int) : (cellsI cs).length = cs.length := by simp [cellsI]
theorem cellsI_append (a b : List Int) : cellsI (a ++ b) = cellsI a ++ cellsI b := by simp [cellsI]
def OwnI (w : World) (B : Nat) (v : Value) (cs : List Int) : Prop := w.ownsRow B 3 1 v cs.length (cellsI cs)
theorem OwnI.nil (w : World) (B : Nat) : OwnI w B (.slice none 0 0) [] := ⟨rfl, Or.inl ⟨rfl, rfl⟩⟩
theorem OwnI.lt {w : World} {B : Nat} {v : Value} {l : List Int} (h : OwnI w B v l) {k : Nat} (hk : v.ownBlock = some k) : B ≤ k ∧ k < w.heap.size := by
  rcases h.2 with ⟨rfl, _⟩ | ⟨g, cap, cur, rfl, hB, hg, _⟩
  · cases hk
  · cases hk
    refine ⟨hB, ?_⟩
    rcases Nat.lt_or_ge g w.heap.size with h' | h'
    · exact h'
    · rw [Array.getElem?_eq_none h'] at hg; cases hg
theorem OwnI.below {w w' : World} {B : Nat} {v : Value} {l : List Int} (h : OwnI w B v l) (hb : Below w.heap.size w w') : OwnI w' B v l := by
  obtain ⟨h1, h2 | ⟨g, cap, cur, h3, h4, h5, h6⟩⟩ := h
  · exact ⟨h1, Or.inl h2⟩
  · refine ⟨h1, Or.inr ⟨g, cap, cur, h3, h4, ?_, h6⟩⟩
    rw [hb.block g]
    · exact h5
    · rcases Nat.lt_or_ge g w.heap.size with h' | h'
      · exact h'
      · rw [Array.getElem?_eq_none h'] at h5; cases h5
theorem OwnI.form {w : World} {B : Nat} {v : Value} {l : List Int} (h : OwnI w B v l) : ∃ A cap, v = .slice A l.length cap ∧ l.length ≤ cap ∧ CellsAt w A (cellsI l) ∧ (∀ a, A = some a → B ≤ a.block ∧ a.spot = none) ∧ v.ownBlock = A.map (·.block) := by
  rcases h.2 with ⟨rfl, h0⟩ | ⟨g, cap, cur, rfl, hB, hg, hn, hm, hsz, htake⟩
  · have : l = [] := List.eq_nil_of_length_eq_zero h0
    subst this
    exact ⟨none, 0, rfl, Nat.le_refl _, fun h => absurd rfl h, (fun a ha => by cases ha), rfl⟩
  · refine ⟨some ⟨g, 0, none⟩, cap, rfl, hn, ?_, (fun a ha => by cases ha; exact ⟨hB, rfl⟩), rfl⟩
    intro _
    have hlt : g < w.heap.size := by
      rcases Nat.lt_or_ge g w.heap.size with h' | h'
      · exact h'
      · rw [Array.getElem?_eq_none h'] at hg; cases hg
    refine ⟨g, 0, rfl, hlt, fun j u hu => ?_⟩
    have e := cell_of_row w g j cur 3 (0, 0) hg
    rw [Nat.zero_add, e, ← Array.getElem?_toList]
    rw [← htake] at hu
    have hj : j < l.length * 1 := by
      rcases Nat.lt_or_ge j (l.length * 1) with h' | h'
      · exact h'
      · rw [List.getElem?_take_eq_none h'] at hu; cases hu
    rwa [List.getElem?_take_of_lt hj] at hu
theorem OwnI.base {w : World} {B B' : Nat} {v : Value} {l : List Int} (h : OwnI w B v l) (hB : B' ≤ B) : OwnI w B' v l := by
  obtain ⟨h1, h2 | ⟨g, cap, cur, h3, h4, h5⟩⟩ := h
  · exact ⟨h1, Or.inl h2⟩
  · exact ⟨h1, Or.inr ⟨g, cap, cur, h3, Nat.le_trans hB h4, h5⟩⟩
theorem OwnI.new (w : World) (B : Nat) (cs : Array Value) (l : List Int) (hcs : cs.toList = cellsI l) (hB : B ≤ w.heap.size) (hm : l.length ≤ maxLen) : OwnI (w.alloc (.cells cs 3)) B (.slice (some ⟨w.heap.size, 0, none⟩) l.length l.length) l := by
  have hsz : cs.size = l.length := by rw [← Array.length_toList, hcs, cellsI_length]
  refine ⟨by rw [cellsI_length, Nat.mul_one], Or.inr ⟨w.heap.size, l.length, cs, rfl, hB, heap_alloc_new w _, Nat.le_refl _, hm, by rw [hsz, Nat.mul_one], ?_⟩⟩
  rw [hcs, Nat.mul_one, ← cellsI_length]; exact List.take_length

theorem wpList_append_ints {w : World} {ops : Array Oper} {rest : List Oper} {o : Oper} {a : Act} {Q : Exit → Act → World → Prop} (hgd : o.guard = none) (s x : Operand)
    (ho : o.op = .call { callee := .builtin .append, args := #[s, x], argTypes := #[37, 37] })
    {B : Nat} {v : Value} {l : List Int} (hs : a.eval s = v) (hown : OwnI w B v l) {A : Option Addr} {src : List Int} {n c : Nat} (hx : a.eval x = .slice A n c) (hn : src.length = n) (hsrc : CellsAt w A (cellsI src))
    (hb : l.length + src.length ≤ 17592186044416) (hbase : B ≤ w.heap.size)
    (h : ∀ v' w', OwnI w' B v' (l ++ src) → w.grownBy w' v.ownBlock → wpList Tryd.prog ops Q rest (a.put o.dst v') w') : wpList Tryd.prog ops Q (o :: rest) a w := by
  subst hn
  refine wpList_append_cells hgd s x ho Tryd.underlying37 infoInt rfl (by decide) hs hown hx (by rw [cellsI_length, Nat.mul_one]) hsrc ?_ ?_ ?_ hbase ?_
  · intro u hu
    obtain ⟨c, _, rfl⟩ := List.mem_map.1 hu
    rfl
  · unfold maxLen; omega
  · omega
  · intro v' w' h2 h3
    refine h v' w' ?_ h3
    unfold OwnI
    rw [List.length_append, cellsI_append]
    exact h2

end Go.Proofs.YtcakeolnokninaaDoor.Utf

/- The reference of layer 1: size, second, Next, walked. -/
set_option linter.unusedVariables false
namespace Go.Proofs.YtcakeolnokninaaDoor.Utf
open Go.RowKit Go.Lib Go.Shelf UtfP

set_option maxHeartbeats 1000000 in
theorem refSize (c : Nat) (w : World) (hc : c < 256) :
    Calls Tryd.prog 66 #[.int .u8 c] w fun e w' => e = .returned (.int .i64 (size1 c : Int)) ∧ w = w' := by
  by_cases h1 : c < 128
  · have h1' : (c : Int) < 128 := by omega
    rw [show size1 c = 1 by unfold size1; rw [if_pos h1]]
    clear h1
    go_enter Tryd.func66, Tryd.ntmps66
    go_wp2
    go_ret
    exact ⟨rfl, rfl⟩
  · have h1' : decide ((c : Int) < 128) = false := by simp; omega
    by_cases h2 : 194 ≤ c
    · have h2' : (194 : Int) ≤ (c : Int) := by omega
      by_cases h3 : c ≤ 223
      · have h3' : (c : Int) ≤ 223 := by omega
        rw [show size1 c = 2 by unfold size1; rw [if_neg h1, if_pos ⟨h2, h3⟩]]
        clear h1 h2 h3
        go_enter Tryd.func66, Tryd.ntmps66
        go_wp2
        go_ret
        exact ⟨rfl, rfl⟩
      · have h3' : decide ((c : Int) ≤ 223) = false := by simp; omega
        have h4' : (224 : Int) ≤ (c : Int) := by omega
        by_cases h5 : c ≤ 239
        · have h5' : (c : Int) ≤ 239 := by omega
          rw [show size1 c = 3 by unfold size1; rw [if_neg h1, if_neg (by omega), if_pos (by omega)]]
          clear h1 h2 h3 h5
          go_enter Tryd.func66, Tryd.ntmps66
          go_wp2
          go_ret
          exact ⟨rfl, rfl⟩
        · have h5' : decide ((c : Int) ≤ 239) = false := by simp; omega
          have h6' : (240 : Int) ≤ (c : Int) := by omega
          by_cases h7 : c ≤ 244
          · have h7' : (c : Int) ≤ 244 := by omega
            rw [show size1 c = 4 by unfold size1; rw [if_neg h1, if_neg (by omega), if_neg (by omega), if_pos (by omega)]]
            clear h1 h2 h3 h5 h7
            go_enter Tryd.func66, Tryd.ntmps66
            go_wp2
            go_ret
            exact ⟨rfl, rfl⟩
          · have h7' : decide ((c : Int) ≤ 244) = false := by simp; omega
            rw [show size1 c = 0 by unfold size1; rw [if_neg h1, if_neg (by omega), if_neg (by omega), if_neg (by omega)]]
            clear h1 h2 h3 h5 h7
            go_enter Tryd.func66, Tryd.ntmps66
            go_wp2
            go_ret
            exact ⟨rfl, rfl⟩
    · have h2' : decide ((194 : Int) ≤ (c : Int)) = false := by simp; omega
      have h4' : decide ((224 : Int) ≤ (c : Int)) = false := by simp; omega
      have h6' : decide ((240 : Int) ≤ (c : Int)) = false := by simp; omega
      rw [show size1 c = 0 by unfold size1; rw [if_neg h1, if_neg (by omega), if_neg (by omega), if_neg (by omega)]]
      clear h1 h2
      go_enter Tryd.func66, Tryd.ntmps66
      go_wp2
      go_ret
      exact ⟨rfl, rfl⟩

def secAt (lo hi c : Nat) : Bool := decide (lo ≤ c ∧ c ≤ hi)

set_option maxHeartbeats 4000000 in
theorem refSecond (a c : Nat) (w : World) (ha : a < 256) (hc : c < 256) :
    Calls Tryd.prog 67 #[.int .u8 a, .int .u8 c] w fun e w' => e = .returned (.bool (sec a c)) ∧ w = w' := by
  obtain ⟨v, hv⟩ : ∃ v, sec a c = v := ⟨_, rfl⟩
  have hs := @sec_iff a c
  have hl := lo_hi_at a
  rw [hv] at hs ⊢
  generalize lo2 a = lo at *
  generalize hi2 a = hi at *
  clear hv
  have key : ∀ (L H : Int), (lo : Int) = L → (hi : Int) = H → (v = true ∧ decide (L ≤ (c : Int)) = true ∧ decide ((c : Int) ≤ H) = true) ∨ (v = false ∧ decide (L ≤ (c : Int)) = true ∧ decide ((c : Int) ≤ H) = false) ∨ (v = false ∧ decide (L ≤ (c : Int)) = false) := by
    rintro L H rfl rfl
    cases v with
    | true => left; have := hs.1.1 rfl; simp; omega
    | false =>
      right
      have := hs.2.1 rfl
      by_cases h : lo ≤ c
      · left; simp; omega
      · right; simp; omega
  clear hs
  by_cases e1 : a = 224
  · subst e1
    have k := key 160 191 (by have := hl; omega) (by have := hl; omega)
    clear key hl
    rcases k with ⟨rfl, k1, k2⟩ | ⟨rfl, k1, k2⟩ | ⟨rfl, k1⟩
    all_goals
      go_enter Tryd.func67, Tryd.ntmps67
      go_wp2
      go_ret
      exact ⟨rfl, rfl⟩
  · by_cases e2 : a = 237
    · subst e2
      have k := key 128 159 (by have := hl; omega) (by have := hl; omega)
      clear key hl
      rcases k with ⟨rfl, k1, k2⟩ | ⟨rfl, k1, k2⟩ | ⟨rfl, k1⟩
      all_goals
        go_enter Tryd.func67, Tryd.ntmps67
        go_wp2
        go_ret
        exact ⟨rfl, rfl⟩
    · by_cases e3 : a = 240
      · subst e3
        have k := key 144 191 (by have := hl; omega) (by have := hl; omega)
        clear key hl
        rcases k with ⟨rfl, k1, k2⟩ | ⟨rfl, k1, k2⟩ | ⟨rfl, k1⟩
        all_goals
          go_enter Tryd.func67, Tryd.ntmps67
          go_wp2
          go_ret
          exact ⟨rfl, rfl⟩
      · by_cases e4 : a = 244
        · subst e4
          have k := key 128 143 (by have := hl; omega) (by have := hl; omega)
          clear key hl
          rcases k with ⟨rfl, k1, k2⟩ | ⟨rfl, k1, k2⟩ | ⟨rfl, k1⟩
          all_goals
            go_enter Tryd.func67, Tryd.ntmps67
            go_wp2
            go_ret
            exact ⟨rfl, rfl⟩
        · have k := key 128 191 (by have := hl; omega) (by have := hl; omega)
          have b1 : ((a : Int) == 224) = false := by simp; omega
          have b2 : ((a : Int) == 237) = false := by simp; omega
          have b3 : ((a : Int) == 240) = false := by simp; omega
          have b4 : ((a : Int) == 244) = false := by simp; omega
          clear key hl e1 e2 e3 e4
          rcases k with ⟨rfl, k1, k2⟩ | ⟨rfl, k1, k2⟩ | ⟨rfl, k1⟩
          all_goals
            go_enter Tryd.func67, Tryd.ntmps67
            go_wp2
            go_ret
            exact ⟨rfl, rfl⟩

end Go.Proofs.YtcakeolnokninaaDoor.Utf

/- The reference's Next, walked. -/
set_option linter.unusedVariables false
namespace Go.Proofs.YtcakeolnokninaaDoor.Utf
open Go.RowKit Go.Lib Go.Shelf UtfP

set_option maxHeartbeats 1000000 in
theorem ref_empty (A : Option Addr) (cap : Nat) (w : World) :
    Calls Tryd.prog 50 #[.slice A 0 cap] w fun e w' => e = .returned (res3 (0, 0, 6)) ∧ Below w.heap.size w w' := by
  go_enter Tryd.func50, Tryd.ntmps50
  go_wp2
  go_ret3
  exact ⟨rfl, Below.refl _ _⟩

set_option maxHeartbeats 1000000 in
theorem ref_zero (b off n cap x0 : Nat) (w : World) (hn : (0 : Int) < n) (h0 : x0 < 256) (hc : w.cell? ⟨b, off, none⟩ = some (.int .u8 x0)) (hz : size1 x0 = 0) :
    Calls Tryd.prog 50 #[.slice (some ⟨b, off, none⟩) n cap] w fun e w' => e = .returned (res3 (0, 1, 8)) ∧ Below w.heap.size w w' := by
  have C := fun w => refSize x0 w h0
  rw [hz] at C
  have HC := Lib.hid C
  clear C hz
  have hn0 : (((n : Nat) : Int) == 0) = false := by simp; omega
  go_enter Tryd.func50, Tryd.ntmps50
  go_wp2_with (go_at_call 66; refine (HC.out _).mono ?_; rintro e w' ⟨rfl, rfl⟩)
  go_ret3
  exact ⟨rfl, Below.refl _ _⟩

set_option maxHeartbeats 1000000 in
theorem ref_one (b off n cap x0 : Nat) (w : World) (hn : (0 : Int) < n) (h0 : x0 < 256) (hc : w.cell? ⟨b, off, none⟩ = some (.int .u8 x0)) (hz : size1 x0 = 1) :
    Calls Tryd.prog 50 #[.slice (some ⟨b, off, none⟩) n cap] w fun e w' => e = .returned (res3 (x0, 1, 0)) ∧ Below w.heap.size w w' := by
  have C := fun w => refSize x0 w h0
  rw [hz] at C
  have HC := Lib.hid C
  clear C hz
  have hn0 : (((n : Nat) : Int) == 0) = false := by simp; omega
  have h0' : (x0 : Int) < 256 := by omega
  go_enter Tryd.func50, Tryd.ntmps50
  go_wp2_with (go_at_call 66; refine (HC.out _).mono ?_; rintro e w' ⟨rfl, rfl⟩)
  go_ret3
  exact ⟨by simp [res3], Below.refl _ _⟩

/-- the number read so far, at the head of round k -/
def cAt (m x0 x1 x2 x3 : Nat) : Nat → Int
  | 1 => (x0 : Int) % (m : Int)
  | 2 => 64 * ((x0 : Int) % (m : Int)) + (x1 : Int) - 128
  | 3 => 64 * (64 * ((x0 : Int) % (m : Int)) + (x1 : Int) - 128) + (x2 : Int) - 128
  | _ => 64 * (64 * (64 * ((x0 : Int) % (m : Int)) + (x1 : Int) - 128) + (x2 : Int) - 128) + (x3 : Int) - 128
/-- what the rounds ahead have let by -/
def let_ (x0 x1 x2 x3 : Nat) (k : Nat) : Prop := (1 < k → sec x0 x1 = true) ∧ (2 < k → cont x2 = true) ∧ (3 < k → cont x3 = true)

def xAt (x1 x2 x3 : Nat) : Nat → Nat
  | 1 => x1
  | 2 => x2
  | _ => x3
def okAt (x0 x1 x2 x3 : Nat) : Nat → Bool
  | 1 => sec x0 x1
  | 2 => cont x2
  | _ => cont x3
theorem nx_short {n x0 x1 x2 x3 k : Nat} (hk : 1 ≤ k) (hs : k < size1 x0) (hl : let_ x0 x1 x2 x3 k) (hn : n = k) : nextN n x0 x1 x2 x3 = (0, k, 7) := by
  have z := size_cases x0
  subst hn
  unfold nextN
  rw [if_neg (by omega), if_neg (by omega), if_neg (by omega)]
  by_cases h1 : n = 1
  · rw [if_pos h1, h1]
  · rw [if_neg h1, hl.1 (by omega), if_neg (by simp), if_neg (by omega)]
    by_cases h2 : n = 2
    · rw [if_pos h2, h2]
    · rw [if_neg h2, hl.2.1 (by omega), if_neg (by simp), if_neg (by omega)]
      rw [if_pos (by omega), show n = 3 by omega]
theorem nx_bad {n x0 x1 x2 x3 k : Nat} (hk : 1 ≤ k) (hs : k < size1 x0) (hl : let_ x0 x1 x2 x3 k) (hn : k < n) (hb : okAt x0 x1 x2 x3 k = false) : nextN n x0 x1 x2 x3 = (0, k, 8) := by
  have z := size_cases x0
  unfold nextN
  rw [if_neg (by omega), if_neg (by omega), if_neg (by omega), if_neg (by omega)]
  rcases (show k = 1 ∨ k = 2 ∨ k = 3 by omega) with rfl | rfl | rfl
  · rw [if_pos (show sec x0 x1 = false from hb)]
  · rw [hl.1 (by omega), if_neg (by simp), if_neg (by omega), if_neg (by omega), if_pos (show cont x2 = false from hb)]
  · rw [hl.1 (by omega), if_neg (by simp), if_neg (by omega), if_neg (by omega), hl.2.1 (by omega), if_neg (by simp), if_neg (by omega), if_neg (by omega), if_pos (show cont x3 = false from hb)]
theorem c_bd {m x0 x1 x2 x3 k : Nat} (hm : m = 32 ∨ m = 16 ∨ m = 8) (h1 : x1 < 256) (h2 : x2 < 256) (h3 : x3 < 256) (hl : let_ x0 x1 x2 x3 k) (hk : k ≤ 4) (hk1 : 1 ≤ k) :
    0 ≤ cAt m x0 x1 x2 x3 k ∧ cAt m x0 x1 x2 x3 k < 16777216 := by
  have hs := @sec_iff x0 x1
  have hlh := lo_hi x0
  have c2 := @cont_iff x2
  have c3 := @cont_iff x3
  have l1 : 1 < k → 128 ≤ x1 := fun h => by have := hs.1.1 (hl.1 h); omega
  have l2 : 2 < k → 128 ≤ x2 := fun h => by have := c2.1.1 (hl.2.1 h); omega
  have l3 : 3 < k → 128 ≤ x3 := fun h => by have := c3.1.1 (hl.2.2 h); omega
  rcases hm with rfl | rfl | rfl
  all_goals
    rcases (show k = 1 ∨ k = 2 ∨ k = 3 ∨ k = 4 by omega) with rfl | rfl | rfl | rfl
    all_goals simp only [cAt]
    all_goals omega
theorem nx_end {n x0 x1 x2 x3 z m : Nat} (hz : size1 x0 = z) (hm : (z = 2 ∧ m = 32) ∨ (z = 3 ∧ m = 16) ∨ (z = 4 ∧ m = 8)) (hl : let_ x0 x1 x2 x3 z) (hn : z ≤ n) :
    res3 (nextN n x0 x1 x2 x3) = .tuple #[.int .i64 (cAt m x0 x1 x2 x3 z), .int .i64 (z : Int), .int .i64 0] := by
  have hs := @sec_iff x0 x1
  have hlh := lo_hi x0
  have c2 := @cont_iff x2
  have c3 := @cont_iff x3
  have l1 : 1 < z → 128 ≤ x1 := fun h => by have := hs.1.1 (hl.1 h); omega
  have l2 : 2 < z → 128 ≤ x2 := fun h => by have := c2.1.1 (hl.2.1 h); omega
  have l3 : 3 < z → 128 ≤ x3 := fun h => by have := c3.1.1 (hl.2.2 h); omega
  clear hs c2 c3
  unfold nextN
  rw [hz, if_neg (by omega), if_neg (by omega), if_neg (by omega), if_neg (by omega), hl.1 (by omega), if_neg (by simp)]
  have key : ∀ (a : Nat) (b : Int), (a : Int) = b → res3 (a, z, 0) = .tuple #[.int .i64 b, .int .i64 (z : Int), .int .i64 0] := by rintro a b rfl; rfl
  rcases hm with ⟨rfl, rfl⟩ | ⟨rfl, rfl⟩ | ⟨rfl, rfl⟩
  · rw [if_pos rfl]
    refine key _ _ ?_
    have := l1 (by omega)
    simp only [cAt]; omega
  · rw [if_neg (by omega), if_neg (by omega), hl.2.1 (by omega), if_neg (by simp), if_pos rfl]
    refine key _ _ ?_
    have := l1 (by omega)
    have := l2 (by omega)
    simp only [cAt]; omega
  · rw [if_neg (by omega), if_neg (by omega), hl.2.1 (by omega), if_neg (by simp), if_neg (by omega), if_neg (by omega), hl.2.2 (by omega), if_neg (by simp)]
    refine key _ _ ?_
    have := l1 (by omega)
    have := l2 (by omega)
    have := l3 (by omega)
    simp only [cAt]; omega

set_option maxRecDepth 100000 in
set_option maxHeartbeats 8000000 in
theorem ref_of2 (b off n cap x0 x1 x2 x3 : Nat) (w : World) (hn : (0 : Int) < n) (h0 : x0 < 256) (hx1 : x1 < 256) (hx2 : x2 < 256) (hx3 : x3 < 256) (hm : n ≤ 140737488355328)
    (hc : w.cell? ⟨b, off, none⟩ = some (.int .u8 x0)) (hc1 : 1 < n → w.cell? ⟨b, off + 1, none⟩ = some (.int .u8 x1)) (hz : size1 x0 = 2) :
    Calls Tryd.prog 50 #[.slice (some ⟨b, off, none⟩) n cap] w fun e w' => e = .returned (res3 (nextN n x0 x1 x2 x3)) ∧ Below w.heap.size w w' := by
  have C := fun w => refSize x0 w h0
  have D := fun w => refSecond x0 x1 w h0 hx1
  rw [hz] at C
  have HC := Lib.hid C
  have HD := Lib.hid D
  have Hz := Lib.hid hz
  have HC1 := Lib.hid hc1
  clear C D hz hc1
  have hn0 : (((n : Nat) : Int) == 0) = false := by simp; omega
  have h0' : (x0 : Int) < 256 := by omega
  have h0'' : (0 : Int) ≤ (x0 : Int) := by omega
  have hx1' : (x1 : Int) < 256 := by omega
  have hx2' : (x2 : Int) < 256 := by omega
  have hx3' : (x3 : Int) < 256 := by omega
  have hb : b < w.heap.size := block_lt_of_cell hc
  go_enter Tryd.func50, Tryd.ntmps50
  go_wp2_with (go_at_call 66; refine (HC.out _).mono ?_; rintro e w' ⟨rfl, rfl⟩)
  clear hn0
  go_loopw [6, 7] (fun c i wr => ∃ k : Nat, 1 ≤ k ∧ k ≤ 2 ∧ k ≤ n ∧ i = .int .i64 k ∧ c = .int .i64 (cAt 32 x0 x1 x2 x3 k) ∧ let_ x0 x1 x2 x3 k ∧ Below w.heap.size w wr) (fun _ i _ => 5 - (RowKit.intOf i).toNat)
  case atStart => exact ⟨1, by omega, by omega, by omega, rfl, rfl, ⟨fun h => absurd h (by omega), fun h => absurd h (by omega), fun h => absurd h (by omega)⟩, Below.refl _ _⟩
  case round =>
    obtain ⟨k, hk1, hk2, hkn, rfl, rfl, hl, hbw⟩ := hrel
    rcases (show k = 1 ∨ k = 2 by omega) with rfl | rfl
    · -- round 1
      have HW := Lib.hid (c_bd (m := 32) (by omega) hx1 hx2 hx3 hl (by omega) (by omega))
      by_cases hnk : n = 1
      · have e := nx_short (x3 := x3) (by omega) (by rw [Hz.out]; omega) hl hnk
        subst hnk
        have He := Lib.hid e
        clear e
        go_wp2
        go_ret3
        exact ⟨by rw [He.out]; rfl, hbw⟩
      · have hkn : 1 < n := by omega
        have hne : (((1 : Int)) == ((n : Nat) : Int)) = false := by simp; omega
        have hne2 : (((1 : Nat)) == n) = false := by simp; omega
        have hlt : (1 : Int) < (n : Int) := by omega
        have cw : wr.cell? ⟨b, off + 1, none⟩ = some (.int .u8 x1) := by rw [hbw.cell (p := ⟨b, off + 1, none⟩) hb]; exact HC1.out hkn
        have cw0 : wr.cell? ⟨b, off, none⟩ = some (.int .u8 x0) := by rw [hbw.cell (p := ⟨b, off, none⟩) hb]; exact hc
        by_cases hok : okAt x0 x1 x2 x3 1 = true
        · have D := HD.out
          rw [show sec x0 x1 = true from hok] at D
          have HD' := Lib.hid D
          have Hok := Lib.hid hok
          have hcb := HW.out
          generalize hck : cAt 32 x0 x1 x2 x3 1 = ck at hcb ⊢
          have Hck := Lib.hid hck
          have hcb1 := hcb.1
          have hcb2 := hcb.2
          clear D hok hck hcb hnk
          go_wp2_with fail
          go_quiet ((go_at_call 67; exact quiet_left (HD'.out _)))
          go_wp2
          go_roundw
          case rel => exact ⟨2, by omega, by omega, by omega, rfl, by rw [← Hck.out]; rfl, ⟨fun _ => Hok.out, fun h => absurd h (by omega), fun h => absurd h (by omega)⟩, below_drewN hbw _⟩
          case measure => simp [RowKit.intOf]
        · have hok' : sec x0 x1 = false := by simpa [okAt] using hok
          have e := nx_bad (x3 := x3) (by omega) (by rw [Hz.out]; omega) hl hkn hok'
          have He := Lib.hid e
          have D := HD.out
          rw [hok'] at D
          have HD' := Lib.hid D
          clear D hok hok' e hnk
          go_wp2_with fail
          go_quiet ((go_at_call 67; exact quiet_left (HD'.out _)))
          go_wp2
          go_ret3
          exact ⟨by rw [He.out]; rfl, below_drewN hbw _⟩
    · have e := nx_end (n := n) (m := 32) Hz.out (by omega) hl hkn
      have He := Lib.hid e
      clear e
      go_wp2
      go_ret3
      exact ⟨by rw [He.out]; rfl, hbw⟩


set_option maxRecDepth 100000 in
set_option maxHeartbeats 8000000 in
theorem ref_of3 (b off n cap x0 x1 x2 x3 : Nat) (w : World) (hn : (0 : Int) < n) (h0 : x0 < 256) (hx1 : x1 < 256) (hx2 : x2 < 256) (hx3 : x3 < 256) (hm : n ≤ 140737488355328)
    (hc : w.cell? ⟨b, off, none⟩ = some (.int .u8 x0)) (hc1 : 1 < n → w.cell? ⟨b, off + 1, none⟩ = some (.int .u8 x1)) (hc2 : 2 < n → w.cell? ⟨b, off + 2, none⟩ = some (.int .u8 x2)) (hz : size1 x0 = 3) :
    Calls Tryd.prog 50 #[.slice (some ⟨b, off, none⟩) n cap] w fun e w' => e = .returned (res3 (nextN n x0 x1 x2 x3)) ∧ Below w.heap.size w w' := by
  have C := fun w => refSize x0 w h0
  have D := fun w => refSecond x0 x1 w h0 hx1
  rw [hz] at C
  have HC := Lib.hid C
  have HD := Lib.hid D
  have Hz := Lib.hid hz
  have HC1 := Lib.hid hc1
  have HC2 := Lib.hid hc2
  clear C D hz hc1 hc2
  have hn0 : (((n : Nat) : Int) == 0) = false := by simp; omega
  have h0' : (x0 : Int) < 256 := by omega
  have h0'' : (0 : Int) ≤ (x0 : Int) := by omega
  have hx1' : (x1 : Int) < 256 := by omega
  have hx2' : (x2 : Int) < 256 := by omega
  have hx3' : (x3 : Int) < 256 := by omega
  have hb : b < w.heap.size := block_lt_of_cell hc
  go_enter Tryd.func50, Tryd.ntmps50
  go_wp2_with (go_at_call 66; refine (HC.out _).mono ?_; rintro e w' ⟨rfl, rfl⟩)
  clear hn0
  go_loopw [6, 7] (fun c i wr => ∃ k : Nat, 1 ≤ k ∧ k ≤ 3 ∧ k ≤ n ∧ i = .int .i64 k ∧ c = .int .i64 (cAt 16 x0 x1 x2 x3 k) ∧ let_ x0 x1 x2 x3 k ∧ Below w.heap.size w wr) (fun _ i _ => 5 - (RowKit.intOf i).toNat)
  case atStart => exact ⟨1, by omega, by omega, by omega, rfl, rfl, ⟨fun h => absurd h (by omega), fun h => absurd h (by omega), fun h => absurd h (by omega)⟩, Below.refl _ _⟩
  case round =>
    obtain ⟨k, hk1, hk2, hkn, rfl, rfl, hl, hbw⟩ := hrel
    rcases (show k = 1 ∨ k = 2 ∨ k = 3 by omega) with rfl | rfl | rfl
    · -- round 1
      have HW := Lib.hid (c_bd (m := 16) (by omega) hx1 hx2 hx3 hl (by omega) (by omega))
      by_cases hnk : n = 1
      · have e := nx_short (x3 := x3) (by omega) (by rw [Hz.out]; omega) hl hnk
        subst hnk
        have He := Lib.hid e
        clear e
        go_wp2
        go_ret3
        exact ⟨by rw [He.out]; rfl, hbw⟩
      · have hkn : 1 < n := by omega
        have hne : (((1 : Int)) == ((n : Nat) : Int)) = false := by simp; omega
        have hne2 : (((1 : Nat)) == n) = false := by simp; omega
        have hlt : (1 : Int) < (n : Int) := by omega
        have cw : wr.cell? ⟨b, off + 1, none⟩ = some (.int .u8 x1) := by rw [hbw.cell (p := ⟨b, off + 1, none⟩) hb]; exact HC1.out hkn
        have cw0 : wr.cell? ⟨b, off, none⟩ = some (.int .u8 x0) := by rw [hbw.cell (p := ⟨b, off, none⟩) hb]; exact hc
        by_cases hok : okAt x0 x1 x2 x3 1 = true
        · have D := HD.out
          rw [show sec x0 x1 = true from hok] at D
          have HD' := Lib.hid D
          have Hok := Lib.hid hok
          have hcb := HW.out
          generalize hck : cAt 16 x0 x1 x2 x3 1 = ck at hcb ⊢
          have Hck := Lib.hid hck
          have hcb1 := hcb.1
          have hcb2 := hcb.2
          clear D hok hck hcb hnk
          go_wp2_with fail
          go_quiet ((go_at_call 67; exact quiet_left (HD'.out _)))
          go_wp2
          go_roundw
          case rel => exact ⟨2, by omega, by omega, by omega, rfl, by rw [← Hck.out]; rfl, ⟨fun _ => Hok.out, fun h => absurd h (by omega), fun h => absurd h (by omega)⟩, below_drewN hbw _⟩
          case measure => simp [RowKit.intOf]
        · have hok' : sec x0 x1 = false := by simpa [okAt] using hok
          have e := nx_bad (x3 := x3) (by omega) (by rw [Hz.out]; omega) hl hkn hok'
          have He := Lib.hid e
          have D := HD.out
          rw [hok'] at D
          have HD' := Lib.hid D
          clear D hok hok' e hnk
          go_wp2_with fail
          go_quiet ((go_at_call 67; exact quiet_left (HD'.out _)))
          go_wp2
          go_ret3
          exact ⟨by rw [He.out]; rfl, below_drewN hbw _⟩
    · -- round 2
      have HW := Lib.hid (c_bd (m := 16) (by omega) hx1 hx2 hx3 hl (by omega) (by omega))
      by_cases hnk : n = 2
      · have e := nx_short (x3 := x3) (by omega) (by rw [Hz.out]; omega) hl hnk
        subst hnk
        have He := Lib.hid e
        clear e
        go_wp2
        go_ret3
        exact ⟨by rw [He.out]; rfl, hbw⟩
      · have hkn : 2 < n := by omega
        have hne : (((2 : Int)) == ((n : Nat) : Int)) = false := by simp; omega
        have hne2 : (((2 : Nat)) == n) = false := by simp; omega
        have hlt : (2 : Int) < (n : Int) := by omega
        have cw : wr.cell? ⟨b, off + 2, none⟩ = some (.int .u8 x2) := by rw [hbw.cell (p := ⟨b, off + 2, none⟩) hb]; exact HC2.out hkn
        have cw0 : wr.cell? ⟨b, off, none⟩ = some (.int .u8 x0) := by rw [hbw.cell (p := ⟨b, off, none⟩) hb]; exact hc
        by_cases hok : okAt x0 x1 x2 x3 2 = true
        · have hcc := cont_iff.1.1 (show cont x2 = true from hok)
          have Hok := Lib.hid hok
          have hcb := HW.out
          generalize hck : cAt 16 x0 x1 x2 x3 2 = ck at hcb ⊢
          have Hck := Lib.hid hck
          have hcb1 := hcb.1
          have hcb2 := hcb.2
          have k1 : decide ((x2 : Int) < 128) = false := by simp; omega
          have k2 : decide ((191 : Int) < (x2 : Int)) = false := by simp; omega
          have HL := Lib.hid hl
          clear hok hck hcb hnk hcc hl
          go_wp2_with fail
          go_quiet (fail)
          go_wp2
          go_roundw
          case rel => have hl := HL.out; exact ⟨3, by omega, by omega, by omega, rfl, by rw [← Hck.out]; rfl, ⟨fun _ => hl.1 (by omega), fun _ => Hok.out, fun h => absurd h (by omega)⟩, below_drewN hbw _⟩
          case measure => simp [RowKit.intOf]
        · have hok' : cont x2 = false := by simpa [okAt] using hok
          have e := nx_bad (x3 := x3) (by omega) (by rw [Hz.out]; omega) hl hkn hok'
          have He := Lib.hid e
          have hcc := cont_iff.2.1 hok'
          by_cases hlo : x2 < 128
          · have k1 : ((x2 : Int) < 128) := by omega
            clear hok hok' e hnk hcc hlo hl
            go_wp2_with fail
            go_quiet (fail)
            go_wp2
            go_ret3
            exact ⟨by rw [He.out]; rfl, below_drewN hbw _⟩
          · have k1 : decide ((x2 : Int) < 128) = false := by simp; omega
            have k2 : (191 : Int) < (x2 : Int) := by omega
            clear hok hok' e hnk hcc hlo hl
            go_wp2_with fail
            go_quiet (fail)
            go_wp2
            go_ret3
            exact ⟨by rw [He.out]; rfl, below_drewN hbw _⟩
    · have e := nx_end (n := n) (m := 16) Hz.out (by omega) hl hkn
      have He := Lib.hid e
      clear e
      go_wp2
      go_ret3
      exact ⟨by rw [He.out]; rfl, hbw⟩

set_option maxRecDepth 100000 in
set_option maxHeartbeats 8000000 in
theorem ref_of4 (b off n cap x0 x1 x2 x3 : Nat) (w : World) (hn : (0 : Int) < n) (h0 : x0 < 256) (hx1 : x1 < 256) (hx2 : x2 < 256) (hx3 : x3 < 256) (hm : n ≤ 140737488355328)
    (hc : w.cell? ⟨b, off, none⟩ = some (.int .u8 x0)) (hc1 : 1 < n → w.cell? ⟨b, off + 1, none⟩ = some (.int .u8 x1)) (hc2 : 2 < n → w.cell? ⟨b, off + 2, none⟩ = some (.int .u8 x2)) (hc3 : 3 < n → w.cell? ⟨b, off + 3, none⟩ = some (.int .u8 x3)) (hz : size1 x0 = 4) :
    Calls Tryd.prog 50 #[.slice (some ⟨b, off, none⟩) n cap] w fun e w' => e = .returned (res3 (nextN n x0 x1 x2 x3)) ∧ Below w.heap.size w w' := by
  have C := fun w => refSize x0 w h0
  have D := fun w => refSecond x0 x1 w h0 hx1
  rw [hz] at C
  have HC := Lib.hid C
  have HD := Lib.hid D
  have Hz := Lib.hid hz
  have HC1 := Lib.hid hc1
  have HC2 := Lib.hid hc2
  have HC3 := Lib.hid hc3
  clear C D hz hc1 hc2 hc3
  have hn0 : (((n : Nat) : Int) == 0) = false := by simp; omega
  have h0' : (x0 : Int) < 256 := by omega
  have h0'' : (0 : Int) ≤ (x0 : Int) := by omega
  have hx1' : (x1 : Int) < 256 := by omega
  have hx2' : (x2 : Int) < 256 := by omega
  have hx3' : (x3 : Int) < 256 := by omega
  have hb : b < w.heap.size := block_lt_of_cell hc
  go_enter Tryd.func50, Tryd.ntmps50
  go_wp2_with (go_at_call 66; refine (HC.out _).mono ?_; rintro e w' ⟨rfl, rfl⟩)
  clear hn0
  go_loopw [6, 7] (fun c i wr => ∃ k : Nat, 1 ≤ k ∧ k ≤ 4 ∧ k ≤ n ∧ i = .int .i64 k ∧ c = .int .i64 (cAt 8 x0 x1 x2 x3 k) ∧ let_ x0 x1 x2 x3 k ∧ Below w.heap.size w wr) (fun _ i _ => 5 - (RowKit.intOf i).toNat)
  case atStart => exact ⟨1, by omega, by omega, by omega, rfl, rfl, ⟨fun h => absurd h (by omega), fun h => absurd h (by omega), fun h => absurd h (by omega)⟩, Below.refl _ _⟩
  case round =>
    obtain ⟨k, hk1, hk2, hkn, rfl, rfl, hl, hbw⟩ := hrel
    rcases (show k = 1 ∨ k = 2 ∨ k = 3 ∨ k = 4 by omega) with rfl | rfl | rfl | rfl
    · -- round 1
      have HW := Lib.hid (c_bd (m := 8) (by omega) hx1 hx2 hx3 hl (by omega) (by omega))
      by_cases hnk : n = 1
      · have e := nx_short (x3 := x3) (by omega) (by rw [Hz.out]; omega) hl hnk
        subst hnk
        have He := Lib.hid e
        clear e
        go_wp2
        go_ret3
        exact ⟨by rw [He.out]; rfl, hbw⟩
      · have hkn : 1 < n := by omega
        have hne : (((1 : Int)) == ((n : Nat) : Int)) = false := by simp; omega
        have hne2 : (((1 : Nat)) == n) = false := by simp; omega
        have hlt : (1 : Int) < (n : Int) := by omega
        have cw : wr.cell? ⟨b, off + 1, none⟩ = some (.int .u8 x1) := by rw [hbw.cell (p := ⟨b, off + 1, none⟩) hb]; exact HC1.out hkn
        have cw0 : wr.cell? ⟨b, off, none⟩ = some (.int .u8 x0) := by rw [hbw.cell (p := ⟨b, off, none⟩) hb]; exact hc
        by_cases hok : okAt x0 x1 x2 x3 1 = true
        · have D := HD.out
          rw [show sec x0 x1 = true from hok] at D
          have HD' := Lib.hid D
          have Hok := Lib.hid hok
          have hcb := HW.out
          generalize hck : cAt 8 x0 x1 x2 x3 1 = ck at hcb ⊢
          have Hck := Lib.hid hck
          have hcb1 := hcb.1
          have hcb2 := hcb.2
          clear D hok hck hcb hnk
          go_wp2_with fail
          go_quiet ((go_at_call 67; exact quiet_left (HD'.out _)))
          go_wp2
          go_roundw
          case rel => exact ⟨2, by omega, by omega, by omega, rfl, by rw [← Hck.out]; rfl, ⟨fun _ => Hok.out, fun h => absurd h (by omega), fun h => absurd h (by omega)⟩, below_drewN hbw _⟩
          case measure => simp [RowKit.intOf]
        · have hok' : sec x0 x1 = false := by simpa [okAt] using hok
          have e := nx_bad (x3 := x3) (by omega) (by rw [Hz.out]; omega) hl hkn hok'
          have He := Lib.hid e
          have D := HD.out
          rw [hok'] at D
          have HD' := Lib.hid D
          clear D hok hok' e hnk
          go_wp2_with fail
          go_quiet ((go_at_call 67; exact quiet_left (HD'.out _)))
          go_wp2
          go_ret3
          exact ⟨by rw [He.out]; rfl, below_drewN hbw _⟩
    · -- round 2
      have HW := Lib.hid (c_bd (m := 8) (by omega) hx1 hx2 hx3 hl (by omega) (by omega))
      by_cases hnk : n = 2
      · have e := nx_short (x3 := x3) (by omega) (by rw [Hz.out]; omega) hl hnk
        subst hnk
        have He := Lib.hid e
        clear e
        go_wp2
        go_ret3
        exact ⟨by rw [He.out]; rfl, hbw⟩
      · have hkn : 2 < n := by omega
        have hne : (((2 : Int)) == ((n : Nat) : Int)) = false := by simp; omega
        have hne2 : (((2 : Nat)) == n) = false := by simp; omega
        have hlt : (2 : Int) < (n : Int) := by omega
        have cw : wr.cell? ⟨b, off + 2, none⟩ = some (.int .u8 x2) := by rw [hbw.cell (p := ⟨b, off + 2, none⟩) hb]; exact HC2.out hkn
        have cw0 : wr.cell? ⟨b, off, none⟩ = some (.int .u8 x0) := by rw [hbw.cell (p := ⟨b, off, none⟩) hb]; exact hc
        by_cases hok : okAt x0 x1 x2 x3 2 = true
        · have hcc := cont_iff.1.1 (show cont x2 = true from hok)
          have Hok := Lib.hid hok
          have hcb := HW.out
          generalize hck : cAt 8 x0 x1 x2 x3 2 = ck at hcb ⊢
          have Hck := Lib.hid hck
          have hcb1 := hcb.1
          have hcb2 := hcb.2
          have k1 : decide ((x2 : Int) < 128) = false := by simp; omega
          have k2 : decide ((191 : Int) < (x2 : Int)) = false := by simp; omega
          have HL := Lib.hid hl
          clear hok hck hcb hnk hcc hl
          go_wp2_with fail
          go_quiet (fail)
          go_wp2
          go_roundw
          case rel => have hl := HL.out; exact ⟨3, by omega, by omega, by omega, rfl, by rw [← Hck.out]; rfl, ⟨fun _ => hl.1 (by omega), fun _ => Hok.out, fun h => absurd h (by omega)⟩, below_drewN hbw _⟩
          case measure => simp [RowKit.intOf]
        · have hok' : cont x2 = false := by simpa [okAt] using hok
          have e := nx_bad (x3 := x3) (by omega) (by rw [Hz.out]; omega) hl hkn hok'
          have He := Lib.hid e
          have hcc := cont_iff.2.1 hok'
          by_cases hlo : x2 < 128
          · have k1 : ((x2 : Int) < 128) := by omega
            clear hok hok' e hnk hcc hlo hl
            go_wp2_with fail
            go_quiet (fail)
            go_wp2
            go_ret3
            exact ⟨by rw [He.out]; rfl, below_drewN hbw _⟩
          · have k1 : decide ((x2 : Int) < 128) = false := by simp; omega
            have k2 : (191 : Int) < (x2 : Int) := by omega
            clear hok hok' e hnk hcc hlo hl
            go_wp2_with fail
            go_quiet (fail)
            go_wp2
            go_ret3
            exact ⟨by rw [He.out]; rfl, below_drewN hbw _⟩
    · -- round 3
      have HW := Lib.hid (c_bd (m := 8) (by omega) hx1 hx2 hx3 hl (by omega) (by omega))
      by_cases hnk : n = 3
      · have e := nx_short (x3 := x3) (by omega) (by rw [Hz.out]; omega) hl hnk
        subst hnk
        have He := Lib.hid e
        clear e
        go_wp2
        go_ret3
        exact ⟨by rw [He.out]; rfl, hbw⟩
      · have hkn : 3 < n := by omega
        have hne : (((3 : Int)) == ((n : Nat) : Int)) = false := by simp; omega
        have hne2 : (((3 : Nat)) == n) = false := by simp; omega
        have hlt : (3 : Int) < (n : Int) := by omega
        have cw : wr.cell? ⟨b, off + 3, none⟩ = some (.int .u8 x3) := by rw [hbw.cell (p := ⟨b, off + 3, none⟩) hb]; exact HC3.out hkn
        have cw0 : wr.cell? ⟨b, off, none⟩ = some (.int .u8 x0) := by rw [hbw.cell (p := ⟨b, off, none⟩) hb]; exact hc
        by_cases hok : okAt x0 x1 x2 x3 3 = true
        · have hcc := cont_iff.1.1 (show cont x3 = true from hok)
          have Hok := Lib.hid hok
          have hcb := HW.out
          generalize hck : cAt 8 x0 x1 x2 x3 3 = ck at hcb ⊢
          have Hck := Lib.hid hck
          have hcb1 := hcb.1
          have hcb2 := hcb.2
          have k1 : decide ((x3 : Int) < 128) = false := by simp; omega
          have k2 : decide ((191 : Int) < (x3 : Int)) = false := by simp; omega
          have HL := Lib.hid hl
          clear hok hck hcb hnk hcc hl
          go_wp2_with fail
          go_quiet (fail)
          go_wp2
          go_roundw
          case rel => have hl := HL.out; exact ⟨4, by omega, by omega, by omega, rfl, by rw [← Hck.out]; rfl, ⟨fun _ => hl.1 (by omega), fun _ => hl.2.1 (by omega), fun _ => Hok.out⟩, below_drewN hbw _⟩
          case measure => simp [RowKit.intOf]
        · have hok' : cont x3 = false := by simpa [okAt] using hok
          have e := nx_bad (x3 := x3) (by omega) (by rw [Hz.out]; omega) hl hkn hok'
          have He := Lib.hid e
          have hcc := cont_iff.2.1 hok'
          by_cases hlo : x3 < 128
          · have k1 : ((x3 : Int) < 128) := by omega
            clear hok hok' e hnk hcc hlo hl
            go_wp2_with fail
            go_quiet (fail)
            go_wp2
            go_ret3
            exact ⟨by rw [He.out]; rfl, below_drewN hbw _⟩
          · have k1 : decide ((x3 : Int) < 128) = false := by simp; omega
            have k2 : (191 : Int) < (x3 : Int) := by omega
            clear hok hok' e hnk hcc hlo hl
            go_wp2_with fail
            go_quiet (fail)
            go_wp2
            go_ret3
            exact ⟨by rw [He.out]; rfl, below_drewN hbw _⟩
    · have e := nx_end (n := n) (m := 8) Hz.out (by omega) hl hkn
      have He := Lib.hid e
      clear e
      go_wp2
      go_ret3
      exact ⟨by rw [He.out]; rfl, hbw⟩

/-- The reference's Next at every slice of bytes. -/
theorem nextRef (l : List UInt8) (A : Option Addr) (cap : Nat) (w : World) (hA : BytesAt w A l) (hm : l.length ≤ 140737488355328) :
    Calls Tryd.prog 50 #[.slice A l.length cap] w fun e w' => e = .returned (res3 (next l)) ∧ Below w.heap.size w w' := by
  by_cases h0 : l = []
  · subst h0; exact ref_empty A cap w
  · obtain ⟨b, off, rfl, _, hc⟩ := hA h0
    have hn : 0 < l.length := List.length_pos_iff.2 h0
    have c0 : w.cell? ⟨b, off, none⟩ = some (.int .u8 (bt l 0 : Int)) := hc 0 hn
    unfold next
    rcases size_cases (bt l 0) with h | h | h | h | h
    · have e : nextN l.length (bt l 0) (bt l 1) (bt l 2) (bt l 3) = (0, 1, 8) := by unfold nextN; rw [if_neg (by omega), if_pos h]
      rw [e]; exact ref_zero b off _ cap _ w (by omega) (bt_lt _ _) c0 h
    · have e : nextN l.length (bt l 0) (bt l 1) (bt l 2) (bt l 3) = (bt l 0, 1, 0) := by unfold nextN; rw [if_neg (by omega), if_neg (by omega), if_pos h]
      rw [e]; exact ref_one b off _ cap _ w (by omega) (bt_lt _ _) c0 h
    · exact ref_of2 b off _ cap _ _ _ _ w (by omega) (bt_lt _ _) (bt_lt _ _) (bt_lt _ _) (bt_lt _ _) hm c0 (hc 1) h
    · exact ref_of3 b off _ cap _ _ _ _ w (by omega) (bt_lt _ _) (bt_lt _ _) (bt_lt _ _) (bt_lt _ _) hm c0 (hc 1) (hc 2) h
    · exact ref_of4 b off _ cap _ _ _ _ w (by omega) (bt_lt _ _) (bt_lt _ _) (bt_lt _ _) (bt_lt _ _) hm c0 (hc 1) (hc 2) (hc 3) h

end Go.Proofs.YtcakeolnokninaaDoor.Utf

/- The reference's Chars and Text, walked. -/
set_option linter.unusedVariables false
namespace Go.Proofs.YtcakeolnokninaaDoor.Utf
open Go.RowKit Go.Lib Go.Shelf UtfP

theorem chars_length_le : ∀ (l : List UInt8), (chars l).length ≤ l.length := by
  have : ∀ (n : Nat) (l : List UInt8), l.length ≤ n → (chars l).length ≤ l.length := by
    intro n
    induction n with
    | zero => intro l h; rw [List.eq_nil_of_length_eq_zero (by omega : l.length = 0)]; simp [chars_nil]
    | succ n ih =>
      intro l h
      by_cases hl : l = []
      · subst hl; simp [chars_nil]
      · rw [chars_cons hl]
        obtain ⟨f1, f2, _⟩ := next_facts hl
        have := ih (l.drop (next l).2.1) (by rw [List.length_drop]; omega)
        rw [List.length_drop] at this
        rw [List.length_cons]; omega
  intro l
  exact this l.length l (Nat.le_refl _)

set_option maxHeartbeats 2000000 in
theorem refChars (l : List UInt8) (A : Option Addr) (cap : Nat) (w : World) (hA : BytesAt w A l) (hcap : l.length ≤ cap) (hm : l.length ≤ 1099511627776) :
    Calls Tryd.prog 29 #[.slice A l.length cap] w fun e w' => ∃ v, e = .returned v ∧ OwnI w' w.heap.size v (chars l) ∧ Below w.heap.size w w' := by
  have HA := Lib.hid hA
  clear hA
  go_enter Tryd.func29, Tryd.ntmps29
  go_wp2
  go_loopw [3, 4] (fun out i wr => ∃ (j : Nat) (done : List Int), i = .int .i64 (j : Int) ∧ j ≤ l.length ∧ Hid (chars l = done ++ chars (l.drop j)) ∧ Hid (OwnI wr w.heap.size out done) ∧ done.length ≤ j ∧ Below w.heap.size w wr) (fun _ i _ => l.length - (RowKit.intOf i).toNat)
  case atStart => exact ⟨0, [], rfl, by omega, Lib.hid rfl, OwnI.nil _ _, by simp, Below.refl _ _⟩
  case round =>
    obtain ⟨j, done, rfl, hj, Hch, Hown, hdl, hbw⟩ := hrel
    by_cases hlt : j < l.length
    · have hne : l.drop j ≠ [] := fun h => by have := congrArg List.length h; rw [List.length_drop] at this; simp at this; omega
      obtain ⟨f1, f2, f3, _, f5, f6⟩ := next_facts hne
      have hcons := chars_cons hne
      obtain ⟨c, k, f, hc⟩ : ∃ c k f, next (l.drop j) = (c, k, f) := ⟨_, _, _, rfl⟩
      have C1 := (nextRef (l.drop j) (A.map (·.add j)) (cap - j) wr (by have := BytesAt.cut (HA.out.below hbw) (k := j) hcap; rwa [if_neg (by omega)] at this) (by rw [List.length_drop]; omega)).mono (R' := fun e w' => e = .returned (.tuple #[.int .i64 c, .int .i64 k, .int .i64 f]) ∧ Below wr.heap.size wr w') (fun e w' ⟨he, hb⟩ => ⟨by rw [he, hc]; rfl, hb⟩)
      have hhc : headC (l.drop j) = if f = 0 then (c : Int) else 65533 := by unfold headC; rw [hc]
      rw [hc] at f1 f2 f3 f5 hcons
      simp only at f1 f2 f3 f5 hcons
      rw [List.length_drop] at C1 f2
      rw [List.drop_drop] at hcons
      have H1 := Lib.hid C1
      have Hcons := Lib.hid hcons
      have k0 : (j : Int) < (l.length : Int) := by omega
      have k00 : (j : Int) ≤ (l.length : Int) := by omega
      have hsum : IntKind.i64.wrap ((j : Int) + (k : Int)) = (j : Int) + (k : Int) := IntWalk.i64_in _ (by omega)
      clear C1 hc hcons hne f6
      by_cases hf : f = 0
      · subst hf
        rw [if_pos rfl] at hhc
        have Hhc := Lib.hid hhc
        clear hhc f5
        go_wp2_with (first | (go_at_call 50; refine (H1.out).mono ?_; rintro e w1 ⟨rfl, hb1⟩) | (at_builtin; refine wpList_append_ints rfl _ _ rfl rfl ((Hown.out.below hb1).below ((Below.refl _ _).alloc (Nat.le_refl _) _)) rfl (src := [(c : Int)]) rfl (CellsAt.new _ _ _ _ rfl) ?_ ?_ ?_))
        · simp; omega
        · have := hbw.size; have := hb1.size; simp; omega
        intro v' w2 hown2 hg2
        have hb2 : Below w.heap.size w w2 := by
          have hs := hbw.size
          have hs1 := hb1.size
          refine ((hbw.trans (hb1.mono hs)).alloc (by omega) _).grown hg2 (by simp; omega) (fun k hk => ((Hown.out.below hb1).lt hk).1)
        clear hg2
        have Hown2 := Lib.hid hown2
        clear hown2
        go_wp2
        go_roundw
        case rel => exact ⟨j + k, done ++ [(c : Int)], by go_num, by omega, by unfold Hid; rw [Hch.out, Hcons.out, Hhc.out, List.append_assoc]; rfl, Hown2, by rw [List.length_append, List.length_singleton]; omega, hb2⟩
        case measure => simp [RowKit.intOf]; omega
      · rw [if_neg hf] at hhc
        have Hhc := Lib.hid hhc
        have k2 : ((f : Int) != 0) = true := by rw [bne_iff_ne]; omega
        clear hhc f5
        go_wp2_with (first | (go_at_call 50; refine (H1.out).mono ?_; rintro e w1 ⟨rfl, hb1⟩) | (at_builtin; refine wpList_append_ints rfl _ _ rfl rfl ((Hown.out.below hb1).below ((Below.refl _ _).alloc (Nat.le_refl _) _)) rfl (src := [(65533 : Int)]) rfl (CellsAt.new _ _ _ _ rfl) ?_ ?_ ?_))
        · simp; omega
        · have := hbw.size; have := hb1.size; simp; omega
        intro v' w2 hown2 hg2
        have hb2 : Below w.heap.size w w2 := by
          have hs := hbw.size
          have hs1 := hb1.size
          refine ((hbw.trans (hb1.mono hs)).alloc (by omega) _).grown hg2 (by simp; omega) (fun k hk => ((Hown.out.below hb1).lt hk).1)
        clear hg2
        have Hown2 := Lib.hid hown2
        clear hown2
        go_wp2
        go_roundw
        case rel => exact ⟨j + k, done ++ [(65533 : Int)], by go_num, by omega, by unfold Hid; rw [Hch.out, Hcons.out, Hhc.out, List.append_assoc]; rfl, Hown2, by rw [List.length_append, List.length_singleton]; omega, hb2⟩
        case measure => simp [RowKit.intOf]; omega
    · have hge : decide ((j : Int) < (l.length : Int)) = false := by simp; omega
      have hge' : decide (j < l.length) = false := by simp; omega
      have Hb := Lib.hid hbw
      have hjl : j = l.length := by omega
      have Hj := Lib.hid hjl
      clear hbw hlt hjl
      go_wp2
      go_ret
      refine ⟨_, rfl, ?_, Hb.out⟩
      have := Hch.out
      rw [Hj.out, List.drop_length, chars_nil, List.append_nil] at this
      rw [this]; exact Hown.out

end Go.Proofs.YtcakeolnokninaaDoor.Utf

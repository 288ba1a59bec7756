/- Texts of characters, plainly: where characters begin. -/
import Derived.Test.YtbkpnffgihjikaaDoorFine
set_option linter.unusedVariables false
namespace Go.Proofs.YtbkpnffgihjikaaDoor.Edit
open Go.RowKit Go.Lib Go.Shelf Utf UtfP

/-- the bytes of characters -/
def encs (cs : List Int) : List UInt8 := cs.flatMap enc
theorem encs_nil : encs [] = [] := rfl
theorem encs_cons (c : Int) (cs : List Int) : encs (c :: cs) = enc c ++ encs cs := by unfold encs; rw [List.flatMap_cons]
theorem encs_append (a b : List Int) : encs (a ++ b) = encs a ++ encs b := by unfold encs; rw [List.flatMap_append]
theorem encs_one (c : Int) : encs [c] = enc c := by unfold encs; simp

/-- does a character begin at a byte, or do the bytes end there? -/
def firstB (t : List UInt8) (i : Nat) : Bool := if i < t.length then !cont (bt t i) else true

theorem bt_append_left {l m : List UInt8} {i : Nat} (h : i < l.length) : bt (l ++ m) i = bt l i := by
  unfold bt
  rw [List.getD_eq_getElem?_getD, List.getD_eq_getElem?_getD, List.getElem?_append_left h]
theorem bt_append_right {l m : List UInt8} {i : Nat} (h : l.length ≤ i) : bt (l ++ m) i = bt m (i - l.length) := by
  unfold bt
  rw [List.getD_eq_getElem?_getD, List.getD_eq_getElem?_getD, List.getElem?_append_right h]

theorem enc_cont (c : Int) (hc : fineC c = true) (i : Nat) (hi : i < (enc c).length) : cont (bt (enc c) i) = decide (i ≠ 0) := by
  have hf := fineC_iff.1.1 hc
  have key : ∀ zs : List Int, encodeRuneZ c = zs → (∀ z ∈ zs, 0 ≤ z ∧ z < 256) → (∀ (j : Nat) (z : Int), zs[j]? = some z → (decide (128 ≤ z ∧ z ≤ 191)) = decide (j ≠ 0)) → cont (bt (enc c) i) = decide (i ≠ 0) := by
    intro zs hz hb hcnt
    have he := enc_eq hz
    rw [he] at hi ⊢
    rw [List.length_map] at hi
    have hz0 := hcnt i zs[i] (List.getElem?_eq_getElem hi)
    have hb0 := hb zs[i] (List.getElem_mem hi)
    rw [← hz0]
    unfold cont bt
    rw [List.getD_eq_getElem?_getD, List.getElem?_map, List.getElem?_eq_getElem hi]
    simp only [Option.map_some, Option.getD_some]
    have := u8_of hb0.1 hb0.2
    rw [Bool.eq_iff_iff]
    simp only [decide_eq_true_eq]
    omega
  by_cases h1 : c ≤ 127
  · refine key [c] (encodeRuneZ_one (by omega) h1) (by simp; omega) ?_
    intro j z hj
    rcases j with _ | j
    · simp at hj; subst hj; simp; omega
    · simp at hj
  by_cases h2 : c ≤ 2047
  · refine key _ (encodeRuneZ_two (by omega) h2) (by simp; omega) ?_
    intro j z hj
    rcases j with _ | _ | j
    · simp at hj; subst hj; simp; omega
    · simp at hj; subst hj; simp; omega
    · simp at hj
  by_cases h3 : c ≤ 65535
  · refine key _ (encodeRuneZ_three (by omega)) (by simp; omega) ?_
    intro j z hj
    rcases j with _ | _ | _ | j
    · simp at hj; subst hj; simp; omega
    · simp at hj; subst hj; simp; omega
    · simp at hj; subst hj; simp; omega
    · simp at hj
  · refine key _ (encodeRuneZ_four (by omega) (by omega)) (by simp; omega) ?_
    intro j z hj
    rcases j with _ | _ | _ | _ | j
    · simp at hj; subst hj; simp; omega
    · simp at hj; subst hj; simp; omega
    · simp at hj; subst hj; simp; omega
    · simp at hj; subst hj; simp; omega
    · simp at hj

def AllFine (cs : List Int) : Prop := ∀ c ∈ cs, fineC c = true

theorem firstB_head (a : List Int) (b : List Int) (h : AllFine b) : firstB (encs a ++ encs b) (encs a).length = true := by
  unfold firstB
  split
  · rename_i hlt
    cases b with
    | nil => simp [encs] at hlt
    | cons c cs =>
      have hc := h c (by simp)
      have hl := (enc_length c).1
      rw [bt_append_right (Nat.le_refl _), Nat.sub_self, encs_cons, bt_append_left (by omega), enc_cont c hc 0 (by omega)]
      rfl
  · rfl

theorem firstB_in (a : List Int) (c : Int) (b : List Int) (hc : fineC c = true) (i : Nat) (h0 : 0 < i) (hi : i < (enc c).length) : firstB (encs a ++ (enc c ++ encs b)) ((encs a).length + i) = false := by
  unfold firstB
  rw [if_pos (by simp; omega), bt_append_right (by omega), Nat.add_sub_cancel_left, bt_append_left hi, enc_cont c hc i hi]
  simp; omega

/-- how many characters begin ahead of a byte -/
def countB (t : List UInt8) : Nat → Nat
  | 0 => 0
  | n + 1 => countB t n + if firstB t n then 1 else 0

theorem countB_encs : ∀ (n : Nat) (a b : List Int), a.length = n → AllFine (a ++ b) → countB (encs a ++ encs b) (encs a).length = a.length := by
  intro n
  induction n with
  | zero =>
    intro a b hn _
    obtain rfl := List.eq_nil_of_length_eq_zero hn
    rfl
  | succ n ih =>
    intro a' b hn h
    have hne : a' ≠ [] := by intro e; rw [e] at hn; simp at hn
    obtain ⟨a, c, rfl⟩ : ∃ a c, a' = a ++ [c] := ⟨_, _, (List.dropLast_concat_getLast hne).symm⟩
    have hc : fineC c = true := h c (by simp)
    have e : encs (a ++ [c]) ++ encs b = encs a ++ encs (c :: b) := by rw [encs_append, encs_one, encs_cons, List.append_assoc]
    rw [e]
    have hl : (encs (a ++ [c])).length = (encs a).length + (enc c).length := by rw [encs_append, encs_one, List.length_append]
    rw [hl]
    have hfb : AllFine (c :: b) := by intro x hx; exact h x (by simp at hx ⊢; rcases hx with hx | hx <;> simp [hx])
    have ih' := ih a (c :: b) (by simp at hn; exact hn) (by intro x hx; exact h x (by simp at hx ⊢; rcases hx with hx | hx | hx <;> simp [hx]))
    have step : ∀ k, 1 ≤ k → k ≤ (enc c).length → countB (encs a ++ encs (c :: b)) ((encs a).length + k) = a.length + 1 := by
      intro k
      induction k with
      | zero => intro h; omega
      | succ k ihk =>
        intro _ hk
        show countB _ ((encs a).length + k) + (if firstB _ ((encs a).length + k) then 1 else 0) = _
        rcases Nat.eq_zero_or_pos k with h0 | h0
        · subst h0
          rw [Nat.add_zero, ih', firstB_head a (c :: b) hfb]
          rfl
        · rw [ihk h0 (by omega), encs_cons, firstB_in a c b hc k h0 (by omega)]
          rfl
    have := step (enc c).length (enc_length c).1 (Nat.le_refl _)
    rw [this, List.length_append]
    rfl

theorem bt_enc {c : Int} {zs : List Int} (h : encodeRuneZ c = zs) (hb : ∀ z ∈ zs, 0 ≤ z ∧ z < 256) (i : Nat) (z : Int) (hz : zs[i]? = some z) : (bt (enc c) i : Int) = z := by
  rw [enc_eq h]
  unfold bt
  rw [List.getD_eq_getElem?_getD, List.getElem?_map, hz]
  simp only [Option.map_some, Option.getD_some]
  have hb' := hb z (List.mem_of_getElem? hz)
  exact u8_of hb'.1 hb'.2

theorem take_of_bt (l m : List UInt8) (k : Nat) (hk : k ≤ l.length) (hm : m.length = k) (h : ∀ i, i < k → bt m i = bt l i) : m = l.take k := by
  apply List.ext_getElem
  · rw [List.length_take]; omega
  · intro i h1 h2
    have := h i (by omega)
    unfold bt at this
    rw [List.getD_eq_getElem?_getD, List.getD_eq_getElem?_getD, List.getElem?_eq_getElem h1, List.getElem?_eq_getElem (by omega)] at this
    simp only [Option.getD_some] at this
    rw [List.getElem_take]
    exact UInt8.toNat_inj.1 this

theorem enc_next {l : List UInt8} (he : (next l).2.2 = 0) : (enc ((next l).1 : Int)).length = (next l).2.1 ∧ ∀ i, i < (next l).2.1 → bt (enc ((next l).1 : Int)) i = bt l i := by
  revert he
  refine (?_ : (fun r : Nat × Nat × Nat => r.2.2 = 0 → (enc (r.1 : Int)).length = r.2.1 ∧ ∀ i, i < r.2.1 → bt (enc (r.1 : Int)) i = bt l i) (next l))
  have hk : ∀ {c : Prop} [Decidable c] {x y : Nat × Nat × Nat}, (c → (x.2.2 = 0 → (enc (x.1 : Int)).length = x.2.1 ∧ ∀ i, i < x.2.1 → bt (enc (x.1 : Int)) i = bt l i)) → (¬ c → (y.2.2 = 0 → (enc (y.1 : Int)).length = y.2.1 ∧ ∀ i, i < y.2.1 → bt (enc (y.1 : Int)) i = bt l i)) → ((if c then x else y).2.2 = 0 → (enc ((if c then x else y).1 : Int)).length = (if c then x else y).2.1 ∧ ∀ i, i < (if c then x else y).2.1 → bt (enc ((if c then x else y).1 : Int)) i = bt l i) := by
    intro c _ x y hx hy
    by_cases hc : c
    · rw [if_pos hc]; exact hx hc
    · rw [if_neg hc]; exact hy hc
  have hc := size_class (bt l 0)
  have hs := size_cases (bt l 0)
  have s := @sec_iff (bt l 0) (bt l 1)
  have hl := lo_hi_at (bt l 0)
  have hlh := lo_hi (bt l 0)
  have c2 := @cont_iff (bt l 2)
  have c3 := @cont_iff (bt l 3)
  have fin : ∀ (c : Nat) (zs : List Int) (k : Nat), encodeRuneZ (c : Int) = zs → zs.length = k → (∀ z ∈ zs, 0 ≤ z ∧ z < 256) → (∀ (i : Nat) (z : Int), zs[i]? = some z → z = (bt l i : Int)) → (enc (c : Int)).length = k ∧ ∀ i, i < k → bt (enc (c : Int)) i = bt l i := by
    intro c zs k hz hk hb hbt
    refine ⟨by rw [enc_eq hz, List.length_map, hk], fun i hi => ?_⟩
    have h1 := bt_enc hz hb i zs[i] (List.getElem?_eq_getElem (by omega))
    have h2 := hbt i zs[i] (List.getElem?_eq_getElem (by omega))
    omega
  unfold next nextN
  refine hk (fun _ h => absurd h (by decide)) (fun _ => hk (fun _ h => absurd (show (8 : Nat) = 0 from h) (by decide)) (fun a0 => hk (fun a1 _ => ?_) (fun a1 => hk (fun _ h => absurd (show (7 : Nat) = 0 from h) (by decide)) (fun _ => hk (fun _ h => absurd (show (8 : Nat) = 0 from h) (by decide)) (fun s1 => hk (fun a2 _ => ?_) (fun a2 => hk (fun _ h => absurd (show (7 : Nat) = 0 from h) (by decide)) (fun _ => hk (fun _ h => absurd (show (8 : Nat) = 0 from h) (by decide)) (fun s2 => hk (fun a3 _ => ?_) (fun a3 => hk (fun _ h => absurd (show (7 : Nat) = 0 from h) (by decide)) (fun _ => hk (fun _ h => absurd (show (8 : Nat) = 0 from h) (by decide)) (fun s3 _ => ?_)))))))))))
  · have := hc.1.1 a1
    refine fin (bt l 0) [(bt l 0 : Int)] 1 (encodeRuneZ_one (by omega) (by omega)) rfl (by simp; omega) ?_
    intro i z hz
    rcases i with _ | i
    · simp at hz; omega
    · simp at hz
  · have k1 := s.1.1 (by simpa using s1)
    have k4 := hc.2.1.1 a2
    have b1 := bt_lt l 1
    refine fin (bt l 0 % 32 * 64 + (bt l 1 - 128)) _ 2 (encodeRuneZ_two (by omega) (by omega)) rfl (by simp; omega) ?_
    intro i z hz
    rcases i with _ | _ | i
    · simp at hz; show z = ((bt l 0 : Nat) : Int); omega
    · simp at hz; show z = ((bt l 1 : Nat) : Int); omega
    · simp at hz
  · have k1 := s.1.1 (by simpa using s1)
    have k2 := c2.1.1 (by simpa using s2)
    have k4 := hc.2.2.1.1 a3
    have hr : (2048 ≤ ((bt l 0 % 16 * 4096 + (bt l 1 - 128) * 64 + (bt l 2 - 128) : Nat) : Int) ∧ ((bt l 0 % 16 * 4096 + (bt l 1 - 128) * 64 + (bt l 2 - 128) : Nat) : Int) < 55296) ∨ (57343 < ((bt l 0 % 16 * 4096 + (bt l 1 - 128) * 64 + (bt l 2 - 128) : Nat) : Int) ∧ ((bt l 0 % 16 * 4096 + (bt l 1 - 128) * 64 + (bt l 2 - 128) : Nat) : Int) ≤ 65535) := by
      by_cases e : bt l 0 = 237
      · have := hl.2.2.2.2.1 e
        omega
      · by_cases e' : bt l 0 = 224
        · have := hl.2.1 e'
          omega
        · omega
    refine fin (bt l 0 % 16 * 4096 + (bt l 1 - 128) * 64 + (bt l 2 - 128)) _ 3 (encodeRuneZ_three hr) rfl (by simp; omega) ?_
    intro i z hz
    rcases i with _ | _ | _ | i
    · simp at hz; show z = ((bt l 0 : Nat) : Int); omega
    · simp at hz; show z = ((bt l 1 : Nat) : Int); omega
    · simp at hz; show z = ((bt l 2 : Nat) : Int); omega
    · simp at hz
  · have k1 := s.1.1 (by simpa using s1)
    have k2 := c2.1.1 (by simpa using s2)
    have k3 := c3.1.1 (by simpa using s3)
    have k4 : 240 ≤ bt l 0 ∧ bt l 0 ≤ 244 := hc.2.2.2.1 (by omega)
    have hr : 65536 ≤ ((bt l 0 % 8 * 262144 + (bt l 1 - 128) * 4096 + (bt l 2 - 128) * 64 + (bt l 3 - 128) : Nat) : Int) ∧ ((bt l 0 % 8 * 262144 + (bt l 1 - 128) * 4096 + (bt l 2 - 128) * 64 + (bt l 3 - 128) : Nat) : Int) ≤ 1114111 := by
      by_cases e : bt l 0 = 244
      · have := hl.2.2.2.2.2 e
        omega
      · by_cases e' : bt l 0 = 240
        · have := hl.2.2.1 e'
          omega
        · omega
    refine fin (bt l 0 % 8 * 262144 + (bt l 1 - 128) * 4096 + (bt l 2 - 128) * 64 + (bt l 3 - 128)) _ 4 (encodeRuneZ_four hr.1 hr.2) rfl (by simp; omega) ?_
    intro i z hz
    rcases i with _ | _ | _ | _ | i
    · simp at hz; show z = ((bt l 0 : Nat) : Int); omega
    · simp at hz; show z = ((bt l 1 : Nat) : Int); omega
    · simp at hz; show z = ((bt l 2 : Nat) : Int); omega
    · simp at hz; show z = ((bt l 3 : Nat) : Int); omega
    · simp at hz

theorem fine_encs : ∀ (cs : List Int), (∀ c ∈ cs, printC c = true) → fineT (encs cs) = true
  | [], _ => rfl
  | c :: cs, h => by
    have hc := h c (by simp)
    have hf := printC_fine hc
    have hne : encs (c :: cs) ≠ [] := by rw [encs_cons]; intro e; exact enc_ne c (List.append_eq_nil_iff.1 e).1
    rw [fineT_cons hne, encs_cons, next_enc _ hf]
    have h0 := (fineC_iff.1.1 hf).1
    simp only [List.drop_left]
    rw [fine_encs cs (fun x hx => h x (by simp [hx])), Int.toNat_of_nonneg h0, hc]
    rfl

/-- a text of characters that may be shown is the bytes of some -/
theorem encs_of_fine : ∀ (n : Nat) (l : List UInt8), l.length ≤ n → fineT l = true → ∃ cs, l = encs cs ∧ ∀ c ∈ cs, printC c = true := by
  intro n
  induction n with
  | zero => intro l h _; exact ⟨[], List.eq_nil_of_length_eq_zero (by omega), by simp⟩
  | succ n ih =>
    intro l hl hf
    by_cases hne : l = []
    · exact ⟨[], hne, by simp⟩
    · obtain ⟨f1, f2, _⟩ := next_facts hne
      rw [fineT_cons hne] at hf
      simp only [Bool.and_eq_true, beq_iff_eq] at hf
      obtain ⟨⟨h1, h2⟩, h3⟩ := hf
      obtain ⟨cs, hcs, hp⟩ := ih (l.drop (next l).2.1) (by rw [List.length_drop]; omega) h3
      refine ⟨((next l).1 : Int) :: cs, ?_, ?_⟩
      · have hen := enc_next h1
        have := take_of_bt l _ _ f2 hen.1 hen.2
        rw [encs_cons, ← hcs, this, List.take_append_drop]
      · intro c hc
        simp at hc
        rcases hc with hc | hc
        · rw [hc]; exact h2
        · exact hp c hc

end Go.Proofs.YtbkpnffgihjikaaDoor.Edit

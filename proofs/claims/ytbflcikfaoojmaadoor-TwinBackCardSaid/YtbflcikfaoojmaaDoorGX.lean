/- Texts joined: TwE; TwG; PlT; PlU. -/
import Derived.Test.YtbflcikfaoojmaaDoorGT5
import Derived.Test.YtbflcikfaoojmaaDoorGK5
import Derived.Test.YtbflcikfaoojmaaDoorGP3
import Derived.Test.YtbflcikfaoojmaaDoorGP1
import Derived.Test.YtbflcikfaoojmaaDoorHPl4
/- Turns, plain: there and on, round the row, by one. -/
set_option linter.unusedVariables false
set_option linter.unusedSimpArgs false
namespace Go.Proofs.YtbflcikfaoojmaaDoor.Edit
open Go.RowKit Go.Lib Go.Shelf ChangeShapes Mem Utf UtfP

theorem turn1 {c z : Int} (h : c ≤ 126) : turnE c z = 32 + (c - 32 + z) % 95 := by unfold turnE rowE; rw [if_pos h]
theorem turn2 {c z : Int} (h0 : 126 < c) (h : c ≤ 2047) : turnE c z = 160 + (c - 160 + z) % 1888 := by unfold turnE rowE; rw [if_neg (by omega), if_pos h]
theorem turn4 {c z : Int} (h : 65535 < c) : turnE c z = 65536 + (c - 65536 + z) % 1048576 := by unfold turnE rowE; rw [if_neg (by omega), if_neg (by omega), if_pos h]
theorem turn3 {c z : Int} (h0 : 2047 < c) (h : c ≤ 65535) : ∃ r, r = 2048 + ((if 55296 < c then c - 2048 else c) - 2048 + z) % 61440 ∧ turnE c z = if 55296 ≤ r then r + 2048 else r := by
  refine ⟨_, rfl, ?_⟩
  unfold turnE rowE
  rw [if_neg (by omega), if_neg (by omega), if_neg (by omega)]

theorem turn_turn {c : Int} (a b : Int) (h : printC c = true) : turnE (turnE c a) b = turnE c (a + b) := by
  have hc := printC_iff.1 h
  by_cases h1 : c ≤ 126
  · rw [turn1 h1, turn1 h1]
    rw [turn1 (by omega)]
    omega
  · by_cases h2 : c ≤ 2047
    · rw [turn2 (by omega) h2, turn2 (by omega) h2, turn2 (by omega) (by omega)]
      omega
    · by_cases h3 : c ≤ 65535
      · obtain ⟨r1, e1, t1⟩ := turn3 (z := a) (by omega) h3
        obtain ⟨r2, e2, t2⟩ := turn3 (z := a + b) (by omega) h3
        have hb1 : 2048 ≤ r1 ∧ r1 < 63488 := by omega
        have hd : 2047 < turnE c a ∧ turnE c a ≤ 65535 := by rw [t1]; split <;> omega
        obtain ⟨r3, e3, t3⟩ := turn3 (z := b) hd.1 hd.2
        have hr : (if 55296 < turnE c a then turnE c a - 2048 else turnE c a) = r1 := by rw [t1]; split <;> split <;> omega
        rw [hr] at e3
        rw [t3, t2]
        have : r3 = r2 := by omega
        rw [this]
      · have e1 := turn4 (c := c) (z := a) (by omega)
        have e2 := turn4 (c := c) (z := a + b) (by omega)
        have e3 := turn4 (c := turnE c a) (z := b) (by omega)
        omega
theorem turn_round {c : Int} (h : printC c = true) {n : Int} (hn : (n = 95 ∧ (enc c).length = 1) ∨ (n = 1888 ∧ (enc c).length = 2) ∨ (n = 61440 ∧ (enc c).length = 3) ∨ (n = 1048576 ∧ (enc c).length = 4)) : turnE c n = c := by
  have hc := printC_iff.1 h
  have he := enc_len c (printC_fine h)
  have hcl : (n = 95 ∧ c ≤ 126) ∨ (n = 1888 ∧ 126 < c ∧ c ≤ 2047) ∨ (n = 61440 ∧ 2047 < c ∧ c ≤ 65535) ∨ (n = 1048576 ∧ 65535 < c) := by
    split at he
    · omega
    · split at he
      · omega
      · split at he
        · omega
        · omega
  rcases hcl with ⟨rfl, h1⟩ | ⟨rfl, h1, h2⟩ | ⟨rfl, h1, h2⟩ | ⟨rfl, h1⟩
  · rw [turn1 h1]; omega
  · rw [turn2 h1 h2]; omega
  · obtain ⟨r1, e1, t1⟩ := turn3 (z := 61440) h1 h2
    rw [t1]
    split at e1 <;> split <;> omega
  · rw [turn4 h1]; omega
theorem turn_one {c : Int} (h : printC c = true) : ¬ turnE c 1 = c := by
  have hc := printC_iff.1 h
  by_cases h1 : c ≤ 126
  · rw [turn1 h1]; omega
  · by_cases h2 : c ≤ 2047
    · rw [turn2 (by omega) h2]; omega
    · by_cases h3 : c ≤ 65535
      · obtain ⟨r1, e1, t1⟩ := turn3 (z := 1) (by omega) h3
        rw [t1]
        split at e1 <;> split <;> omega
      · rw [turn4 (by omega)]; omega

end Go.Proofs.YtbflcikfaoojmaaDoor.Edit

/- Keys of a plan's bytes and of its twin's: plain. -/
set_option linter.unusedVariables false
set_option linter.unusedSimpArgs false
namespace Go.Proofs.YtbflcikfaoojmaaDoor.Edit
open Go.RowKit Go.Lib Go.Shelf ChangeShapes Mem Utf UtfP

/-- two bytes that break a sequence alike -/
def FB (br : Bool) (a b : Nat) : Prop := a = b ∨ (192 ≤ a ∧ 192 ≤ b) ∨ (br = false ∧ a < 128 ∧ b < 128)

theorem bt_take {l : List UInt8} {n j : Nat} (h : j < n) : bt (l.take n) j = bt l j := by
  unfold bt
  rw [List.getD_eq_getElem?_getD, List.getD_eq_getElem?_getD, List.getElem?_take_of_lt h]
theorem bt_of_take {l l' : List UInt8} {n j : Nat} (ht : l'.take n = l.take n) (h : j < n) : bt l' j = bt l j := by
  rw [← bt_take h, ht, bt_take h]
theorem take_of_take {l l' : List UInt8} {n k : Nat} (ht : l'.take n = l.take n) (h : k ≤ n) : l'.take k = l.take k := by
  have := congrArg (List.take k) ht
  rwa [List.take_take, List.take_take, Nat.min_eq_left h] at this

theorem enc_first {c : Int} (h : fineC c = true) : (c < 128 ∧ (enc c).length = 1 ∧ bt (enc c) 0 < 128) ∨ (128 ≤ c ∧ 1 < (enc c).length ∧ 192 ≤ bt (enc c) 0) := by
  have hc := fineC_iff.1.1 h
  by_cases h1 : c < 128
  · have hz : encodeRuneZ c = [c] := by unfold encodeRuneZ; rw [if_pos (by omega)]
    have hb := bt_enc hz (by simp; omega) 0 c rfl
    exact .inl ⟨h1, by rw [(enc_of hz).2]; rfl, by omega⟩
  · refine .inr ⟨by omega, ?_⟩
    by_cases h2 : c < 2048
    · have hz : encodeRuneZ c = [192 + c / 64, 128 + c % 64] := by unfold encodeRuneZ; rw [if_neg (by omega), if_pos (by omega)]
      have hb := bt_enc hz (by simp; omega) 0 _ rfl
      exact ⟨by rw [(enc_of hz).2]; simp, by omega⟩
    · by_cases h3 : c < 65536
      · have hz : encodeRuneZ c = [224 + c / 4096, 128 + c / 64 % 64, 128 + c % 64] := by unfold encodeRuneZ; rw [if_neg (by omega), if_neg (by omega), if_pos (by omega)]
        have hb := bt_enc hz (by simp; omega) 0 _ rfl
        exact ⟨by rw [(enc_of hz).2]; simp, by omega⟩
      · have hz : encodeRuneZ c = [240 + c / 262144, 128 + c / 4096 % 64, 128 + c / 64 % 64, 128 + c % 64] := by unfold encodeRuneZ; rw [if_neg (by omega), if_neg (by omega), if_neg (by omega), if_pos (by omega)]
        have hb := bt_enc hz (by simp; omega) 0 _ rfl
        exact ⟨by rw [(enc_of hz).2]; simp, by omega⟩

theorem plF_first (z : Int) : ∀ (K : Nat) (br : Bool) (l : List UInt8), l ≠ [] → l.length ≤ K → FB br (bt l 0) (bt (plF z K br l) 0) := by
  intro K br l hl hK
  cases K with
  | zero => exact absurd (List.eq_nil_of_length_eq_zero (by omega)) hl
  | succ K =>
    unfold plF
    rw [if_neg hl]
    by_cases h27 : bt l 0 = 27
    · rw [if_pos h27]
      by_cases he : (seqN l).2.2 ≠ 0
      · rw [if_pos he]; exact .inl rfl
      · rw [if_neg he]
        have hp := tw_seqN_pos hl h27 (by simpa using he)
        have hle := tw_seqN_le l
        rw [bt_append (by rw [List.length_take]; omega), bt_take (by omega)]
        exact .inl rfl
    · rw [if_neg h27]
      have hf := next_facts hl
      have hpl := plC_len z l br hl
      rw [bt_append (by rw [hpl]; exact hf.1)]
      unfold plC
      by_cases hc : (next l).2.2 = 0 ∧ printC ((next l).1 : Int) = true ∧ (1 < (next l).2.1 ∨ br = false)
      · rw [if_pos hc]
        have hen := enc_next hc.1
        have h1 := enc_first (printC_fine hc.2.1)
        have htp := turnE_print z hc.2.1
        have h2 := enc_first (printC_fine htp.1)
        rw [htp.2] at h2
        rw [hen.2 0 (by exact hf.1), hen.1] at h1
        rw [hen.1] at h2
        rcases h1 with h1 | h1 <;> rcases h2 with h2 | h2
        · rcases hc.2.2 with h3 | h3
          · omega
          · exact .inr (.inr ⟨h3, h1.2.2, h2.2.2⟩)
        · omega
        · omega
        · exact .inr (.inl ⟨h1.2.2, h2.2.2⟩)
      · rw [if_neg hc, bt_take hf.1]
        exact .inl rfl

theorem seqF_ge (l : List UInt8) : ∀ (m i : Nat) (oth : Bool), (seqF l m i oth).2.2 = 0 → i ≤ (seqF l m i oth).2.1 := by
  intro m
  induction m with
  | zero => intro i oth h; exact absurd (show (7 : Int) = 0 from h) (by decide)
  | succ m ih =>
    intro i oth h
    unfold seqF at h ⊢
    split
    · show i ≤ i + 1; omega
    · rename_i h1
      rw [if_neg h1] at h
      split
      · show i ≤ i; omega
      · rename_i h2
        rw [if_neg h2] at h
        split
        · rename_i h3
          rw [if_pos h3] at h
          have := ih _ _ h
          omega
        · rename_i h3
          rw [if_neg h3] at h
          split
          · rename_i h4
            rw [if_pos h4] at h
            have := ih _ _ h
            omega
          · show i ≤ i; omega

theorem seqF_look (l l' : List UInt8) (k : Int) (n : Nat) (hn : n ≤ l'.length) (ht : l'.take n = l.take n) (hR : n < l.length → n < l'.length ∧ FB true (bt l n) (bt l' n)) :
    ∀ (m i m' : Nat) (oth : Bool), 2 ≤ i → i + m = l.length → i + m' = l'.length → seqF l m i oth = (k, n, 0) → seqF l' m' i oth = (k, n, 0) := by
  intro m
  induction m with
  | zero =>
    intro i m' oth _ _ _ h
    unfold seqF at h
    injection h with _ h
    injection h with _ h
    exact absurd h (by decide)
  | succ m ih =>
    intro i m' oth h2 hm hm' h
    have hge := seqF_ge l (m + 1) i oth (by rw [h])
    rw [h] at hge
    simp only at hge
    unfold seqF at h
    by_cases c1 : 64 ≤ bt l i ∧ bt l i ≤ 126
    · rw [if_pos c1] at h
      injection h with hk h
      injection h with hn' _
      obtain ⟨m'', rfl⟩ : ∃ m'', m' = m'' + 1 := ⟨m' - 1, by omega⟩
      unfold seqF
      rw [bt_of_take ht (show i < n by omega), if_pos c1, take_of_take ht (show i + 1 ≤ n by omega), hk, hn']
    · rw [if_neg c1] at h
      by_cases c2 : bt l 1 = 79 ∨ 34 ≤ i
      · rw [if_pos c2] at h
        injection h with hk h
        injection h with hn' _
        subst hn'
        obtain ⟨hl', hfb⟩ := hR (by omega)
        obtain ⟨m'', rfl⟩ : ∃ m'', m' = m'' + 1 := ⟨m' - 1, by omega⟩
        unfold seqF
        have d1 : ¬ (64 ≤ bt l' i ∧ bt l' i ≤ 126) := by
          rcases hfb with h | h | h
          · rw [← h]; exact c1
          · omega
          · exact absurd h.1 (by decide)
        rw [if_neg d1, bt_of_take ht (show 1 < i by omega), if_pos c2, hk]
      · rw [if_neg c2] at h
        by_cases c3 : (48 ≤ bt l i ∧ bt l i ≤ 63) ∧ oth = false
        · rw [if_pos c3] at h
          have hg2 := seqF_ge l m (i + 1) oth (by rw [h])
          rw [h] at hg2
          simp only at hg2
          obtain ⟨m'', rfl⟩ : ∃ m'', m' = m'' + 1 := ⟨m' - 1, by omega⟩
          unfold seqF
          rw [bt_of_take ht (show i < n by omega), bt_of_take ht (show 1 < n by omega), if_neg c1, if_neg c2, if_pos c3]
          exact ih (i + 1) m'' oth (by omega) (by omega) (by omega) h
        · rw [if_neg c3] at h
          by_cases c4 : 32 ≤ bt l i ∧ bt l i ≤ 47
          · rw [if_pos c4] at h
            have hg2 := seqF_ge l m (i + 1) true (by rw [h])
            rw [h] at hg2
            simp only at hg2
            obtain ⟨m'', rfl⟩ : ∃ m'', m' = m'' + 1 := ⟨m' - 1, by omega⟩
            unfold seqF
            rw [bt_of_take ht (show i < n by omega), bt_of_take ht (show 1 < n by omega), if_neg c1, if_neg c2, if_neg c3, if_pos c4]
            exact ih (i + 1) m'' true (by omega) (by omega) (by omega) h
          · rw [if_neg c4] at h
            injection h with hk h
            injection h with hn' _
            subst hn'
            obtain ⟨hl', hfb⟩ := hR (by omega)
            obtain ⟨m'', rfl⟩ : ∃ m'', m' = m'' + 1 := ⟨m' - 1, by omega⟩
            unfold seqF
            rw [bt_of_take ht (show 1 < i by omega)]
            rcases hfb with h | h | h
            · rw [← h, if_neg c1, if_neg c2, if_neg c3, if_neg c4, hk]
            · rw [if_neg (by omega), if_neg c2, if_neg (by omega), if_neg (by omega), hk]
            · exact absurd h.1 (by decide)

theorem seqN_look {l l' : List UInt8} {k : Int} {n : Nat} (h0 : l ≠ []) (h27 : bt l 0 = 27) (h : seqN l = (k, n, 0)) (hn : n ≤ l'.length) (ht : l'.take n = l.take n) (hR : n < l.length → n < l'.length ∧ FB true (bt l n) (bt l' n)) :
    seqN l' = (k, n, 0) := by
  have hp := tw_seqN_pos h0 h27 (by rw [h])
  rw [h] at hp
  simp only at hp
  have h0' : l' ≠ [] := by intro e; rw [e] at hn; simp at hn; omega
  have hl0 := List.length_pos_iff.2 h0
  have hb0 : bt l' 0 = 27 := by rw [bt_of_take ht (by omega), h27]
  unfold seqN at h ⊢
  rw [if_neg h0, if_neg (by simpa using h27)] at h
  rw [if_neg h0', if_neg (by simpa using hb0)]
  by_cases hb : 1 < l.length ∧ bt l 1 ≠ 91 ∧ bt l 1 ≠ 79
  · rw [if_pos hb] at h
    injection h with hk h
    injection h with hn' _
    subst hn'
    obtain ⟨hl', hfb⟩ := hR hb.1
    rw [if_pos ?_, hk]
    refine ⟨hl', ?_⟩
    rcases hfb with h | h | h
    · rw [← h]; exact hb.2
    · omega
    · exact absurd h.1 (by decide)
  · rw [if_neg hb] at h
    have hge := seqF_ge l _ _ _ (by rw [h])
    rw [h] at hge
    simp only at hge
    have hl2 : 2 ≤ l.length := by
      apply Classical.byContradiction
      intro hh
      rw [show l.length - 2 = 0 by omega] at h
      unfold seqF at h
      injection h with _ h
      injection h with _ h
      exact absurd h (by decide)
    rw [if_neg ?_]
    · exact seqF_look l l' k n hn ht hR _ _ _ _ (Nat.le_refl _) (by omega) (by omega) h
    · rw [bt_of_take ht (show 1 < n by omega)]
      rintro ⟨_, h1, h2⟩
      exact hb ⟨by omega, h1, h2⟩

/-- the sequence goes on as it did -/
theorem seqN_plan {l X : List UInt8} {k : Int} {n : Nat} (h0 : l ≠ []) (h27 : bt l 0 = 27) (h : seqN l = (k, n, 0)) (hX : n < l.length → X ≠ [] ∧ FB (begE (l.take n)) (bt l n) (bt X 0)) : seqN (l.take n ++ X) = (k, n, 0) := by
  have hp := tw_seqN_pos h0 h27 (by rw [h])
  have hle := tw_seqN_le l
  rw [h] at hp hle
  simp only at hp hle
  have htl : (l.take n).length = n := by rw [List.length_take]; omega
  have ht0 : l.take n ≠ [] := by intro e; rw [e] at htl; simp at htl; omega
  have ht27 : bt (l.take n) 0 = 27 := by rw [bt_take (by omega)]; exact h27
  cases hbg : begE (l.take n) with
  | false =>
    have hne : (seqN (l.take n)).2.2 ≠ 7 := by unfold begE at hbg; simpa using hbg
    have hok : (seqN (l.take n)).2.2 = 0 := by
      unfold seqN at hne ⊢
      rw [if_neg ht0, if_neg (by simpa using ht27)] at hne ⊢
      split
      · rfl
      · rename_i h1
        rw [if_neg h1] at hne
        by_cases h2 : 2 ≤ (l.take n).length
        · rcases (seqF_le (l.take n) ((l.take n).length - 2) 2 false (by omega)).2 with h3 | h3
          · exact h3
          · exact absurd h3 hne
        · rw [show (l.take n).length - 2 = 0 by omega] at hne
          exact absurd rfl hne
    rw [seqN_append X ht0 ht27 hok, ← seqN_append (l.drop n) ht0 ht27 hok, List.take_append_drop]
    exact h
  | true =>
    rw [hbg] at hX
    refine seqN_look h0 h27 h (by rw [List.length_append]; omega) (by rw [List.take_append_of_le_length (by omega), List.take_of_length_le (by omega)]) (fun hlt => ?_)
    obtain ⟨hx, hfb⟩ := hX hlt
    refine ⟨by rw [List.length_append]; have := List.length_pos_iff.2 hx; omega, ?_⟩
    have : bt (l.take n ++ X) n = bt X 0 := by
      unfold bt
      rw [List.getD_eq_getElem?_getD, List.getD_eq_getElem?_getD, List.getElem?_append_right (by omega), htl, Nat.sub_self]
    rw [this]
    exact hfb

theorem plF_plain' {z : Int} {k : Nat} {br : Bool} {l : List UInt8} (hl : l ≠ []) (h : bt l 0 ≠ 27) : plF z (k + 1) br l = plC z l (next l) br ++ plF z k false (l.drop (next l).2.1) := by
  conv => lhs; unfold plF
  rw [if_neg hl, if_neg h]

/-- what isn't right stays so -/
theorem next_look {l l' : List UInt8} {c n : Nat} (h0 : l ≠ []) (h : next l = (c, n, 8)) (hn : n ≤ l'.length) (ht : l'.take n = l.take n) (hR : n < l.length → n < l'.length ∧ FB false (bt l n) (bt l' n)) : next l' = (c, n, 8) := by
  have hf := next_facts h0
  rw [h] at hf
  have hn1 : 1 ≤ n := hf.1
  have hl0 := List.length_pos_iff.2 h0
  have b0 := bt_of_take ht (show 0 < n by omega)
  have lh := lo_hi (bt l 0)
  have out : ∀ (lo hi : Nat) (a b : Nat), FB false a b → 128 ≤ lo → hi ≤ 191 → ¬ (lo ≤ a ∧ a ≤ hi) → ¬ (lo ≤ b ∧ b ≤ hi) := by
    intro lo hi a b hfb h1 h2 h3
    rcases hfb with h | h | h <;> omega
  unfold next nextN at h ⊢
  have hl0' : ¬ l'.length = 0 := by omega
  have hl00 : ¬ l.length = 0 := by omega
  rw [if_neg hl00] at h
  rw [if_neg hl0', b0]
  by_cases a0 : size1 (bt l 0) = 0
  · rw [if_pos a0] at h ⊢; exact h
  · rw [if_neg a0] at h ⊢
    by_cases a1 : size1 (bt l 0) = 1
    · rw [if_pos a1] at h
      exact absurd (show (0 : Nat) = 8 from congrArg (fun r : Nat × Nat × Nat => r.2.2) h) (by decide)
    · rw [if_neg a1] at h ⊢
      by_cases n1 : l.length = 1
      · rw [if_pos n1] at h
        exact absurd (show (7 : Nat) = 8 from congrArg (fun r : Nat × Nat × Nat => r.2.2) h) (by decide)
      · rw [if_neg n1] at h
        by_cases s1 : sec (bt l 0) (bt l 1) = false
        · rw [if_pos s1] at h
          injection h with hc h
          injection h with hn' _
          subst hn'
          obtain ⟨hl', hfb⟩ := hR (by omega)
          have s2 : sec (bt l 0) (bt l' 1) = false := sec_iff.2.2 (out _ _ _ _ hfb lh.1 lh.2 (sec_iff.2.1 s1))
          rw [if_neg (show ¬ l'.length = 1 by omega), if_pos s2, hc]
        · rw [if_neg s1] at h
          by_cases a2 : size1 (bt l 0) = 2
          · rw [if_pos a2] at h
            exact absurd (show (0 : Nat) = 8 from congrArg (fun r : Nat × Nat × Nat => r.2.2) h) (by decide)
          · rw [if_neg a2] at h
            by_cases n2 : l.length = 2
            · rw [if_pos n2] at h
              exact absurd (show (7 : Nat) = 8 from congrArg (fun r : Nat × Nat × Nat => r.2.2) h) (by decide)
            · rw [if_neg n2] at h
              by_cases c2 : cont (bt l 2) = false
              · rw [if_pos c2] at h
                injection h with hc h
                injection h with hn' _
                subst hn'
                obtain ⟨hl', hfb⟩ := hR (by omega)
                have s2 : cont (bt l' 2) = false := cont_iff.2.2 (out _ _ _ _ hfb (Nat.le_refl _) (Nat.le_refl _) (cont_iff.2.1 c2))
                rw [if_neg (show ¬ l'.length = 1 by omega), bt_of_take ht (show 1 < 2 by omega), if_neg s1, if_neg a2, if_neg (show ¬ l'.length = 2 by omega), if_pos s2, hc]
              · rw [if_neg c2] at h
                by_cases a3 : size1 (bt l 0) = 3
                · rw [if_pos a3] at h
                  exact absurd (show (0 : Nat) = 8 from congrArg (fun r : Nat × Nat × Nat => r.2.2) h) (by decide)
                · rw [if_neg a3] at h
                  by_cases n3 : l.length = 3
                  · rw [if_pos n3] at h
                    exact absurd (show (7 : Nat) = 8 from congrArg (fun r : Nat × Nat × Nat => r.2.2) h) (by decide)
                  · rw [if_neg n3] at h
                    by_cases c3 : cont (bt l 3) = false
                    · rw [if_pos c3] at h
                      injection h with hc h
                      injection h with hn' _
                      subst hn'
                      obtain ⟨hl', hfb⟩ := hR (by omega)
                      have s2 : cont (bt l' 3) = false := cont_iff.2.2 (out _ _ _ _ hfb (Nat.le_refl _) (Nat.le_refl _) (cont_iff.2.1 c3))
                      rw [if_neg (show ¬ l'.length = 1 by omega), bt_of_take ht (show 1 < 3 by omega), if_neg s1, if_neg a2, if_neg (show ¬ l'.length = 2 by omega), bt_of_take ht (show 2 < 3 by omega), if_neg c2, if_neg a3, if_neg (show ¬ l'.length = 3 by omega), if_pos s2, hc]
                    · rw [if_neg c3] at h
                      exact absurd (show (0 : Nat) = 8 from congrArg (fun r : Nat × Nat × Nat => r.2.2) h) (by decide)

/-- keys of the same kinds, their characters of as many bytes -/
def KS : List (Int × Int) → List (Int × Int) → Prop
  | [], [] => True
  | a :: l, b :: m => (a.1 = b.1 ∧ (enc a.2).length = (enc b.2).length ∧ fineC a.2 = true ∧ fineC b.2 = true) ∧ KS l m
  | _, _ => False
theorem KS.len : ∀ {l m : List (Int × Int)}, KS l m → l.length = m.length
  | [], [], _ => rfl
  | _ :: l, _ :: m, h => by simp [KS.len h.2]
theorem KS.at : ∀ {l m : List (Int × Int)}, KS l m → ∀ (j : Nat) (a : Int × Int), l[j]? = some a → ∃ b, m[j]? = some b ∧ a.1 = b.1 ∧ (enc a.2).length = (enc b.2).length ∧ fineC a.2 = true ∧ fineC b.2 = true
  | [], [], _, j, a, h => by simp at h
  | x :: l, y :: m, hk, 0, a, h => by
    have : x = a := by simpa using h
    subst this
    exact ⟨y, rfl, hk.1⟩
  | x :: l, y :: m, hk, j + 1, a, h => KS.at hk.2 j a (by simpa using h)

theorem seqE_zero (ps : Bool) (k : Int) : (seqE ps k 0).2.1 = 0 := by
  unfold seqE
  repeat' split
  all_goals rfl
theorem charK_fine (ps : Bool) (c : Int) : fineC (charK ps c).2 = true := by
  unfold charK charE
  split
  · decide
  · unfold keyOf
    split
    · rename_i h; exact printC_fine h
    · show fineC 0 = true; decide
theorem charK_print {ps : Bool} {c : Int} (h : printC c = true) : charK ps c = (0, c) := by
  unfold charK charE keyOf
  rw [if_pos h]
  simp

theorem bt_drop0 {l : List UInt8} {n : Nat} : bt (l.drop n) 0 = bt l n := by
  unfold bt
  rw [List.getD_eq_getElem?_getD, List.getD_eq_getElem?_getD, List.getElem?_drop, Nat.add_zero]

theorem keys_same (z : Int) : ∀ (K : Nat) (br : Bool) (l : List UInt8) (ps : Bool), l.length ≤ K → KS (drain l ps).1 (drain (plF z K br l) ps).1 ∧ (drain l ps).2 = (drain (plF z K br l) ps).2 := by
  intro K
  induction K with
  | zero =>
    intro br l ps h
    obtain rfl := List.eq_nil_of_length_eq_zero (Nat.le_zero.1 h)
    rw [show plF z 0 br [] = [] from rfl, drain_none (nxE_nil ps)]
    exact ⟨trivial, rfl⟩
  | succ K ih =>
    intro br l ps hK
    by_cases hl : l = []
    · subst hl
      rw [show plF z (K + 1) br [] = [] by unfold plF; rw [if_pos rfl], drain_none (nxE_nil ps)]
      exact ⟨trivial, rfl⟩
    · have hl0 := List.length_pos_iff.2 hl
      by_cases h27 : bt l 0 = 27
      · by_cases he : (seqN l).2.2 ≠ 0
        · have e1 : plF z (K + 1) br l = l := by unfold plF; rw [if_neg hl, if_pos h27, if_pos he]
          have e2 : nxE l ps = none := by unfold nxE; rw [if_neg hl, if_pos h27, if_pos he]
          rw [e1, drain_none e2]
          exact ⟨trivial, rfl⟩
        · have he' : (seqN l).2.2 = 0 := by simpa using he
          obtain ⟨k, n, e, hs⟩ : ∃ k n e, seqN l = (k, n, e) := ⟨_, _, _, rfl⟩
          have hp := tw_seqN_pos hl h27 he'
          have hle := tw_seqN_le l
          rw [hs] at he' hp hle
          simp only at he' hp hle
          subst he'
          have e1 : plF z (K + 1) br l = l.take n ++ plF z K (begE (l.take n)) (l.drop n) := by
            conv => lhs; unfold plF
            rw [if_neg hl, if_pos h27, hs, if_neg (by simp)]
          have hdl : (l.drop n).length ≤ K := by rw [List.length_drop]; omega
          obtain ⟨X, hX⟩ : ∃ X, plF z K (begE (l.take n)) (l.drop n) = X := ⟨_, rfl⟩
          have hs2 : seqN (l.take n ++ X) = (k, n, 0) := by
            refine seqN_plan hl h27 hs (fun hlt => ?_)
            have hdn : l.drop n ≠ [] := by intro e; have := congrArg List.length e; rw [List.length_drop] at this; simp at this; omega
            have hfb := plF_first z K (begE (l.take n)) (l.drop n) hdn hdl
            rw [hX, bt_drop0] at hfb
            refine ⟨?_, hfb⟩
            intro e
            have := plF_len z K (begE (l.take n)) (l.drop n)
            rw [hX, e, List.length_drop] at this
            simp at this
            omega
          have htl : (l.take n).length = n := by rw [List.length_take]; omega
          have hne2 : l.take n ++ X ≠ [] := by intro e; have := congrArg List.length e; rw [List.length_append, htl, List.length_nil] at this; omega
          have hb2 : bt (l.take n ++ X) 0 = 27 := by rw [bt_append (by omega), bt_take (by omega)]; exact h27
          have x1 : nxE l ps = some (((seqE ps k 0).1, (seqE ps k 0).2.1), n, (seqE ps k 0).2.2) := by unfold nxE; rw [if_neg hl, if_pos h27, hs, if_neg (by simp)]
          have x2 : nxE (l.take n ++ X) ps = some (((seqE ps k 0).1, (seqE ps k 0).2.1), n, (seqE ps k 0).2.2) := by unfold nxE; rw [if_neg hne2, if_pos hb2, hs2, if_neg (by simp)]
          rw [e1, hX, drain_some x1, drain_some x2, List.drop_left' htl]
          have := ih (begE (l.take n)) (l.drop n) (seqE ps k 0).2.2 hdl
          rw [hX] at this
          exact ⟨⟨⟨rfl, rfl, by show fineC (seqE ps k 0).2.1 = true; rw [seqE_zero]; decide, by show fineC (seqE ps k 0).2.1 = true; rw [seqE_zero]; decide⟩, this.1⟩, this.2⟩
      · obtain ⟨c, n, e, hs⟩ : ∃ c n e, next l = (c, n, e) := ⟨_, _, _, rfl⟩
        have hf := next_facts hl
        have hpl := plC_len z l br hl
        rw [hs] at hf hpl
        obtain ⟨f1, f2, f3, f7, f5, f6⟩ := hf
        simp only at f1 f2 f3 f7 f5 f6 hpl
        have e1 : plF z (K + 1) br l = plC z l (c, n, e) br ++ plF z K false (l.drop n) := by rw [plF_plain' hl h27, hs]
        have hdl : (l.drop n).length ≤ K := by rw [List.length_drop]; omega
        obtain ⟨X, hX⟩ : ∃ X, plF z K false (l.drop n) = X := ⟨_, rfl⟩
        have IH := ih false (l.drop n) ps hdl
        have hXl := plF_len z K false (l.drop n)
        rw [hX] at IH hXl
        rw [e1, hX]
        rw [List.length_drop] at hXl
        by_cases h7 : e = 7
        · subst h7
          have hnl := (f7 rfl).1
          have hpc : plC z l (c, n, 7) br = l.take n := by unfold plC; rw [if_neg (by simp)]
          have hX0 : X = [] := List.eq_nil_of_length_eq_zero (by omega)
          rw [hpc, hX0, List.append_nil, List.take_of_length_le (by omega)]
          have x1 : nxE l ps = none := by unfold nxE; rw [if_neg hl, if_neg h27, hs, if_pos rfl]
          rw [drain_none x1]
          exact ⟨trivial, rfl⟩
        · have x1 : nxE l ps = some (charK ps (if e = 8 then 65533 else (c : Int)), n, ps) := by unfold nxE; rw [if_neg hl, if_neg h27, hs, if_neg h7]
          have fin : ∀ (c' : Nat) (e' : Nat) (Z : List UInt8), Z.length = n → next (Z ++ X) = (c', n, e') → e' ≠ 7 → bt Z 0 ≠ 27 → (charK ps (if e = 8 then 65533 else (c : Int))).1 = (charK ps (if e' = 8 then 65533 else (c' : Int))).1 → (enc (charK ps (if e = 8 then 65533 else (c : Int))).2).length = (enc (charK ps (if e' = 8 then 65533 else (c' : Int))).2).length →
              KS (drain l ps).1 (drain (Z ++ X) ps).1 ∧ (drain l ps).2 = (drain (Z ++ X) ps).2 := by
            intro c' e' Z hZ hZn he' hZ27 hk1 hk2
            have hne2 : Z ++ X ≠ [] := by intro e; have := congrArg List.length e; rw [List.length_append, hZ, List.length_nil] at this; omega
            have hb2 : ¬ bt (Z ++ X) 0 = 27 := by rw [bt_append (by omega)]; exact hZ27
            have x2 : nxE (Z ++ X) ps = some (charK ps (if e' = 8 then 65533 else (c' : Int)), n, ps) := by unfold nxE; rw [if_neg hne2, if_neg hb2, hZn, if_neg he']
            rw [drain_some x1, drain_some x2, List.drop_left' hZ]
            exact ⟨⟨⟨hk1, hk2, charK_fine _ _, charK_fine _ _⟩, IH.1⟩, IH.2⟩
          have htl : (l.take n).length = n := by rw [List.length_take]; omega
          have ht27 : bt (l.take n) 0 ≠ 27 := by rw [bt_take (by omega)]; exact h27
          by_cases h8 : e = 8
          · subst h8
            have hpc : plC z l (c, n, 8) br = l.take n := by unfold plC; rw [if_neg (by simp)]
            rw [hpc]
            refine fin c 8 (l.take n) htl ?_ (by decide) ht27 rfl rfl
            refine next_look hl hs (by rw [List.length_append]; omega) (by rw [List.take_append_of_le_length (by omega), List.take_of_length_le (by omega)]) (fun hlt => ?_)
            have hdn : l.drop n ≠ [] := by intro e; have := congrArg List.length e; rw [List.length_drop] at this; simp at this; omega
            have hfb := plF_first z K false (l.drop n) hdn hdl
            rw [hX, bt_drop0] at hfb
            refine ⟨by rw [List.length_append]; omega, ?_⟩
            have : bt (l.take n ++ X) n = bt X 0 := by
              unfold bt
              rw [List.getD_eq_getElem?_getD, List.getD_eq_getElem?_getD, List.getElem?_append_right (by omega), htl, Nat.sub_self]
            rw [this]
            exact hfb
          · have h0 : e = 0 := by rcases f5 with h | h | h <;> omega
            subst h0
            have hen := enc_next (l := l) (by rw [hs])
            rw [hs] at hen
            simp only at hen
            have hfc : fineC (c : Int) = true := by have := next_fineC (l := l) (by rw [hs]); rw [hs] at this; exact this
            by_cases hc : printC (c : Int) = true ∧ (1 < n ∨ br = false)
            · have htp := turnE_print z hc.1
              have hpc : plC z l (c, n, 0) br = enc (turnE (c : Int) z) := by unfold plC; rw [if_pos ⟨rfl, hc⟩]
              have hft := printC_fine htp.1
              have hle : (enc (turnE (c : Int) z)).length = n := by rw [htp.2]; exact hen.1
              have hge : 0 ≤ turnE (c : Int) z := (fineC_iff.1.1 hft).1
              have hnx := next_enc X hft
              rw [hle] at hnx
              rw [hpc]
              have h27' : bt (enc (turnE (c : Int) z)) 0 ≠ 27 := by
                rcases enc_first hft with h | h
                · have hp := printC_iff.1 htp.1
                  have hz : encodeRuneZ (turnE (c : Int) z) = [turnE (c : Int) z] := by unfold encodeRuneZ; rw [if_pos (by omega)]
                  have hb := bt_enc hz (by simp; omega) 0 _ rfl
                  omega
                · omega
              refine fin (turnE (c : Int) z).toNat 0 _ hle hnx (by decide) h27' ?_ ?_
              · rw [if_neg (by decide), if_neg (by decide), charK_print hc.1, charK_print (by rw [Int.toNat_of_nonneg hge]; exact htp.1)]
              · rw [if_neg (by decide), if_neg (by decide), charK_print hc.1, charK_print (by rw [Int.toNat_of_nonneg hge]; exact htp.1)]
                show (enc (c : Int)).length = (enc (((turnE (c : Int) z).toNat : Nat) : Int)).length
                rw [Int.toNat_of_nonneg hge]
                exact htp.2.symm
            · have hpc : plC z l (c, n, 0) br = l.take n := by unfold plC; rw [if_neg (fun h => hc ⟨h.2.1, h.2.2⟩)]
              rw [hpc]
              refine fin c 0 (l.take n) htl ?_ (by decide) ht27 rfl rfl
              have hte : enc (c : Int) = l.take n := take_of_bt l (enc (c : Int)) n f2 hen.1 hen.2
              rw [← hte]
              have := next_enc X hfc
              rw [hen.1] at this
              simpa using this

theorem keys_plan (z : Int) (l : List UInt8) : KS (drain l false).1 (drain (planE z l) false).1 ∧ (drain l false).2 = (drain (planE z l) false).2 := keys_same z l.length false l false (Nat.le_refl _)

end Go.Proofs.YtbflcikfaoojmaaDoor.Edit

/- A plan turned back, plain: bytes turned and turned back; the secret characters of turned bytes. -/
set_option linter.unusedVariables false
set_option linter.unusedSimpArgs false
namespace Go.Proofs.YtbflcikfaoojmaaDoor.Edit
open Go.RowKit Go.Lib Go.Shelf ChangeShapes Mem Utf UtfP

theorem turn_zero {c : Int} (h : printC c = true) : turnE c 0 = c := by
  have hc := printC_iff.1 h
  by_cases h1 : c ≤ 126
  · rw [turn1 h1]; omega
  · by_cases h2 : c ≤ 2047
    · rw [turn2 (by omega) h2]; omega
    · by_cases h3 : c ≤ 65535
      · obtain ⟨r1, e1, t1⟩ := turn3 (z := 0) (by omega) h3
        rw [t1]
        split at e1 <;> split <;> omega
      · rw [turn4 (by omega)]; omega
theorem turn_back {c : Int} (z : Int) (h : printC c = true) : turnE (turnE c z) (-z) = c := by
  rw [turn_turn z (-z) h, Int.add_right_neg, turn_zero h]

/-- one character, if it is secret -/
def chL (r : Nat × Nat × Nat) (br : Bool) : List Int := if r.2.2 = 0 ∧ printC (r.1 : Int) = true ∧ (1 < r.2.1 ∨ br = false) then [(r.1 : Int)] else []
/-- the secret characters, part by part -/
def secL : Nat → Bool → List UInt8 → List Int
  | 0, _, _ => []
  | k + 1, br, l =>
    if l = [] then [] else
    if bt l 0 = 27 then
      if (seqN l).2.2 ≠ 0 then [] else secL k (begE (l.take (seqN l).2.1)) (l.drop (seqN l).2.1)
    else chL (next l) br ++ secL k false (l.drop (next l).2.1)
theorem secF_chars (b : List UInt8) : ∀ (k i : Nat) (br : Bool), (secF b k i br).map (·.2) = secL k br (b.drop i) := by
  intro k
  induction k with
  | zero => intro i br; rfl
  | succ k ih =>
    intro i br
    unfold secF secL
    by_cases hlt : b.length ≤ i
    · rw [if_pos hlt, if_pos (List.drop_eq_nil_of_le hlt)]
      rfl
    · have hne : b.drop i ≠ [] := by intro e; have := congrArg List.length e; rw [List.length_drop] at this; simp at this; omega
      rw [if_neg hlt, if_neg hne]
      by_cases h27 : bt (b.drop i) 0 = 27
      · rw [if_pos h27, if_pos h27]
        by_cases he : (seqN (b.drop i)).2.2 ≠ 0
        · rw [if_pos he, if_pos he]; rfl
        · rw [if_neg he, if_neg he, ih, List.drop_drop]
      · rw [if_neg h27, if_neg h27, List.map_append, ih, List.drop_drop]
        congr 1
        unfold secC chL
        split <;> rfl
theorem secE_chars (b : List UInt8) : (secE b).map (·.2) = secL b.length false b := by
  unfold secE
  rw [secF_chars, List.drop_zero]

theorem back_same (z : Int) : ∀ (K : Nat) (br : Bool) (l : List UInt8), l.length ≤ K → plF (-z) K br (plF z K br l) = l ∧ secL K br (plF z K br l) = (secL K br l).map (turnE · z) := by
  intro K
  induction K with
  | zero =>
    intro br l h
    obtain rfl := List.eq_nil_of_length_eq_zero (Nat.le_zero.1 h)
    exact ⟨rfl, rfl⟩
  | succ K ih =>
    intro br l hK
    by_cases hl : l = []
    · subst hl
      have e : ∀ y, plF y (K + 1) br [] = [] := fun y => by unfold plF; rw [if_pos rfl]
      have e2 : secL (K + 1) br [] = [] := by unfold secL; rw [if_pos rfl]
      rw [e, e, e2]
      exact ⟨rfl, rfl⟩
    · have hl0 := List.length_pos_iff.2 hl
      by_cases h27 : bt l 0 = 27
      · by_cases he : (seqN l).2.2 ≠ 0
        · have e1 : ∀ y, plF y (K + 1) br l = l := fun y => by unfold plF; rw [if_neg hl, if_pos h27, if_pos he]
          have e2 : secL (K + 1) br l = [] := by unfold secL; rw [if_neg hl, if_pos h27, if_pos he]
          rw [e1, e1, e2]
          exact ⟨rfl, rfl⟩
        · have he' : (seqN l).2.2 = 0 := by simpa using he
          obtain ⟨k, n, e, hs⟩ : ∃ k n e, seqN l = (k, n, e) := ⟨_, _, _, rfl⟩
          have hp := tw_seqN_pos hl h27 he'
          have hle := tw_seqN_le l
          rw [hs] at he' hp hle
          simp only at he' hp hle
          subst he'
          have e1 : plF z (K + 1) br l = l.take n ++ plF z K (begE (l.take n)) (l.drop n) := by
            conv => lhs; unfold plF
            rw [if_neg hl, if_pos h27, hs, if_neg (by simp)]
          have s1 : secL (K + 1) br l = secL K (begE (l.take n)) (l.drop n) := by
            conv => lhs; unfold secL
            rw [if_neg hl, if_pos h27, hs, if_neg (by simp)]
          have hdl : (l.drop n).length ≤ K := by rw [List.length_drop]; omega
          have IH := ih (begE (l.take n)) (l.drop n) hdl
          obtain ⟨X, hX⟩ : ∃ X, plF z K (begE (l.take n)) (l.drop n) = X := ⟨_, rfl⟩
          rw [hX] at IH
          have hs2 : seqN (l.take n ++ X) = (k, n, 0) := by
            refine seqN_plan hl h27 hs (fun hlt => ?_)
            have hdn : l.drop n ≠ [] := by intro e; have := congrArg List.length e; rw [List.length_drop] at this; simp at this; omega
            have hfb := plF_first z K (begE (l.take n)) (l.drop n) hdn hdl
            rw [hX, bt_drop0] at hfb
            refine ⟨?_, hfb⟩
            intro e
            have := plF_len z K (begE (l.take n)) (l.drop n)
            rw [hX, e, List.length_drop] at this
            simp at this
            omega
          have htl : (l.take n).length = n := by rw [List.length_take]; omega
          have hne2 : l.take n ++ X ≠ [] := by intro e; have := congrArg List.length e; rw [List.length_append, htl, List.length_nil] at this; omega
          have hb2 : bt (l.take n ++ X) 0 = 27 := by rw [bt_append (by omega), bt_take (by omega)]; exact h27
          have ht2 : (l.take n ++ X).take n = l.take n := List.take_left' htl
          have hd2 : (l.take n ++ X).drop n = X := List.drop_left' htl
          have e2 : plF (-z) (K + 1) br (l.take n ++ X) = l.take n ++ plF (-z) K (begE (l.take n)) X := by
            conv => lhs; unfold plF
            rw [if_neg hne2, if_pos hb2, hs2, if_neg (by simp)]
            show (l.take n ++ X).take n ++ plF (-z) K (begE ((l.take n ++ X).take n)) ((l.take n ++ X).drop n) = _
            rw [ht2, hd2]
          have s2 : secL (K + 1) br (l.take n ++ X) = secL K (begE (l.take n)) X := by
            conv => lhs; unfold secL
            rw [if_neg hne2, if_pos hb2, hs2, if_neg (by simp)]
            show secL K (begE ((l.take n ++ X).take n)) ((l.take n ++ X).drop n) = _
            rw [ht2, hd2]
          rw [e1, hX, e2, s2, s1, IH.1, List.take_append_drop]
          exact ⟨rfl, IH.2⟩
      · obtain ⟨c, n, e, hs⟩ : ∃ c n e, next l = (c, n, e) := ⟨_, _, _, rfl⟩
        have hf := next_facts hl
        have hpl := plC_len z l br hl
        rw [hs] at hf hpl
        obtain ⟨f1, f2, f3, f7, f5, f6⟩ := hf
        simp only at f1 f2 f3 f7 f5 f6 hpl
        have e1 : plF z (K + 1) br l = plC z l (c, n, e) br ++ plF z K false (l.drop n) := by rw [plF_plain' hl h27, hs]
        have s1 : secL (K + 1) br l = chL (c, n, e) br ++ secL K false (l.drop n) := by
          conv => lhs; unfold secL
          rw [if_neg hl, if_neg h27, hs]
        have hdl : (l.drop n).length ≤ K := by rw [List.length_drop]; omega
        obtain ⟨X, hX⟩ : ∃ X, plF z K false (l.drop n) = X := ⟨_, rfl⟩
        have IH := ih false (l.drop n) hdl
        have hXl := plF_len z K false (l.drop n)
        rw [hX] at IH hXl
        rw [e1, hX, s1]
        rw [List.length_drop] at hXl
        have htl : (l.take n).length = n := by rw [List.length_take]; omega
        have fin : ∀ (c' e' : Nat) (Z : List UInt8), Z.length = n → next (Z ++ X) = (c', n, e') → bt Z 0 ≠ 27 → plC (-z) (Z ++ X) (c', n, e') br = l.take n → chL (c', n, e') br = (chL (c, n, e) br).map (turnE · z) →
            plF (-z) (K + 1) br (Z ++ X) = l ∧ secL (K + 1) br (Z ++ X) = (chL (c, n, e) br ++ secL K false (l.drop n)).map (turnE · z) := by
          intro c' e' Z hZ hZn hZ27 hpc hch
          have hne2 : Z ++ X ≠ [] := by intro e; have := congrArg List.length e; rw [List.length_append, hZ, List.length_nil] at this; omega
          have hb2 : ¬ bt (Z ++ X) 0 = 27 := by rw [bt_append (by omega)]; exact hZ27
          have hd2 : (Z ++ X).drop n = X := List.drop_left' hZ
          refine ⟨?_, ?_⟩
          · rw [plF_plain' hne2 hb2, hZn]
            show plC (-z) (Z ++ X) (c', n, e') br ++ plF (-z) K false ((Z ++ X).drop n) = l
            rw [hpc, hd2, IH.1, List.take_append_drop]
          · conv => lhs; unfold secL
            rw [if_neg hne2, if_neg hb2, hZn]
            show chL (c', n, e') br ++ secL K false ((Z ++ X).drop n) = _
            rw [hch, hd2, IH.2, List.map_append]
        have ht27 : bt (l.take n) 0 ≠ 27 := by rw [bt_take (by omega)]; exact h27
        have ht2 : (l.take n ++ X).take n = l.take n := List.take_left' htl
        have keep : ∀ (c' e' : Nat), (e' ≠ 0 ∨ ¬ (printC (c' : Int) = true ∧ (1 < n ∨ br = false))) → plC (-z) (l.take n ++ X) (c', n, e') br = l.take n ∧ chL (c', n, e') br = [] := by
          intro c' e' h
          have hc : ¬ (e' = 0 ∧ printC (c' : Int) = true ∧ (1 < n ∨ br = false)) := by
            rintro ⟨h1, h2, h3⟩
            rcases h with h | h
            · exact h h1
            · exact h ⟨h2, h3⟩
          refine ⟨?_, ?_⟩
          · unfold plC
            rw [if_neg hc]
            exact ht2
          · unfold chL
            rw [if_neg hc]
        by_cases h7 : e = 7
        · subst h7
          have hnl := (f7 rfl).1
          have hpc : plC z l (c, n, 7) br = l.take n := by unfold plC; rw [if_neg (by simp)]
          have hX0 : X = [] := List.eq_nil_of_length_eq_zero (by omega)
          rw [hpc]
          have hk := keep c 7 (.inl (by decide))
          refine fin c 7 (l.take n) htl ?_ ht27 hk.1 (by simp [hk.2])
          rw [hX0, List.append_nil, List.take_of_length_le (by omega)]
          exact hs
        · by_cases h8 : e = 8
          · subst h8
            have hpc : plC z l (c, n, 8) br = l.take n := by unfold plC; rw [if_neg (by simp)]
            rw [hpc]
            have hk := keep c 8 (.inl (by decide))
            refine fin c 8 (l.take n) htl ?_ ht27 hk.1 (by simp [hk.2])
            refine next_look hl hs (by rw [List.length_append]; omega) (by rw [List.take_append_of_le_length (by omega), List.take_of_length_le (by omega)]) (fun hlt => ?_)
            have hdn : l.drop n ≠ [] := by intro e; have := congrArg List.length e; rw [List.length_drop] at this; simp at this; omega
            have hfb := plF_first z K false (l.drop n) hdn hdl
            rw [hX, bt_drop0] at hfb
            refine ⟨by rw [List.length_append]; omega, ?_⟩
            have : bt (l.take n ++ X) n = bt X 0 := by
              unfold bt
              rw [List.getD_eq_getElem?_getD, List.getD_eq_getElem?_getD, List.getElem?_append_right (by omega), htl, Nat.sub_self]
            rw [this]
            exact hfb
          · have h0 : e = 0 := by rcases f5 with h | h | h <;> omega
            subst h0
            have hen := enc_next (l := l) (by rw [hs])
            rw [hs] at hen
            simp only at hen
            have hfc : fineC (c : Int) = true := by have := next_fineC (l := l) (by rw [hs]); rw [hs] at this; exact this
            have hte : enc (c : Int) = l.take n := take_of_bt l (enc (c : Int)) n f2 hen.1 hen.2
            by_cases hc : printC (c : Int) = true ∧ (1 < n ∨ br = false)
            · have htp := turnE_print z hc.1
              have hpc : plC z l (c, n, 0) br = enc (turnE (c : Int) z) := by unfold plC; rw [if_pos ⟨rfl, hc⟩]
              have hft := printC_fine htp.1
              have hle : (enc (turnE (c : Int) z)).length = n := by rw [htp.2]; exact hen.1
              have hge : 0 ≤ turnE (c : Int) z := (fineC_iff.1.1 hft).1
              have hnx := next_enc X hft
              rw [hle] at hnx
              rw [hpc]
              have h27' : bt (enc (turnE (c : Int) z)) 0 ≠ 27 := by
                rcases enc_first hft with h | h
                · have hp := printC_iff.1 htp.1
                  have hz : encodeRuneZ (turnE (c : Int) z) = [turnE (c : Int) z] := by unfold encodeRuneZ; rw [if_pos (by omega)]
                  have hb := bt_enc hz (by simp; omega) 0 _ rfl
                  omega
                · omega
              have hcn : (((turnE (c : Int) z).toNat : Nat) : Int) = turnE (c : Int) z := Int.toNat_of_nonneg hge
              have hcc : (0 : Nat) = 0 ∧ printC (((turnE (c : Int) z).toNat : Nat) : Int) = true ∧ (1 < n ∨ br = false) := ⟨rfl, by rw [hcn]; exact htp.1, hc.2⟩
              have hc0 : (0 : Nat) = 0 ∧ printC (c : Int) = true ∧ (1 < n ∨ br = false) := ⟨rfl, hc⟩
              refine fin (turnE (c : Int) z).toNat 0 _ hle hnx h27' ?_ ?_
              · unfold plC
                rw [if_pos hcc]
                show enc (turnE (((turnE (c : Int) z).toNat : Nat) : Int) (-z)) = l.take n
                rw [hcn, turn_back z hc.1]
                exact hte
              · unfold chL
                rw [if_pos hcc, if_pos hc0]
                show [(((turnE (c : Int) z).toNat : Nat) : Int)] = [turnE (c : Int) z]
                rw [hcn]
            · have hpc : plC z l (c, n, 0) br = l.take n := by unfold plC; rw [if_neg (fun h => hc ⟨h.2.1, h.2.2⟩)]
              rw [hpc]
              have hk := keep c 0 (.inr hc)
              refine fin c 0 (l.take n) htl ?_ ht27 hk.1 (by simp [hk.2])
              rw [← hte]
              have := next_enc X hfc
              rw [hen.1] at this
              simpa using this

theorem planE_back (z : Int) (b : List UInt8) : planE (-z) (planE z b) = b := by
  unfold planE
  rw [plF_len]
  exact (back_same z b.length false b (Nat.le_refl _)).1
theorem secE_turned (z : Int) (b : List UInt8) : (secE (planE z b)).map (·.2) = ((secE b).map (·.2)).map (turnE · z) := by
  rw [secE_chars, secE_chars, planE_len]
  exact (back_same z b.length false b (Nat.le_refl _)).2

end Go.Proofs.YtbflcikfaoojmaaDoor.Edit

/- A plan turned, and turned back: plain facts of the cutting. -/
set_option linter.unusedVariables false
set_option linter.unusedSimpArgs false
namespace Go.Proofs.YtbflcikfaoojmaaDoor.Edit
open Go.RowKit Go.Lib Go.Shelf ChangeShapes Mem Utf UtfP

/-- an item's bytes, by its number, in a list of what items hold -/
def datC (c : List Core) (i : Int) : List UInt8 := (c[i.toNat]?.map fun x => x.2.2.2).getD []
theorem datC_of {c : List Core} {i : Int} {x : Core} (h : c[i.toNat]? = some x) : datC c i = x.2.2.2 := by
  unfold datC
  rw [h]
  rfl
theorem dat_core (its : List It) (i : Int) : dat its i = datC (its.map It.core) i := by
  unfold dat datC
  rw [List.getElem?_map]
  cases its[i.toNat]? with
  | none => rfl
  | some x => rfl
/-- what is not cut stays -/
def hd3 (x : Core) : Nat × Int × Int := (x.1, x.2.1, x.2.2.1)
theorem setL_len (c : List Core) (j : Nat) (l : List UInt8) : (setL c j l).length = c.length := by unfold setL; rw [List.length_modify]
theorem setL_at (c : List Core) (j m : Nat) (l : List UInt8) : (setL c j l)[m]? = if j = m then c[m]?.map (fun x => (x.1, x.2.1, x.2.2.1, l)) else c[m]? := by
  unfold setL
  rw [List.getElem?_modify]
  by_cases e : j = m
  · rw [if_pos e]
    cases c[m]? with
    | none => rfl
    | some x => simp [e]
  · rw [if_neg e]
    cases c[m]? with
    | none => rfl
    | some x => simp [e]

theorem cut_at (its : List It) : ∀ (o : List Int) (b : List UInt8) (c : List Core), o.Nodup → (∀ i ∈ o, 0 ≤ i ∧ i.toNat < c.length) → b.length = remL its o →
    (cutE its o b c).length = c.length ∧ (∀ j : Nat, ((cutE its o b c)[j]?).map hd3 = (c[j]?).map hd3) ∧ (∀ j : Nat, (∀ i ∈ o, i.toNat ≠ j) → (cutE its o b c)[j]? = c[j]?) ∧
    o.flatMap (datC (cutE its o b c)) = b ∧ ∀ i ∈ o, (datC (cutE its o b c) i).length = (dat its i).length := by
  intro o
  induction o with
  | nil =>
    intro b c _ _ hb
    have : b = [] := List.eq_nil_of_length_eq_zero hb
    subst this
    exact ⟨rfl, fun _ => rfl, fun _ _ => rfl, rfl, fun i hi => by cases hi⟩
  | cons i o ih =>
    intro b c hnd hin hb
    have e : cutE its (i :: o) b c = cutE its o (b.drop (dat its i).length) (setL c i.toNat (b.take (dat its i).length)) := rfl
    have hr : remL its (i :: o) = (dat its i).length + remL its o := by unfold remL; rw [List.map_cons, List.sum_cons]
    rw [hr] at hb
    obtain ⟨n, hn⟩ : ∃ n, (dat its i).length = n := ⟨_, rfl⟩
    rw [hn] at e hb
    have hnd' := List.nodup_cons.1 hnd
    have hi0 := hin i (by simp)
    have IH := ih (b.drop n) (setL c i.toNat (b.take n)) hnd'.2 (fun k hk => by rw [setL_len]; exact hin k (by simp [hk])) (by rw [List.length_drop]; omega)
    rw [e]
    obtain ⟨h1, h2, h3, h4, h5⟩ := IH
    obtain ⟨C, hC⟩ : ∃ C, cutE its o (b.drop n) (setL c i.toNat (b.take n)) = C := ⟨_, rfl⟩
    rw [hC] at h1 h2 h3 h4 h5 ⊢
    have hCi : C[i.toNat]? = (c[i.toNat]?).map (fun x => (x.1, x.2.1, x.2.2.1, b.take n)) := by
      rw [h3 i.toNat (fun k hk ek => hnd'.1 (by have h0 := (hin k (by simp [hk])).1; have e2 : k = i := (by omega); rw [← e2]; exact hk)), setL_at, if_pos rfl]
    have hci : c[i.toNat]? = some (c[i.toNat]'hi0.2) := List.getElem?_eq_getElem hi0.2
    have hdi : datC C i = b.take n := by
      rw [hci] at hCi
      rw [datC_of hCi]
    refine ⟨by rw [h1, setL_len], fun j => ?_, fun j hj => ?_, ?_, ?_⟩
    · rw [h2 j, setL_at]
      by_cases ej : i.toNat = j
      · rw [if_pos ej, Option.map_map]
        rfl
      · rw [if_neg ej]
    · rw [h3 j (fun k hk => hj k (by simp [hk])), setL_at, if_neg (hj i (by simp))]
    · rw [List.flatMap_cons, h4, hdi, List.take_append_drop]
    · intro k hk
      rcases List.mem_cons.1 hk with rfl | hk
      · rw [hdi, hn, List.length_take]; omega
      · exact h5 k hk

theorem pieces {f g : Int → List UInt8} : ∀ (o : List Int), o.flatMap f = o.flatMap g → (∀ i ∈ o, (f i).length = (g i).length) → ∀ i ∈ o, f i = g i := by
  intro o
  induction o with
  | nil => intro _ _ i hi; cases hi
  | cons k o ih =>
    intro h hl i hi
    rw [List.flatMap_cons, List.flatMap_cons] at h
    obtain ⟨h1, h2⟩ := List.append_inj h (hl k (by simp))
    rcases List.mem_cons.1 hi with rfl | hi
    · exact h1
    · exact ih h2 (fun j hj => hl j (by simp [hj])) i hi

/-- of two plans' items all but the bytes is the same, and there are as many bytes in each -/
def shp (x : It) : Nat × Int × Int × Nat := (x.t, x.k, x.n, x.l.length)
def Alike (l m : List It) : Prop := l.map shp = m.map shp
theorem Alike.len {l m : List It} (h : Alike l m) : l.length = m.length := by have := congrArg List.length h; simpa using this
theorem Alike.get {l m : List It} (h : Alike l m) (j : Nat) : (l[j]?).map shp = (m[j]?).map shp := by
  have := congrArg (fun x => x[j]?) h
  simpa using this
theorem Alike.ky {l m : List It} (h : Alike l m) : ky l = ky m := by
  funext i
  unfold Edit.ky
  have := h.get i.toNat
  have e : (l[i.toNat]?).map It.t = (m[i.toNat]?).map It.t := by
    have := congrArg (Option.map Prod.fst) this
    rw [Option.map_map, Option.map_map] at this
    exact this
  rw [e]
theorem Alike.ord {l m : List It} (h : Alike l m) : ordE l = ordE m := by
  unfold ordE
  rw [h.ky, h.len]
theorem Alike.dat {l m : List It} (h : Alike l m) (i : Int) : (dat l i).length = (dat m i).length := by
  unfold Edit.dat
  have := h.get i.toNat
  cases h1 : l[i.toNat]? with
  | none =>
    cases h2 : m[i.toNat]? with
    | none => rfl
    | some y => rw [h1, h2] at this; cases this
  | some x =>
    cases h2 : m[i.toNat]? with
    | none => rw [h1, h2] at this; cases this
    | some y =>
      rw [h1, h2] at this
      have := Option.some.inj this
      exact congrArg (fun x => x.2.2.2) this
theorem Alike.cut {l m : List It} (h : Alike l m) : ∀ (o : List Int) (b : List UInt8) (c : List Core), cutE l o b c = cutE m o b c := by
  intro o
  induction o with
  | nil => intro b c; rfl
  | cons i o ih =>
    intro b c
    show cutE l o (b.drop (Edit.dat l i).length) (setL c i.toNat (b.take (Edit.dat l i).length)) = cutE m o (b.drop (Edit.dat m i).length) (setL c i.toNat (b.take (Edit.dat m i).length))
    rw [h.dat, ih]
theorem chk1_shp {x y : It} (h : shp x = shp y) : chk1 x = chk1 y := by
  obtain ⟨t, k, n, l, A, c⟩ := x
  obtain ⟨t', k', n', l', A', c'⟩ := y
  simp only [shp, Prod.mk.injEq] at h
  obtain ⟨h1, h2, h3, h4⟩ := h
  subst h1 h2 h3
  have hl : (l ≠ []) ↔ (l' ≠ []) := by
    constructor <;> intro h e <;> subst e
    · exact h (List.eq_nil_of_length_eq_zero (by simpa using h4))
    · exact h (List.eq_nil_of_length_eq_zero (by simpa using h4.symm))
  unfold chk1
  simp only [hl]
theorem chk_alike : ∀ {l m : List It}, Alike l m → chkE l = chkE m := by
  intro l
  induction l with
  | nil =>
    intro m h
    cases m with
    | nil => rfl
    | cons y m =>
      have h' : ([] : List (Nat × Int × Int × Nat)) = shp y :: m.map shp := h
      cases h'
  | cons x l ih =>
    intro m h
    cases m with
    | nil =>
      have h' : shp x :: l.map shp = ([] : List (Nat × Int × Int × Nat)) := h
      cases h'
    | cons y m =>
      have h' : shp x :: l.map shp = shp y :: m.map shp := h
      injection h' with h1 h2
      show (if chk1 x = 0 then chkE l else chk1 x) = (if chk1 y = 0 then chkE m else chk1 y)
      rw [chk1_shp h1, ih h2]
theorem szI_alike {l m : List It} (h : Alike l m) : szI l = szI m := by
  unfold szI
  have e : ∀ x : List It, (x.map fun x => 1 + x.l.length) = (x.map shp).map fun y => 1 + y.2.2.2 := by
    intro x
    rw [List.map_map]
    rfl
  rw [e, e, show l.map shp = m.map shp from h]

section
variable {p q : Pl} {z : Int}
theorem newP_cut (h : NewP p z q) : (∀ j : Nat, ((q.its.map It.core)[j]?).map hd3 = ((p.its.map It.core)[j]?).map hd3) ∧ (ordE p.its).flatMap (dat q.its) = planE z (allE p.its) ∧ ∀ i ∈ ordE p.its, (dat q.its i).length = (dat p.its i).length := by
  have hc := cut_at p.its (ordE p.its) (planE z (allE p.its)) (p.its.map It.core) (ordE_nodup _) (fun i hi => by
    have := ordE_mem.1 hi
    unfold Dm at this
    rw [List.length_map]
    omega) (by rw [planE_len, remL_all])
  have e : cutE p.its (ordE p.its) (planE z (allE p.its)) (p.its.map It.core) = q.its.map It.core := h.its.symm
  rw [e] at hc
  have hf : datC (q.its.map It.core) = dat q.its := by funext i; rw [dat_core]
  rw [hf] at hc
  exact ⟨hc.2.1, hc.2.2.2.1, hc.2.2.2.2⟩
theorem newP_length (h : NewP p z q) : q.its.length = p.its.length := by
  have hc := cut_at p.its (ordE p.its) (planE z (allE p.its)) (p.its.map It.core) (ordE_nodup _) (fun i hi => by
    have := ordE_mem.1 hi
    unfold Dm at this
    rw [List.length_map]
    omega) (by rw [planE_len, remL_all])
  have e : cutE p.its (ordE p.its) (planE z (allE p.its)) (p.its.map It.core) = q.its.map It.core := h.its.symm
  rw [e] at hc
  have := hc.1
  simpa using this
theorem newP_alike (h : NewP p z q) : Alike q.its p.its := by
  obtain ⟨h1, h2, h3⟩ := newP_cut h
  have hlen := newP_length h
  apply List.ext_getElem?
  intro j
  rw [List.getElem?_map, List.getElem?_map]
  by_cases hj : j < p.its.length
  · obtain ⟨x, hx⟩ : ∃ x, p.its[j]? = some x := ⟨_, List.getElem?_eq_getElem hj⟩
    obtain ⟨y, hy⟩ : ∃ y, q.its[j]? = some y := ⟨_, List.getElem?_eq_getElem (by omega)⟩
    have a1 := h1 j
    rw [List.getElem?_map, List.getElem?_map, hx, hy] at a1
    have a1' : hd3 y.core = hd3 x.core := Option.some.inj a1
    have a3 := h3 (j : Int) (ordE_mem.2 ⟨by omega, by omega⟩)
    rw [dat_of hx, dat_of hy] at a3
    rw [hx, hy]
    have b1 : y.t = x.t := congrArg (fun x => x.1) a1'
    have b2 : y.k = x.k := congrArg (fun x => x.2.1) a1'
    have b3 : y.n = x.n := congrArg (fun x => x.2.2) a1'
    show some (y.t, y.k, y.n, y.l.length) = some (x.t, x.k, x.n, x.l.length)
    rw [b1, b2, b3, a3]
  · rw [List.getElem?_eq_none (by omega), List.getElem?_eq_none (by omega)]
theorem newP_all (h : NewP p z q) : allE q.its = planE z (allE p.its) := by
  have h2 := (newP_cut h).2.1
  unfold allE
  rw [(newP_alike h).ord]
  exact h2
/-- a plan turned, and turned back, is the plan -/
theorem newP_back {r : Pl} (h : NewP p z q) (h' : NewP q (-z) r) : SameP p r := by
  have ha := newP_alike h
  have hb := newP_alike h'
  obtain ⟨g1, g2, g3⟩ := newP_cut h'
  rw [newP_all h, planE_back, ha.ord] at g2
  rw [ha.ord] at g3
  have hall : (ordE p.its).flatMap (dat r.its) = (ordE p.its).flatMap (dat p.its) := g2
  have hpc := pieces (ordE p.its) hall (fun i hi => by rw [hb.dat i, ha.dat i])
  refine ⟨h.a1.symm.trans h'.a1.symm, h.a2.symm.trans h'.a2.symm, h.a3.symm.trans h'.a3.symm, ?_, h.ws.symm.trans h'.ws.symm, h.gs.symm.trans h'.gs.symm, h.ss.symm.trans h'.ss.symm⟩
  have hl : r.its.length = p.its.length := by rw [hb.len, ha.len]
  apply List.ext_getElem?
  intro j
  rw [List.getElem?_map, List.getElem?_map]
  by_cases hj : j < p.its.length
  · obtain ⟨x, hx⟩ : ∃ x, p.its[j]? = some x := ⟨_, List.getElem?_eq_getElem hj⟩
    obtain ⟨y, hy⟩ : ∃ y, r.its[j]? = some y := ⟨_, List.getElem?_eq_getElem (by omega)⟩
    have a1 := (hb.get j).trans (ha.get j)
    rw [hx, hy] at a1
    have a1' : shp y = shp x := Option.some.inj a1
    have a2 := hpc (j : Int) (ordE_mem.2 ⟨by omega, by omega⟩)
    rw [dat_of hx, dat_of hy] at a2
    rw [hx, hy]
    have b1 : y.t = x.t := congrArg (fun x => x.1) a1'
    have b2 : y.k = x.k := congrArg (fun x => x.2.1) a1'
    have b3 : y.n = x.n := congrArg (fun x => x.2.2.1) a1'
    show some (x.t, x.k, x.n, x.l) = some (y.t, y.k, y.n, y.l)
    rw [b1, b2, b3, a2]
  · rw [List.getElem?_eq_none (by omega), List.getElem?_eq_none (by omega)]
theorem newP_small (h : NewP p z q) (hs : p.its.length ≤ 300 ∧ p.sz ≤ 4000) : q.its.length ≤ 300 ∧ q.sz ≤ 4000 := by
  refine ⟨by rw [(newP_alike h).len]; exact hs.1, ?_⟩
  have := hs.2
  unfold Pl.sz at this ⊢
  rw [h.ws, h.gs, h.ss, szI_alike (newP_alike h)]
  exact this
theorem newP_chk (h : NewP p z q) : chkE q.its = chkE p.its := chk_alike (newP_alike h)
/-- what is secret in it -/
theorem newP_sec (h : NewP p z q) : (secE (allE q.its)).map (·.2) = ((secE (allE p.its)).map (·.2)).map (turnE · z) := by
  rw [newP_all h, secE_turned]
end

end Go.Proofs.YtbflcikfaoojmaaDoor.Edit

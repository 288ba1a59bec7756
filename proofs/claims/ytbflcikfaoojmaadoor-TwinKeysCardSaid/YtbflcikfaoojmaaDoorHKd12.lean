/- Keys of bytes that come in pieces, in plain Lean: what is drained, what is fed. -/
import Derived.Test.YtbflcikfaoojmaaDoorHKd11
set_option linter.unusedVariables false
set_option linter.unusedSimpArgs false
namespace Go.Proofs.YtbflcikfaoojmaaDoor.Edit
open Go.RowKit Go.Lib Go.Shelf ChangeShapes Mem Utf UtfP

theorem seqF_short (l : List UInt8) : ∀ (n i : Nat) (oth : Bool), (seqF l n i oth).2.2 ≠ 0 → i + n ≤ max 34 i := by
  intro n
  induction n with
  | zero => intro i oth _; omega
  | succ n ih =>
    intro i oth h
    unfold seqF at h
    split at h
    · exact absurd rfl h
    · split at h
      · exact absurd rfl h
      · rename_i hh
        have hi : ¬ 34 ≤ i := fun x => hh (Or.inr x)
        split at h
        · have := ih _ _ h; omega
        · split at h
          · have := ih _ _ h; omega
          · exact absurd rfl h
theorem seqF_pos (l : List UInt8) : ∀ (n i : Nat) (oth : Bool), 2 ≤ i → (seqF l n i oth).2.2 = 0 → 1 ≤ (seqF l n i oth).2.1 := by
  intro n
  induction n with
  | zero => intro i oth _ h; exact absurd (show (7 : Int) = 0 from h) (by decide)
  | succ n ih =>
    intro i oth hi h
    unfold seqF at h ⊢
    split
    · show 1 ≤ i + 1; omega
    · rename_i h1
      rw [if_neg h1] at h
      split
      · show 1 ≤ i; omega
      · rename_i h2
        rw [if_neg h2] at h
        split
        · rename_i h3
          rw [if_pos h3] at h
          exact ih _ _ (by omega) h
        · rename_i h3
          rw [if_neg h3] at h
          split
          · rename_i h4
            rw [if_pos h4] at h
            exact ih _ _ (by omega) h
          · show 1 ≤ i; omega
theorem take_append_of_le {α : Type} {l m : List α} {k : Nat} (h : k ≤ l.length) : (l ++ m).take k = l.take k := by
  rw [List.take_append, Nat.sub_eq_zero_of_le h]; simp
theorem seqF_append (l m : List UInt8) (h2 : 2 ≤ l.length) : ∀ (n i : Nat) (oth : Bool), i + n = l.length → (seqF l n i oth).2.2 = 0 → ∀ n', n ≤ n' → seqF (l ++ m) n' i oth = seqF l n i oth := by
  intro n
  induction n with
  | zero => intro i oth _ h; exact absurd (show (7 : Int) = 0 from h) (by decide)
  | succ n ih =>
    intro i oth hi h n' hn'
    obtain ⟨k, rfl⟩ : ∃ k, n' = k + 1 := ⟨n' - 1, by omega⟩
    have e1 : bt (l ++ m) i = bt l i := bt_append (by omega)
    have e2 : bt (l ++ m) 1 = bt l 1 := bt_append (by omega)
    have e3 : (l ++ m).take (i + 1) = l.take (i + 1) := take_append_of_le (by omega)
    unfold seqF at h ⊢
    rw [e1, e2, e3]
    split
    · rfl
    · rename_i h1
      rw [if_neg h1] at h
      split
      · rfl
      · rename_i h2
        rw [if_neg h2] at h
        split
        · rename_i h3
          rw [if_pos h3] at h
          exact ih _ _ (by omega) h _ (by omega)
        · rename_i h3
          rw [if_neg h3] at h
          split
          · rename_i h4
            rw [if_pos h4] at h
            exact ih _ _ (by omega) h _ (by omega)
          · rfl

theorem seqN_short {l : List UInt8} (h0 : l ≠ []) (h27 : bt l 0 = 27) (h : (seqN l).2.2 ≠ 0) : l.length ≤ 34 := by
  unfold seqN at h
  rw [if_neg h0, if_neg (by simpa using h27)] at h
  split at h
  · exact absurd rfl h
  · have := seqF_short l _ _ _ h
    omega
theorem seqN_pos {l : List UInt8} (h0 : l ≠ []) (h27 : bt l 0 = 27) (h : (seqN l).2.2 = 0) : 1 ≤ (seqN l).2.1 := by
  unfold seqN at h ⊢
  rw [if_neg h0, if_neg (by simpa using h27)] at h ⊢
  split
  · exact Nat.le_refl _
  · rename_i h1
    rw [if_neg h1] at h
    exact seqF_pos l _ _ _ (Nat.le_refl _) h
theorem seqN_append {l : List UInt8} (m : List UInt8) (h0 : l ≠ []) (h27 : bt l 0 = 27) (h : (seqN l).2.2 = 0) : seqN (l ++ m) = seqN l := by
  have hp := List.length_pos_iff.2 h0
  have e0 : bt (l ++ m) 0 = bt l 0 := bt_append hp
  have hne : l ++ m ≠ [] := by simp [h0]
  have hb27 : ¬ (bt l 0 ≠ 27) := by simpa using h27
  unfold seqN at h ⊢
  rw [if_neg h0, if_neg hb27] at h
  rw [if_neg hne, if_neg h0, e0, if_neg hb27, if_neg hb27]
  by_cases h1 : 1 < l.length
  · have e1 : bt (l ++ m) 1 = bt l 1 := bt_append h1
    rw [e1]
    by_cases hb : bt l 1 ≠ 91 ∧ bt l 1 ≠ 79
    · rw [if_pos ⟨by rw [List.length_append]; omega, hb⟩, if_pos ⟨h1, hb⟩]
    · rw [if_neg (fun x => hb x.2)] at h ⊢
      rw [if_neg (fun x => hb x.2)]
      exact seqF_append l m h1 _ _ _ (by omega) h _ (by rw [List.length_append]; omega)
  · rw [if_neg (fun x => h1 x.1), show l.length - 2 = 0 by omega] at h
    exact absurd (show (7 : Int) = 0 from h) (by decide)

theorem next_short {l : List UInt8} (h : l ≠ []) (h7 : (next l).2.2 = 7) : l.length ≤ 3 := by
  have := (next_facts h).2.2.2.1 h7
  omega

theorem nxE_nil (ps : Bool) : nxE [] ps = none := rfl
theorem nxE_none {t : List UInt8} {ps : Bool} (h : nxE t ps = none) : t.length ≤ 34 := by
  by_cases h0 : t = []
  · subst h0; simp
  · unfold nxE at h
    rw [if_neg h0] at h
    by_cases h27 : bt t 0 = 27
    · rw [if_pos h27] at h
      by_cases hs : (seqN t).2.2 ≠ 0
      · exact seqN_short h0 h27 hs
      · rw [if_neg hs] at h; cases h
    · rw [if_neg h27] at h
      by_cases h7 : (next t).2.2 = 7
      · have := next_short h0 h7; omega
      · rw [if_neg h7] at h; cases h
theorem nxE_some {t : List UInt8} {ps : Bool} {k : Int × Int} {n : Nat} {ps' : Bool} (h : nxE t ps = some (k, n, ps')) : 1 ≤ n ∧ n ≤ t.length := by
  by_cases h0 : t = []
  · subst h0; cases h
  · unfold nxE at h
    rw [if_neg h0] at h
    by_cases h27 : bt t 0 = 27
    · rw [if_pos h27] at h
      by_cases hs : (seqN t).2.2 ≠ 0
      · rw [if_pos hs] at h; cases h
      · rw [if_neg hs] at h
        cases h
        exact ⟨seqN_pos h0 h27 (by simpa using hs), seqN_le t⟩
    · rw [if_neg h27] at h
      by_cases h7 : (next t).2.2 = 7
      · rw [if_pos h7] at h; cases h
      · rw [if_neg h7] at h
        cases h
        obtain ⟨f1, f2, f3, _, f5, f6⟩ := next_facts h0
        omega
theorem nxE_append {t : List UInt8} {ps : Bool} {r : (Int × Int) × Nat × Bool} (h : nxE t ps = some r) (m : List UInt8) : nxE (t ++ m) ps = some r := by
  by_cases h0 : t = []
  · subst h0; cases h
  · have hp := List.length_pos_iff.2 h0
    have e0 : bt (t ++ m) 0 = bt t 0 := bt_append hp
    have hne : t ++ m ≠ [] := by simp [h0]
    unfold nxE at h ⊢
    rw [if_neg h0] at h
    rw [if_neg hne, e0]
    by_cases h27 : bt t 0 = 27
    · rw [if_pos h27] at h ⊢
      by_cases hs : (seqN t).2.2 ≠ 0
      · rw [if_pos hs] at h; cases h
      · rw [seqN_append m h0 h27 (by simpa using hs)]
        exact h
    · rw [if_neg h27] at h ⊢
      by_cases h7 : (next t).2.2 = 7
      · rw [if_pos h7] at h; cases h
      · rw [next_append h0 h7]
        exact h

/-- all whole keys that bytes begin with: the keys, what is left, whether a paste is begun -/
def drF : Nat → List UInt8 → Bool → List (Int × Int) × List UInt8 × Bool
  | 0, t, ps => ([], t, ps)
  | n + 1, t, ps => match nxE t ps with
    | none => ([], t, ps)
    | some (k, m, ps') => (k :: (drF n (t.drop m) ps').1, (drF n (t.drop m) ps').2)
def drain (t : List UInt8) (ps : Bool) : List (Int × Int) × List UInt8 × Bool := drF t.length t ps

theorem drF_more : ∀ (n n' : Nat) (t : List UInt8) (ps : Bool), t.length ≤ n → t.length ≤ n' → drF n t ps = drF n' t ps := by
  intro n
  induction n with
  | zero =>
    intro n' t ps h _
    have : t = [] := List.eq_nil_of_length_eq_zero (by omega)
    subst this
    cases n' <;> rfl
  | succ n ih =>
    intro n' t ps h h'
    cases n' with
    | zero =>
      have : t = [] := List.eq_nil_of_length_eq_zero (by omega)
      subst this
      rfl
    | succ n' =>
      unfold drF
      cases hx : nxE t ps with
      | none => rfl
      | some r =>
        obtain ⟨k, m, ps'⟩ := r
        obtain ⟨h1, h2⟩ := nxE_some hx
        simp only
        rw [ih n' (t.drop m) ps' (by rw [List.length_drop]; omega) (by rw [List.length_drop]; omega)]
theorem drain_none {t : List UInt8} {ps : Bool} (h : nxE t ps = none) : drain t ps = ([], t, ps) := by
  unfold drain
  cases hl : t.length with
  | zero => rfl
  | succ n => unfold drF; rw [h]
theorem drain_some {t : List UInt8} {ps : Bool} {k : Int × Int} {m : Nat} {ps' : Bool} (h : nxE t ps = some (k, m, ps')) : drain t ps = (k :: (drain (t.drop m) ps').1, (drain (t.drop m) ps').2) := by
  obtain ⟨h1, h2⟩ := nxE_some h
  unfold drain
  cases hl : t.length with
  | zero => omega
  | succ n =>
    conv => lhs; unfold drF
    rw [h]
    simp only
    rw [drF_more n (t.drop m).length (t.drop m) ps' (by rw [List.length_drop]; omega) (Nat.le_refl _)]
/-- behind a drain nothing is whole -/
theorem drain_left (t : List UInt8) (ps : Bool) : nxE (drain t ps).2.1 (drain t ps).2.2 = none := by
  have hh : ∀ (n : Nat) (t : List UInt8) (ps : Bool), t.length ≤ n → nxE (drain t ps).2.1 (drain t ps).2.2 = none := by
    intro n
    induction n with
    | zero =>
      intro t ps h
      have : t = [] := List.eq_nil_of_length_eq_zero (by omega)
      subst this
      rfl
    | succ n ih =>
      intro t ps h
      cases hx : nxE t ps with
      | none => rw [drain_none hx]; exact hx
      | some r =>
        obtain ⟨k, m, ps'⟩ := r
        obtain ⟨h1, h2⟩ := nxE_some hx
        rw [drain_some hx]
        exact ih (t.drop m) ps' (by rw [List.length_drop]; omega)
  exact hh t.length t ps (Nat.le_refl _)
/-- more bytes behind: first what was there is drained -/
theorem drain_append (m : List UInt8) (t : List UInt8) (ps : Bool) : drain (t ++ m) ps = ((drain t ps).1 ++ (drain ((drain t ps).2.1 ++ m) (drain t ps).2.2).1, (drain ((drain t ps).2.1 ++ m) (drain t ps).2.2).2) := by
  have hh : ∀ (n : Nat) (t : List UInt8) (ps : Bool), t.length ≤ n → drain (t ++ m) ps = ((drain t ps).1 ++ (drain ((drain t ps).2.1 ++ m) (drain t ps).2.2).1, (drain ((drain t ps).2.1 ++ m) (drain t ps).2.2).2) := by
    intro n
    induction n with
    | zero =>
      intro t ps h
      have : t = [] := List.eq_nil_of_length_eq_zero (by omega)
      subst this
      rfl
    | succ n ih =>
      intro t ps h
      cases hx : nxE t ps with
      | none => rw [drain_none hx]; rfl
      | some r =>
        obtain ⟨k, j, ps'⟩ := r
        obtain ⟨h1, h2⟩ := nxE_some hx
        rw [drain_some hx, drain_some (nxE_append hx m)]
        have e : (t ++ m).drop j = t.drop j ++ m := by
          rw [List.drop_append, Nat.sub_eq_zero_of_le h2]; rfl
        rw [e, ih (t.drop j) ps' (by rw [List.length_drop]; omega)]
        rfl
  exact hh t.length t ps (Nat.le_refl _)

/-- bytes fed one by one -/
def feed : List UInt8 → List UInt8 → Bool → List (Int × Int) × List UInt8 × Bool
  | [], t, ps => ([], t, ps)
  | c :: r, t, ps => ((drain (t ++ [c]) ps).1 ++ (feed r (drain (t ++ [c]) ps).2.1 (drain (t ++ [c]) ps).2.2).1, (feed r (drain (t ++ [c]) ps).2.1 (drain (t ++ [c]) ps).2.2).2)
theorem feed_cons (c : UInt8) (r t : List UInt8) (ps : Bool) : feed (c :: r) t ps = ((drain (t ++ [c]) ps).1 ++ (feed r (drain (t ++ [c]) ps).2.1 (drain (t ++ [c]) ps).2.2).1, (feed r (drain (t ++ [c]) ps).2.1 (drain (t ++ [c]) ps).2.2).2) := rfl
theorem feed_append (m : List UInt8) : ∀ (l t : List UInt8) (ps : Bool), feed (l ++ m) t ps = ((feed l t ps).1 ++ (feed m (feed l t ps).2.1 (feed l t ps).2.2).1, (feed m (feed l t ps).2.1 (feed l t ps).2.2).2) := by
  intro l
  induction l with
  | nil => intro t ps; rfl
  | cons c r ih =>
    intro t ps
    rw [List.cons_append, feed_cons, feed_cons, ih]
    simp only [List.append_assoc]
theorem feed_left : ∀ (l t : List UInt8) (ps : Bool), nxE t ps = none → nxE (feed l t ps).2.1 (feed l t ps).2.2 = none := by
  intro l
  induction l with
  | nil => intro t ps h; exact h
  | cons c r ih => intro t ps h; exact ih _ _ (drain_left _ _)
/-- what is fed is what is drained of all at once -/
theorem feed_drain : ∀ (l t : List UInt8) (ps : Bool), nxE t ps = none → feed l t ps = drain (t ++ l) ps := by
  intro l
  induction l with
  | nil => intro t ps h; rw [List.append_nil, drain_none h]; rfl
  | cons c r ih =>
    intro t ps h
    have e : t ++ c :: r = (t ++ [c]) ++ r := by simp
    rw [e, drain_append, ← ih _ _ (drain_left _ _)]
    rfl

end Go.Proofs.YtbflcikfaoojmaaDoor.Edit

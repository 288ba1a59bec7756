/- Texts joined: Kd11; Kd12; OwnK. -/
import Derived.Test.YtbflcikfaoojmaaDoorHKd9
import Derived.Test.YtbflcikfaoojmaaDoorGK4
import Derived.Test.YtbflcikfaoojmaaDoorGE
import Derived.Test.YtbflcikfaoojmaaDoorGD
import Derived.Test.YtbflcikfaoojmaaDoorGF
import Derived.Deep.CutBlock
import Derived.Deep.DeepCutAuto
/- The key that is held as a whole: next, walked. -/
set_option linter.unusedVariables false
set_option linter.unusedSimpArgs false
namespace Go.Proofs.YtbflcikfaoojmaaDoor.Edit
open Go.RowKit Go.Lib Go.Shelf ChangeShapes Mem Utf UtfP Def

/-- the key that the bytes that are held begin with, if it is whole: the key, its bytes, whether a paste is begun behind it -/
def nxE (t : List UInt8) (ps : Bool) : Option ((Int × Int) × Nat × Bool) :=
  if t = [] then none
  else if bt t 0 = 27 then (if (seqN t).2.2 ≠ 0 then none else some (((seqE ps (seqN t).1 0).1, (seqE ps (seqN t).1 0).2.1), (seqN t).2.1, (seqE ps (seqN t).1 0).2.2))
  else if (next t).2.2 = 7 then none
  else some (charK ps (if (next t).2.2 = 8 then 65533 else ((next t).1 : Int)), (next t).2.1, ps)

theorem results_cell2 {P : Program} {fn : Func} {p u : Tmp} {ty : TypeId} (h : fn.results = #[.cell p ty, .tmp u]) (tmps : Array Value) (w : World) (g : Nat) (t : TypeId) (cs : Array Value) (d : TypeDesc)
    (hp : tmps.getD p undef = .pointer (some ⟨g, 0, none⟩)) (hg : Blk w g cs t)
    (hu : P.underlying ty = some d) (hd : (match d with | .struct _ | .array _ _ => true | _ => false) = true) (hi : (P.info? ty).map (·.size) = some cs.size) :
    (results fn tmps).run P w = .ok (.tuple #[.agg cs, tmps.getD u undef]) w := by
  have hp' : tmps[p]?.getD undef = .pointer (some ⟨g, 0, none⟩) := by simpa using hp
  simp [results, h, hp', asAddr, run_loadVar_row w g t ty cs (0, 0) d hg hu hd hi]

theorem inv_clear36 (W : World) (g cap n : Nat) (cur : List Value) (hg : Win W g 0 cur) (hn : n ≤ cur.length) (h0 : 0 < n) :
    ∃ W', (invoke (.builtin .clear #[47] 0 #[false]) #[.slice (some ⟨g, 0, none⟩) n cap]).run Tryd.prog W = .ok (.value (.tuple #[])) W' ∧ But [g] W W' := by
  have hcell : ∀ j, j < n → (W.cell? ⟨g, 0 + j, none⟩).isSome = true := fun j hj => by
    rw [hg.cell j _ (List.getElem?_eq_getElem (by omega))]; rfl
  have hrun := run_clear_slice (P := Tryd.prog) W 47 5 0 (.int .u8 0) Tryd.underlying47 zero_u8 rfl rfl g 0 n cap h0 hcell (fun j hj => hg.free j (by omega))
  exact ⟨W.setCells g 0 (List.replicate n (.int .u8 0)), by simp [invoke, builtin, hrun], But.setCells (Or.inl (by simp)) _ _ _ (But.refl _ _)⟩

theorem win_bytesD {w : World} {g : Nat} {cur : List Value} {t : List UInt8} (h : Win w g 0 (splice cur 0 (cellsB t))) : BytesAt w (some ⟨g, 0, none⟩) t := by
  intro hne
  have hc : ∀ j, j < t.length → w.cell? ⟨g, 0 + j, none⟩ = some (.int .u8 (bt t j : Int)) := fun j hj => by
    refine h.cell j _ ?_
    unfold splice
    rw [List.take_zero, List.nil_append, List.getElem?_append_left (by rw [cellsB_length]; exact hj)]
    exact cellsB_get t j hj
  refine ⟨g, 0, rfl, ?_, hc⟩
  have := World.block_lt_of_cell? _ _ (hc 0 (List.length_pos_iff.2 hne))
  exact this

theorem seqF_le (l : List UInt8) : ∀ (n i : Nat) (oth : Bool), i + n = l.length → (seqF l n i oth).2.1 ≤ l.length ∧ ((seqF l n i oth).2.2 = 0 ∨ (seqF l n i oth).2.2 = 7) := by
  intro n
  induction n with
  | zero => intro i oth h; exact ⟨Nat.le_refl _, Or.inr rfl⟩
  | succ n ih =>
    intro i oth h
    unfold seqF
    split
    · exact ⟨by show i + 1 ≤ _; omega, Or.inl rfl⟩
    · split
      · exact ⟨by show i ≤ _; omega, Or.inl rfl⟩
      · split
        · exact ih _ _ (by omega)
        · split
          · exact ih _ _ (by omega)
          · exact ⟨by show i ≤ _; omega, Or.inl rfl⟩
theorem seqN_le (l : List UInt8) : (seqN l).2.1 ≤ l.length := by
  unfold seqN
  split
  · exact Nat.zero_le _
  · rename_i h
    have := List.length_pos_iff.2 h
    split
    · exact Nat.zero_le _
    · split
      · show 1 ≤ l.length; omega
      · by_cases h2 : 2 ≤ l.length
        · exact (seqF_le l _ 2 false (by omega)).1
        · rw [show l.length - 2 = 0 by omega]
          exact Nat.le_refl _

section
variable {d a c N : Nat} {t t' : List UInt8} {ps ps' : Bool}

end

end Go.Proofs.YtbflcikfaoojmaaDoor.Edit

/- Keys of bytes that come in pieces, in plain Lean: what is drained, what is fed. -/
set_option linter.unusedVariables false
set_option linter.unusedSimpArgs false
namespace Go.Proofs.YtbflcikfaoojmaaDoor.Edit
open Go.RowKit Go.Lib Go.Shelf ChangeShapes Mem Utf UtfP

theorem seqF_short (l : List UInt8) : ∀ (n i : Nat) (oth : Bool), (seqF l n i oth).2.2 ≠ 0 → i + n ≤ max 34 i := by
  intro n
  induction n with
  | zero => intro i oth _; omega
  | succ n ih =>
    intro i oth h
    unfold seqF at h
    split at h
    · exact absurd rfl h
    · split at h
      · exact absurd rfl h
      · rename_i hh
        have hi : ¬ 34 ≤ i := fun x => hh (Or.inr x)
        split at h
        · have := ih _ _ h; omega
        · split at h
          · have := ih _ _ h; omega
          · exact absurd rfl h
theorem seqF_pos (l : List UInt8) : ∀ (n i : Nat) (oth : Bool), 2 ≤ i → (seqF l n i oth).2.2 = 0 → 1 ≤ (seqF l n i oth).2.1 := by
  intro n
  induction n with
  | zero => intro i oth _ h; exact absurd (show (7 : Int) = 0 from h) (by decide)
  | succ n ih =>
    intro i oth hi h
    unfold seqF at h ⊢
    split
    · show 1 ≤ i + 1; omega
    · rename_i h1
      rw [if_neg h1] at h
      split
      · show 1 ≤ i; omega
      · rename_i h2
        rw [if_neg h2] at h
        split
        · rename_i h3
          rw [if_pos h3] at h
          exact ih _ _ (by omega) h
        · rename_i h3
          rw [if_neg h3] at h
          split
          · rename_i h4
            rw [if_pos h4] at h
            exact ih _ _ (by omega) h
          · show 1 ≤ i; omega
theorem take_append_of_le {α : Type} {l m : List α} {k : Nat} (h : k ≤ l.length) : (l ++ m).take k = l.take k := by
  rw [List.take_append, Nat.sub_eq_zero_of_le h]; simp
theorem seqF_append (l m : List UInt8) (h2 : 2 ≤ l.length) : ∀ (n i : Nat) (oth : Bool), i + n = l.length → (seqF l n i oth).2.2 = 0 → ∀ n', n ≤ n' → seqF (l ++ m) n' i oth = seqF l n i oth := by
  intro n
  induction n with
  | zero => intro i oth _ h; exact absurd (show (7 : Int) = 0 from h) (by decide)
  | succ n ih =>
    intro i oth hi h n' hn'
    obtain ⟨k, rfl⟩ : ∃ k, n' = k + 1 := ⟨n' - 1, by omega⟩
    have e1 : bt (l ++ m) i = bt l i := bt_append (by omega)
    have e2 : bt (l ++ m) 1 = bt l 1 := bt_append (by omega)
    have e3 : (l ++ m).take (i + 1) = l.take (i + 1) := take_append_of_le (by omega)
    unfold seqF at h ⊢
    rw [e1, e2, e3]
    split
    · rfl
    · rename_i h1
      rw [if_neg h1] at h
      split
      · rfl
      · rename_i h2
        rw [if_neg h2] at h
        split
        · rename_i h3
          rw [if_pos h3] at h
          exact ih _ _ (by omega) h _ (by omega)
        · rename_i h3
          rw [if_neg h3] at h
          split
          · rename_i h4
            rw [if_pos h4] at h
            exact ih _ _ (by omega) h _ (by omega)
          · rfl

theorem seqN_short {l : List UInt8} (h0 : l ≠ []) (h27 : bt l 0 = 27) (h : (seqN l).2.2 ≠ 0) : l.length ≤ 34 := by
  unfold seqN at h
  rw [if_neg h0, if_neg (by simpa using h27)] at h
  split at h
  · exact absurd rfl h
  · have := seqF_short l _ _ _ h
    omega
theorem seqN_pos {l : List UInt8} (h0 : l ≠ []) (h27 : bt l 0 = 27) (h : (seqN l).2.2 = 0) : 1 ≤ (seqN l).2.1 := by
  unfold seqN at h ⊢
  rw [if_neg h0, if_neg (by simpa using h27)] at h ⊢
  split
  · exact Nat.le_refl _
  · rename_i h1
    rw [if_neg h1] at h
    exact seqF_pos l _ _ _ (Nat.le_refl _) h
theorem seqN_append {l : List UInt8} (m : List UInt8) (h0 : l ≠ []) (h27 : bt l 0 = 27) (h : (seqN l).2.2 = 0) : seqN (l ++ m) = seqN l := by
  have hp := List.length_pos_iff.2 h0
  have e0 : bt (l ++ m) 0 = bt l 0 := bt_append hp
  have hne : l ++ m ≠ [] := by simp [h0]
  have hb27 : ¬ (bt l 0 ≠ 27) := by simpa using h27
  unfold seqN at h ⊢
  rw [if_neg h0, if_neg hb27] at h
  rw [if_neg hne, if_neg h0, e0, if_neg hb27, if_neg hb27]
  by_cases h1 : 1 < l.length
  · have e1 : bt (l ++ m) 1 = bt l 1 := bt_append h1
    rw [e1]
    by_cases hb : bt l 1 ≠ 91 ∧ bt l 1 ≠ 79
    · rw [if_pos ⟨by rw [List.length_append]; omega, hb⟩, if_pos ⟨h1, hb⟩]
    · rw [if_neg (fun x => hb x.2)] at h ⊢
      rw [if_neg (fun x => hb x.2)]
      exact seqF_append l m h1 _ _ _ (by omega) h _ (by rw [List.length_append]; omega)
  · rw [if_neg (fun x => h1 x.1), show l.length - 2 = 0 by omega] at h
    exact absurd (show (7 : Int) = 0 from h) (by decide)

theorem next_short {l : List UInt8} (h : l ≠ []) (h7 : (next l).2.2 = 7) : l.length ≤ 3 := by
  have := (next_facts h).2.2.2.1 h7
  omega

theorem nxE_nil (ps : Bool) : nxE [] ps = none := rfl
theorem nxE_none {t : List UInt8} {ps : Bool} (h : nxE t ps = none) : t.length ≤ 34 := by
  by_cases h0 : t = []
  · subst h0; simp
  · unfold nxE at h
    rw [if_neg h0] at h
    by_cases h27 : bt t 0 = 27
    · rw [if_pos h27] at h
      by_cases hs : (seqN t).2.2 ≠ 0
      · exact seqN_short h0 h27 hs
      · rw [if_neg hs] at h; cases h
    · rw [if_neg h27] at h
      by_cases h7 : (next t).2.2 = 7
      · have := next_short h0 h7; omega
      · rw [if_neg h7] at h; cases h
theorem nxE_some {t : List UInt8} {ps : Bool} {k : Int × Int} {n : Nat} {ps' : Bool} (h : nxE t ps = some (k, n, ps')) : 1 ≤ n ∧ n ≤ t.length := by
  by_cases h0 : t = []
  · subst h0; cases h
  · unfold nxE at h
    rw [if_neg h0] at h
    by_cases h27 : bt t 0 = 27
    · rw [if_pos h27] at h
      by_cases hs : (seqN t).2.2 ≠ 0
      · rw [if_pos hs] at h; cases h
      · rw [if_neg hs] at h
        cases h
        exact ⟨seqN_pos h0 h27 (by simpa using hs), seqN_le t⟩
    · rw [if_neg h27] at h
      by_cases h7 : (next t).2.2 = 7
      · rw [if_pos h7] at h; cases h
      · rw [if_neg h7] at h
        cases h
        obtain ⟨f1, f2, f3, _, f5, f6⟩ := next_facts h0
        omega
theorem nxE_append {t : List UInt8} {ps : Bool} {r : (Int × Int) × Nat × Bool} (h : nxE t ps = some r) (m : List UInt8) : nxE (t ++ m) ps = some r := by
  by_cases h0 : t = []
  · subst h0; cases h
  · have hp := List.length_pos_iff.2 h0
    have e0 : bt (t ++ m) 0 = bt t 0 := bt_append hp
    have hne : t ++ m ≠ [] := by simp [h0]
    unfold nxE at h ⊢
    rw [if_neg h0] at h
    rw [if_neg hne, e0]
    by_cases h27 : bt t 0 = 27
    · rw [if_pos h27] at h ⊢
      by_cases hs : (seqN t).2.2 ≠ 0
      · rw [if_pos hs] at h; cases h
      · rw [seqN_append m h0 h27 (by simpa using hs)]
        exact h
    · rw [if_neg h27] at h ⊢
      by_cases h7 : (next t).2.2 = 7
      · rw [if_pos h7] at h; cases h
      · rw [next_append h0 h7]
        exact h

/-- all whole keys that bytes begin with: the keys, what is left, whether a paste is begun -/
def drF : Nat → List UInt8 → Bool → List (Int × Int) × List UInt8 × Bool
  | 0, t, ps => ([], t, ps)
  | n + 1, t, ps => match nxE t ps with
    | none => ([], t, ps)
    | some (k, m, ps') => (k :: (drF n (t.drop m) ps').1, (drF n (t.drop m) ps').2)
def drain (t : List UInt8) (ps : Bool) : List (Int × Int) × List UInt8 × Bool := drF t.length t ps

theorem drF_more : ∀ (n n' : Nat) (t : List UInt8) (ps : Bool), t.length ≤ n → t.length ≤ n' → drF n t ps = drF n' t ps := by
  intro n
  induction n with
  | zero =>
    intro n' t ps h _
    have : t = [] := List.eq_nil_of_length_eq_zero (by omega)
    subst this
    cases n' <;> rfl
  | succ n ih =>
    intro n' t ps h h'
    cases n' with
    | zero =>
      have : t = [] := List.eq_nil_of_length_eq_zero (by omega)
      subst this
      rfl
    | succ n' =>
      unfold drF
      cases hx : nxE t ps with
      | none => rfl
      | some r =>
        obtain ⟨k, m, ps'⟩ := r
        obtain ⟨h1, h2⟩ := nxE_some hx
        simp only
        rw [ih n' (t.drop m) ps' (by rw [List.length_drop]; omega) (by rw [List.length_drop]; omega)]
theorem drain_none {t : List UInt8} {ps : Bool} (h : nxE t ps = none) : drain t ps = ([], t, ps) := by
  unfold drain
  cases hl : t.length with
  | zero => rfl
  | succ n => unfold drF; rw [h]
theorem drain_some {t : List UInt8} {ps : Bool} {k : Int × Int} {m : Nat} {ps' : Bool} (h : nxE t ps = some (k, m, ps')) : drain t ps = (k :: (drain (t.drop m) ps').1, (drain (t.drop m) ps').2) := by
  obtain ⟨h1, h2⟩ := nxE_some h
  unfold drain
  cases hl : t.length with
  | zero => omega
  | succ n =>
    conv => lhs; unfold drF
    rw [h]
    simp only
    rw [drF_more n (t.drop m).length (t.drop m) ps' (by rw [List.length_drop]; omega) (Nat.le_refl _)]
/-- behind a drain nothing is whole -/
theorem drain_left (t : List UInt8) (ps : Bool) : nxE (drain t ps).2.1 (drain t ps).2.2 = none := by
  have hh : ∀ (n : Nat) (t : List UInt8) (ps : Bool), t.length ≤ n → nxE (drain t ps).2.1 (drain t ps).2.2 = none := by
    intro n
    induction n with
    | zero =>
      intro t ps h
      have : t = [] := List.eq_nil_of_length_eq_zero (by omega)
      subst this
      rfl
    | succ n ih =>
      intro t ps h
      cases hx : nxE t ps with
      | none => rw [drain_none hx]; exact hx
      | some r =>
        obtain ⟨k, m, ps'⟩ := r
        obtain ⟨h1, h2⟩ := nxE_some hx
        rw [drain_some hx]
        exact ih (t.drop m) ps' (by rw [List.length_drop]; omega)
  exact hh t.length t ps (Nat.le_refl _)
/-- more bytes behind: first what was there is drained -/
theorem drain_append (m : List UInt8) (t : List UInt8) (ps : Bool) : drain (t ++ m) ps = ((drain t ps).1 ++ (drain ((drain t ps).2.1 ++ m) (drain t ps).2.2).1, (drain ((drain t ps).2.1 ++ m) (drain t ps).2.2).2) := by
  have hh : ∀ (n : Nat) (t : List UInt8) (ps : Bool), t.length ≤ n → drain (t ++ m) ps = ((drain t ps).1 ++ (drain ((drain t ps).2.1 ++ m) (drain t ps).2.2).1, (drain ((drain t ps).2.1 ++ m) (drain t ps).2.2).2) := by
    intro n
    induction n with
    | zero =>
      intro t ps h
      have : t = [] := List.eq_nil_of_length_eq_zero (by omega)
      subst this
      rfl
    | succ n ih =>
      intro t ps h
      cases hx : nxE t ps with
      | none => rw [drain_none hx]; rfl
      | some r =>
        obtain ⟨k, j, ps'⟩ := r
        obtain ⟨h1, h2⟩ := nxE_some hx
        rw [drain_some hx, drain_some (nxE_append hx m)]
        have e : (t ++ m).drop j = t.drop j ++ m := by
          rw [List.drop_append, Nat.sub_eq_zero_of_le h2]; rfl
        rw [e, ih (t.drop j) ps' (by rw [List.length_drop]; omega)]
        rfl
  exact hh t.length t ps (Nat.le_refl _)

/-- bytes fed one by one -/
def feed : List UInt8 → List UInt8 → Bool → List (Int × Int) × List UInt8 × Bool
  | [], t, ps => ([], t, ps)
  | c :: r, t, ps => ((drain (t ++ [c]) ps).1 ++ (feed r (drain (t ++ [c]) ps).2.1 (drain (t ++ [c]) ps).2.2).1, (feed r (drain (t ++ [c]) ps).2.1 (drain (t ++ [c]) ps).2.2).2)
theorem feed_cons (c : UInt8) (r t : List UInt8) (ps : Bool) : feed (c :: r) t ps = ((drain (t ++ [c]) ps).1 ++ (feed r (drain (t ++ [c]) ps).2.1 (drain (t ++ [c]) ps).2.2).1, (feed r (drain (t ++ [c]) ps).2.1 (drain (t ++ [c]) ps).2.2).2) := rfl
theorem feed_append (m : List UInt8) : ∀ (l t : List UInt8) (ps : Bool), feed (l ++ m) t ps = ((feed l t ps).1 ++ (feed m (feed l t ps).2.1 (feed l t ps).2.2).1, (feed m (feed l t ps).2.1 (feed l t ps).2.2).2) := by
  intro l
  induction l with
  | nil => intro t ps; rfl
  | cons c r ih =>
    intro t ps
    rw [List.cons_append, feed_cons, feed_cons, ih]
    simp only [List.append_assoc]
theorem feed_left : ∀ (l t : List UInt8) (ps : Bool), nxE t ps = none → nxE (feed l t ps).2.1 (feed l t ps).2.2 = none := by
  intro l
  induction l with
  | nil => intro t ps h; exact h
  | cons c r ih => intro t ps h; exact ih _ _ (drain_left _ _)
/-- what is fed is what is drained of all at once -/
theorem feed_drain : ∀ (l t : List UInt8) (ps : Bool), nxE t ps = none → feed l t ps = drain (t ++ l) ps := by
  intro l
  induction l with
  | nil => intro t ps h; rw [List.append_nil, drain_none h]; rfl
  | cons c r ih =>
    intro t ps h
    have e : t ++ c :: r = (t ++ [c]) ++ r := by simp
    rw [e, drain_append, ← ih _ _ (drain_left _ _)]
    rfl

end Go.Proofs.YtbflcikfaoojmaaDoor.Edit

/- Rows of keys in memory: a slice that a function made. -/
set_option linter.unusedVariables false
set_option linter.unusedSimpArgs false
namespace Go.Proofs.YtbflcikfaoojmaaDoor.Edit
open Go.RowKit Go.Lib Go.Shelf ChangeShapes Mem Utf UtfP

def cellsK (l : List (Int × Int)) : List Value := l.flatMap fun k => [.int .i64 k.1, .int .i64 k.2]
theorem cellsK_length (l : List (Int × Int)) : (cellsK l).length = l.length * 2 := by
  induction l with
  | nil => rfl
  | cons x r ih =>
    have e : cellsK (x :: r) = .int .i64 x.1 :: .int .i64 x.2 :: cellsK r := rfl
    rw [e, List.length_cons, List.length_cons, ih, List.length_cons]; omega
theorem cellsK_append (l m : List (Int × Int)) : cellsK (l ++ m) = cellsK l ++ cellsK m := by simp [cellsK]
theorem cellsK_at : ∀ (l : List (Int × Int)) (j : Nat) (k : Int × Int), l[j]? = some k → (cellsK l)[j * 2]? = some (.int .i64 k.1) ∧ (cellsK l)[j * 2 + 1]? = some (.int .i64 k.2) := by
  intro l
  induction l with
  | nil => intro j k h; simp at h
  | cons x r ih =>
    intro j k h
    have e : cellsK (x :: r) = .int .i64 x.1 :: .int .i64 x.2 :: cellsK r := rfl
    rw [e]
    cases j with
    | zero => simp at h; subst h; exact ⟨rfl, rfl⟩
    | succ j =>
      have := ih j k (by simpa using h)
      rw [show (j + 1) * 2 = j * 2 + 1 + 1 by omega]
      exact this

theorem infoKey : (Tryd.prog.info? 62).map (fun i => (i.zero, i.size, i.bytes)) = some (some (.agg #[.int .i64 0, .int .i64 0]), 2, 16) := by kernel_rfl
def OwnK (w : World) (B : Nat) (v : Value) (l : List (Int × Int)) : Prop := w.ownsRow B 62 2 v l.length (cellsK l)

theorem OwnK.nil (w : World) (B : Nat) : OwnK w B (.slice none 0 0) [] := ⟨rfl, Or.inl ⟨rfl, rfl⟩⟩
theorem OwnK.lt {w : World} {B : Nat} {v : Value} {l : List (Int × Int)} (h : OwnK w B v l) {k : Nat} (hk : v.ownBlock = some k) : B ≤ k ∧ k < w.heap.size := World.ownsRow.lt h k hk
theorem OwnK.but {S : List Nat} {w w' : World} {B : Nat} {v : Value} {l : List (Int × Int)} (h : OwnK w B v l) (hb : But S w w') (hS : ∀ k ∈ S, k < B) : OwnK w' B v l := by
  obtain ⟨h1, h2 | ⟨g, cap, cur, h3, h4, h5, h6⟩⟩ := h
  · exact ⟨h1, Or.inl h2⟩
  · refine ⟨h1, Or.inr ⟨g, cap, cur, h3, h4, ?_, h6⟩⟩
    rw [hb.block g]
    · exact h5
    · rcases Nat.lt_or_ge g w.heap.size with h' | h'
      · exact h'
      · rw [Array.getElem?_eq_none h'] at h5; cases h5
    · intro hg
      have := hS g hg
      omega
theorem OwnK.below {w w' : World} {B : Nat} {v : Value} {l : List (Int × Int)} (h : OwnK w B v l) (hb : Below w.heap.size w w') : OwnK w' B v l := h.but (But.of_below (S := []) hb) (by simp)
theorem OwnK.base {w : World} {B B' : Nat} {v : Value} {l : List (Int × Int)} (h : OwnK w B v l) (hB : B' ≤ B) : OwnK w B' v l := by
  obtain ⟨h1, h2 | ⟨g, cap, cur, h3, h4, h5⟩⟩ := h
  · exact ⟨h1, Or.inl h2⟩
  · exact ⟨h1, Or.inr ⟨g, cap, cur, h3, Nat.le_trans hB h4, h5⟩⟩
theorem OwnK.new (w : World) (B : Nat) (cs : Array Value) (l : List (Int × Int)) (hcs : cs.toList = cellsK l) (hB : B ≤ w.heap.size) (hm : l.length ≤ maxLen) : OwnK (w.alloc (.cells cs 62)) B (.slice (some ⟨w.heap.size, 0, none⟩) l.length l.length) l := by
  have hsz : cs.size = l.length * 2 := by rw [← Array.length_toList, hcs, cellsK_length]
  refine ⟨by rw [cellsK_length], Or.inr ⟨w.heap.size, l.length, cs, rfl, hB, heap_alloc_new w _, Nat.le_refl _, hm, hsz, ?_⟩⟩
  rw [hcs, ← cellsK_length]; exact List.take_length
/-- keys in memory at an address -/
def KeysAt (w : World) (A : Option Addr) (l : List (Int × Int)) : Prop := CellsAt w A (cellsK l)
theorem OwnK.form {w : World} {B : Nat} {v : Value} {l : List (Int × Int)} (h : OwnK w B v l) : ∃ A cap, v = .slice A l.length cap ∧ l.length ≤ cap ∧ KeysAt w A l ∧ (∀ a, A = some a → B ≤ a.block ∧ a.block < w.heap.size ∧ a.spot = none) ∧ v.ownBlock = A.map (·.block) := by
  rcases h.2 with ⟨rfl, h0⟩ | ⟨g, cap, cur, rfl, hB, hg, hn, hm, hsz, htake⟩
  · have : l = [] := List.eq_nil_of_length_eq_zero h0
    subst this
    exact ⟨none, 0, rfl, Nat.le_refl _, fun h => absurd rfl h, (fun a ha => by cases ha), rfl⟩
  · have hlt : g < w.heap.size := by
      rcases Nat.lt_or_ge g w.heap.size with h' | h'
      · exact h'
      · rw [Array.getElem?_eq_none h'] at hg; cases hg
    refine ⟨some ⟨g, 0, none⟩, cap, rfl, hn, ?_, (fun a ha => by cases ha; exact ⟨hB, hlt, rfl⟩), rfl⟩
    intro _
    refine ⟨g, 0, rfl, hlt, fun j u hu => ?_⟩
    have e := cell_of_row w g j cur 62 (0, 0) hg
    rw [Nat.zero_add, e, ← Array.getElem?_toList]
    rw [← htake] at hu
    have hj : j < l.length * 2 := by
      rcases Nat.lt_or_ge j (l.length * 2) with h' | h'
      · exact h'
      · rw [List.getElem?_take_eq_none h'] at hu; cases hu
    rwa [List.getElem?_take_of_lt hj] at hu
theorem KeysAt.cell {w : World} {A : Option Addr} {l : List (Int × Int)} (h : KeysAt w A l) {j : Nat} {k : Int × Int} (hj : l[j]? = some k) : ∃ b off, A = some ⟨b, off, none⟩ ∧ b < w.heap.size ∧ w.cell? ⟨b, off + j * 2, none⟩ = some (.int .i64 k.1) ∧ w.cell? ⟨b, off + j * 2 + 1, none⟩ = some (.int .i64 k.2) := by
  obtain ⟨h1, h2⟩ := cellsK_at l j k hj
  have hne : cellsK l ≠ [] := by intro e; rw [e] at h1; simp at h1
  obtain ⟨b, off, hA, hb, hc⟩ := h hne
  exact ⟨b, off, hA, hb, hc _ _ h1, by rw [Nat.add_assoc]; exact hc _ _ h2⟩
theorem KeysAt.but {S : List Nat} {w w' : World} {A : Option Addr} {l : List (Int × Int)} (h : KeysAt w A l) (hb : But S w w') (hS : ∀ a, A = some a → a.block ∉ S) : KeysAt w' A l := by
  intro hne
  obtain ⟨b, off, rfl, hlt, hc⟩ := h hne
  refine ⟨b, off, rfl, Nat.lt_of_lt_of_le hlt hb.size, fun j u hu => ?_⟩
  rw [But.cell hb (p := ⟨b, off + j, none⟩) hlt (hS ⟨b, off, none⟩ rfl)]
  exact hc j u hu

theorem wpList_append_keys {w : World} {ops : Array Oper} {rest : List Oper} {o : Oper} {a : Act} {Q : Exit → Act → World → Prop} (hgd : o.guard = none) (s x : Operand)
    (ho : o.op = .call { callee := .builtin .append, args := #[s, x], argTypes := #[57, 57] })
    {B : Nat} {v : Value} {l : List (Int × Int)} (hs : a.eval s = v) (hown : OwnK w B v l) {A : Option Addr} {src : List (Int × Int)} {n c : Nat} (hx : a.eval x = .slice A n c) (hn : src.length = n) (hsrc : KeysAt w A src)
    (hb : l.length + src.length ≤ 1099511627776) (hbase : B ≤ w.heap.size)
    (h : ∀ v' w', OwnK w' B v' (l ++ src) → w.grownBy w' v.ownBlock → wpList Tryd.prog ops Q rest (a.put o.dst v') w') : wpList Tryd.prog ops Q (o :: rest) a w := by
  subst hn
  refine wpList_append_cells hgd s x ho Tryd.underlying57 infoKey rfl (by decide) hs hown hx (by rw [cellsK_length]) hsrc ?_ ?_ ?_ hbase ?_
  · intro u hu
    obtain ⟨c, _, hc⟩ := List.mem_flatMap.1 hu
    simp at hc
    rcases hc with rfl | rfl <;> rfl
  · unfold maxLen; omega
  · omega
  · intro v' w' h2 h3
    refine h v' w' ?_ h3
    unfold OwnK
    rw [List.length_append, cellsK_append]
    exact h2

theorem But.of_grown {S : List Nat} {a w w' : World} {row : Option Nat} (h : But S a w) (hg : w.grownBy w' row) (hr : ∀ k, row = some k → k ∈ S ∨ a.heap.size ≤ k) : But S a w' :=
  ⟨hg.os.trans h.os, hg.tape.trans h.tape, hg.output.trans h.output, Nat.le_trans h.size hg.size, fun k hk hs => (hg.block k (Nat.lt_of_lt_of_le hk h.size) (fun e => by rcases hr k e.symm with h1 | h1; exact hs h1; omega)).trans (h.block k hk hs)⟩

end Go.Proofs.YtbflcikfaoojmaaDoor.Edit

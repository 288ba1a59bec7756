/- Texts joined: St1; St2; St4; St11; St3. -/
import Derived.Test.YtbflcikfaoojmaaDoorGD
import Derived.Test.YtbflcikfaoojmaaDoorGB
import Derived.Test.YtbflcikfaoojmaaDoorGF
import Derived.WalkKit
import Derived.BigRegion
import Derived.BigGuard
import Derived.CellFam
/- The stable sort, plain: merging. -/
set_option linter.unusedVariables false
set_option linter.unusedSimpArgs false
namespace Go.Proofs.YtbflcikfaoojmaaDoor.Edit

theorem snoc_ind {P : List Int → Prop} (h0 : P []) (h1 : ∀ xs x, P xs → P (xs ++ [x])) : ∀ xs, P xs := by
  intro xs
  have : ∀ ys : List Int, P ys.reverse := by
    intro ys
    induction ys with
    | nil => exact h0
    | cons y ys ih => rw [List.reverse_cons]; exact h1 _ _ ih
  rw [← List.reverse_reverse xs]
  exact this _

section
variable (key : Int → Int)
/-- merged, what comes first first -/
def mrg : List Int → List Int → List Int
  | [], r => r
  | x :: l, [] => x :: l
  | x :: l, y :: r => if key y < key x then y :: mrg (x :: l) r else x :: mrg l (y :: r)
termination_by l r => l.length + r.length

theorem mrg_nil (l : List Int) : mrg key l [] = l := by
  cases l with
  | nil => simp [mrg]
  | cons x l => simp [mrg]
theorem nil_mrg (r : List Int) : mrg key [] r = r := by simp [mrg]
theorem mrg_lt {x y : Int} (l r : List Int) (h : key y < key x) : mrg key (x :: l) (y :: r) = y :: mrg key (x :: l) r := by
  rw [mrg, if_pos h]
theorem mrg_ge {x y : Int} (l r : List Int) (h : ¬ key y < key x) : mrg key (x :: l) (y :: r) = x :: mrg key l (y :: r) := by
  rw [mrg, if_neg h]
theorem mrg_len : ∀ (k : Nat) (l r : List Int), l.length + r.length ≤ k → (mrg key l r).length = l.length + r.length := by
  intro k
  induction k with
  | zero =>
    intro l r h
    obtain rfl := List.eq_nil_of_length_eq_zero (show l.length = 0 by omega)
    rw [nil_mrg]; simp
  | succ k ih =>
    intro l r h
    cases l with
    | nil => rw [nil_mrg]; simp
    | cons x l =>
      cases r with
      | nil => rw [mrg_nil]; simp
      | cons y r =>
        by_cases hh : key y < key x
        · rw [mrg_lt key l r hh, List.length_cons, ih _ _ (by simp at h ⊢; omega)]; simp; omega
        · rw [mrg_ge key l r hh, List.length_cons, ih _ _ (by simp at h ⊢; omega)]; simp; omega
theorem mrg_mem : ∀ (k : Nat) (l r : List Int), l.length + r.length ≤ k → ∀ z, z ∈ mrg key l r ↔ z ∈ l ∨ z ∈ r := by
  intro k
  induction k with
  | zero =>
    intro l r h z
    obtain rfl := List.eq_nil_of_length_eq_zero (show l.length = 0 by omega)
    rw [nil_mrg]; simp
  | succ k ih =>
    intro l r h z
    cases l with
    | nil => rw [nil_mrg]; simp
    | cons x l =>
      cases r with
      | nil => rw [mrg_nil]; simp
      | cons y r =>
        by_cases hh : key y < key x
        · rw [mrg_lt key l r hh, List.mem_cons, ih _ _ (by simp at h ⊢; omega) z]; simp only [List.mem_cons]; constructor <;> intro hz <;> (rcases hz with hz | (hz | hz) | hz <;> simp_all) <;> (try (rcases hz with hz | hz <;> simp_all))
        · rw [mrg_ge key l r hh, List.mem_cons, ih _ _ (by simp at h ⊢; omega) z]; simp only [List.mem_cons, or_assoc]

theorem mrg_assoc : ∀ (k : Nat) (a b c : List Int), a.length + b.length + c.length ≤ k → mrg key (mrg key a b) c = mrg key a (mrg key b c) := by
  intro k
  induction k with
  | zero =>
    intro a b c h
    obtain rfl := List.eq_nil_of_length_eq_zero (show a.length = 0 by omega)
    rw [nil_mrg, nil_mrg]
  | succ k ih =>
    intro a b c h
    cases a with
    | nil => rw [nil_mrg, nil_mrg]
    | cons x a =>
      cases b with
      | nil => rw [mrg_nil, nil_mrg]
      | cons y b =>
        cases c with
        | nil => rw [mrg_nil, mrg_nil]
        | cons z c =>
          simp only [List.length_cons] at h
          by_cases h1 : key y < key x
          · rw [mrg_lt key a b h1]
            by_cases h2 : key z < key y
            · rw [mrg_lt key _ c h2, mrg_lt key b c h2, mrg_lt key a _ (show key z < key x by omega)]
              rw [← mrg_lt key a b h1, ih (x :: a) (y :: b) c (by simp only [List.length_cons]; omega)]
            · rw [mrg_ge key _ c h2, mrg_ge key b c h2, mrg_lt key a _ h1]
              rw [ih (x :: a) b (z :: c) (by simp only [List.length_cons]; omega)]
          · rw [mrg_ge key a b h1]
            by_cases h2 : key z < key x
            · rw [mrg_lt key _ c h2, mrg_lt key b c (show key z < key y by omega), mrg_lt key a _ h2]
              rw [← mrg_ge key a b h1, ih (x :: a) (y :: b) c (by simp only [List.length_cons]; omega)]
            · rw [mrg_ge key _ c h2]
              by_cases h3 : key z < key y
              · rw [mrg_lt key b c h3, mrg_ge key a _ h2, ← mrg_lt key b c h3, ih a (y :: b) (z :: c) (by simp only [List.length_cons]; omega)]
              · rw [mrg_ge key b c h3, mrg_ge key a _ h1, ← mrg_ge key b c h3, ih a (y :: b) (z :: c) (by simp only [List.length_cons]; omega)]

/-- merged in two halves -/
theorem mrg_split : ∀ (k : Nat) (l1 l2 r1 r2 : List Int), l1.length + r1.length ≤ k → (∀ x ∈ l1, ∀ y ∈ r2, ¬ key y < key x) → (∀ x ∈ l2, ∀ y ∈ r1, key y < key x) → mrg key (l1 ++ l2) (r1 ++ r2) = mrg key l1 r1 ++ mrg key l2 r2 := by
  intro k
  induction k with
  | zero =>
    intro l1 l2 r1 r2 h _ _
    obtain rfl := List.eq_nil_of_length_eq_zero (show l1.length = 0 by omega)
    obtain rfl := List.eq_nil_of_length_eq_zero (show r1.length = 0 by omega)
    simp [nil_mrg]
  | succ k ih =>
    intro l1 l2 r1 r2 h h1 h2
    cases l1 with
    | nil =>
      cases r1 with
      | nil => simp [nil_mrg]
      | cons y r1 =>
        rw [List.nil_append, nil_mrg]
        cases l2 with
        | nil => rw [nil_mrg, nil_mrg]
        | cons x l2 =>
          rw [List.cons_append, mrg_lt key _ _ (h2 x (by simp) y (by simp)), List.cons_append]
          have := ih [] (x :: l2) r1 r2 (by simp at h ⊢; omega) (by simp) (fun a ha b hb => h2 a ha b (by simp [hb]))
          rw [List.nil_append, nil_mrg] at this
          rw [this]
    | cons x l1 =>
      cases r1 with
      | nil =>
        rw [List.nil_append, mrg_nil]
        cases r2 with
        | nil => rw [mrg_nil, mrg_nil]
        | cons y r2 =>
          rw [List.cons_append, mrg_ge key _ _ (h1 x (by simp) y (by simp)), List.cons_append]
          have := ih l1 l2 [] (y :: r2) (by simp at h ⊢; omega) (fun a ha b hb => h1 a (by simp [ha]) b hb) (by simp)
          rw [List.nil_append, mrg_nil] at this
          rw [this]
      | cons y r1 =>
        by_cases hh : key y < key x
        · rw [List.cons_append, List.cons_append, mrg_lt key _ _ hh, mrg_lt key _ _ hh, List.cons_append]
          have := ih (x :: l1) l2 r1 r2 (by simp at h ⊢; omega) h1 (fun a ha b hb => h2 a ha b (by simp [hb]))
          rw [List.cons_append] at this
          rw [this]
        · rw [List.cons_append, List.cons_append, mrg_ge key _ _ hh, mrg_ge key _ _ hh, List.cons_append]
          have := ih l1 l2 (y :: r1) r2 (by simp at h ⊢; omega) (fun a ha b hb => h1 a (by simp [ha]) b hb) h2
          rw [List.cons_append] at this
          rw [this]

/-- sorted, one after the other -/
def srtE (xs : List Int) : List Int := xs.foldl (fun acc x => mrg key acc [x]) []
theorem srt_from : ∀ (xs acc : List Int), xs.foldl (fun acc x => mrg key acc [x]) acc = mrg key acc (srtE key xs) := by
  refine snoc_ind (fun acc => ?_) (fun xs x ih acc => ?_)
  · rw [show srtE key [] = [] from rfl, mrg_nil]; rfl
  · unfold srtE at ih ⊢
    rw [List.foldl_append, List.foldl_append, ih acc]
    show mrg key (mrg key acc _) [x] = mrg key acc (mrg key _ [x])
    rw [mrg_assoc key _ _ _ _ (Nat.le_refl _)]
theorem srt_append (xs ys : List Int) : srtE key (xs ++ ys) = mrg key (srtE key xs) (srtE key ys) := by
  show (xs ++ ys).foldl _ [] = _
  rw [List.foldl_append, srt_from]
  rfl

/-- nothing comes ahead of what is smaller -/
def Srt (l : List Int) : Prop := l.Pairwise fun a b => ¬ key b < key a
theorem mrg_srt : ∀ (k : Nat) (l r : List Int), l.length + r.length ≤ k → Srt key l → Srt key r → Srt key (mrg key l r) := by
  intro k
  induction k with
  | zero =>
    intro l r h hl hr
    obtain rfl := List.eq_nil_of_length_eq_zero (show l.length = 0 by omega)
    rw [nil_mrg]; exact hr
  | succ k ih =>
    intro l r h hl hr
    cases l with
    | nil => rw [nil_mrg]; exact hr
    | cons x l =>
      cases r with
      | nil => rw [mrg_nil]; exact hl
      | cons y r =>
        have hl' := List.pairwise_cons.1 hl
        have hr' := List.pairwise_cons.1 hr
        by_cases hh : key y < key x
        · rw [mrg_lt key l r hh]
          refine List.pairwise_cons.2 ⟨fun z hz => ?_, ih _ _ (by simp at h ⊢; omega) hl hr'.2⟩
          rcases (mrg_mem key _ _ _ (Nat.le_refl _) z).1 hz with hz | hz
          · rcases List.mem_cons.1 hz with rfl | hz
            · omega
            · have := hl'.1 z hz; omega
          · exact hr'.1 z hz
        · rw [mrg_ge key l r hh]
          refine List.pairwise_cons.2 ⟨fun z hz => ?_, ih _ _ (by simp at h ⊢; omega) hl'.2 hr⟩
          rcases (mrg_mem key _ _ _ (Nat.le_refl _) z).1 hz with hz | hz
          · exact hl'.1 z hz
          · rcases List.mem_cons.1 hz with rfl | hz
            · exact hh
            · have := hr'.1 z hz; omega
theorem srt_one (x : Int) : Srt key [x] := List.pairwise_singleton _ _
theorem srtE_srt : ∀ (xs : List Int), Srt key (srtE key xs) := by
  refine snoc_ind List.Pairwise.nil (fun xs x ih => ?_)
  · rw [srt_append]
    exact mrg_srt key _ _ _ (Nat.le_refl _) ih (by show Srt key (mrg key [] [x]); rw [nil_mrg]; exact srt_one key x)
theorem srtE_len : ∀ (xs : List Int), (srtE key xs).length = xs.length := by
  refine snoc_ind rfl (fun xs x ih => ?_)
  · rw [srt_append, mrg_len key _ _ _ (Nat.le_refl _), ih]
    show _ + (mrg key [] [x]).length = _
    rw [nil_mrg, List.length_append]
theorem srtE_one (x : Int) : srtE key [x] = [x] := by show mrg key [] [x] = _; rw [nil_mrg]
end

end Go.Proofs.YtbflcikfaoojmaaDoor.Edit

/- The stable sort's rows: exchanges of ranges, and rotations, walked. -/
set_option linter.unusedVariables false
set_option linter.unusedSimpArgs false
namespace Go.Proofs.YtbflcikfaoojmaaDoor.Edit
open Go.RowKit Go.Lib ChangeShapes Mem

/-- a row of n numbers in a block of its own: F t at place t -/
def IR (w : World) (g n : Nat) (F : Nat → Int) : Prop := ∃ cur, Blk w g cur 3 ∧ cur.size = n ∧ ∀ t, t < n → cur[t]? = some (.int .i64 (F t))
theorem IR.cell {w : World} {g n : Nat} {F : Nat → Int} (h : IR w g n F) {t : Nat} (ht : t < n) : w.cell? ⟨g, t, none⟩ = some (.int .i64 (F t)) := by
  obtain ⟨cur, hb, _, hc⟩ := h
  exact hb.cell (hc t ht)
theorem IR.free {w : World} {g n : Nat} {F : Nat → Int} (h : IR w g n F) (t : Nat) : w.frozen? ⟨g, t, none⟩ = false := by
  obtain ⟨cur, hb, _, _⟩ := h
  exact hb.free t
theorem IR.lt {w : World} {g n : Nat} {F : Nat → Int} (h : IR w g n F) : g < w.heap.size := by
  obtain ⟨cur, hb, _, _⟩ := h
  exact hb.lt
theorem IR.set {w : World} {g n : Nat} {F : Nat → Int} (h : IR w g n F) (j : Nat) (v : Int) : IR (w.setCell ⟨g, j, none⟩ (.int .i64 v)) g n (fun t => if t = j then v else F t) := by
  obtain ⟨cur, hb, hs, hc⟩ := h
  refine ⟨_, hb.set j _, by simpa using hs, fun t ht => ?_⟩
  by_cases e : t = j
  · subst e
    rw [Array.getElem?_setIfInBounds_self_of_lt (by omega)]
    show _ = some (Value.int .i64 (if t = t then v else F t))
    rw [if_pos rfl]
  · rw [Array.getElem?_setIfInBounds_ne (fun h => e h.symm), hc t ht]
    show _ = some (Value.int .i64 (if t = j then v else F t))
    rw [if_neg e]
theorem IR.but {S : List Nat} {w w' : World} {g n : Nat} {F : Nat → Int} (h : IR w g n F) (hb : But S w w') (hs : g ∉ S) : IR w' g n F := by
  obtain ⟨cur, hk, h1, h2⟩ := h
  exact ⟨cur, hk.but hb hs, h1, h2⟩
theorem IR.drew {w : World} {g n : Nat} {F : Nat → Int} (h : IR w g n F) (k : Nat) : IR (w.drewN k) g n F := h
theorem IR.congr {w : World} {g n : Nat} {F G : Nat → Int} (h : IR w g n F) (he : ∀ t, t < n → F t = G t) : IR w g n G := by
  obtain ⟨cur, hk, h1, h2⟩ := h
  exact ⟨cur, hk, h1, fun t ht => by rw [h2 t ht, he t ht]⟩

/-- two ranges exchanged -/
def swR (F : Nat → Int) (a b n : Nat) (t : Nat) : Int := if a ≤ t ∧ t < a + n then F (t - a + b) else if b ≤ t ∧ t < b + n then F (t - b + a) else F t
/-- rotated: what begins at m comes to a -/
def rotR (F : Nat → Int) (a m b : Nat) (t : Nat) : Int := if a ≤ t ∧ t < a + (b - m) then F (t - a + m) else if a + (b - m) ≤ t ∧ t < b then F (t - (b - m)) else F t

theorem swR_zero (F : Nat → Int) (a b : Nat) (t : Nat) : swR F a b 0 t = F t := by
  unfold swR
  rw [if_neg (by omega), if_neg (by omega)]
theorem swR_succ (F : Nat → Int) (a b i : Nat) (h : a + i < b) (t : Nat) : (if t = b + i then F (a + i) else if t = a + i then F (b + i) else swR F a b i t) = swR F a b (i + 1) t := by
  unfold swR
  by_cases h1 : t = b + i
  · subst h1
    rw [if_pos rfl, if_neg (by omega), if_pos (by omega)]
    congr 1; omega
  · rw [if_neg h1]
    by_cases h2 : t = a + i
    · subst h2
      rw [if_pos rfl, if_pos (by omega)]
      congr 1; omega
    · rw [if_neg h2]
      by_cases h3 : a ≤ t ∧ t < a + i
      · rw [if_pos h3, if_pos (by omega)]
      · rw [if_neg h3, if_neg (show ¬ (a ≤ t ∧ t < a + (i + 1)) by omega)]
        by_cases h4 : b ≤ t ∧ t < b + i
        · rw [if_pos h4, if_pos (by omega)]
        · rw [if_neg h4, if_neg (show ¬ (b ≤ t ∧ t < b + (i + 1)) by omega)]
theorem rot_more (F : Nat → Int) (m i j : Nat) (hi : j < i) (hm : i ≤ m) (t : Nat) : rotR (swR F (m - i) m j) (m - (i - j)) m (m + j) t = rotR F (m - i) m (m + j) t := by
  unfold rotR swR
  by_cases h1 : m - i ≤ t ∧ t < m - i + j
  · rw [if_neg (by omega), if_neg (by omega), if_pos (by omega), if_pos (by omega)]
  · by_cases h2 : m - i + j ≤ t ∧ t < m - i + j + j
    · rw [if_pos (by omega), if_neg (by omega), if_pos (by omega), if_neg (by omega), if_pos (by omega)]
      congr 1; omega
    · by_cases h3 : m - i + j + j ≤ t ∧ t < m + j
      · rw [if_neg (by omega), if_pos (by omega), if_neg (by omega), if_neg (by omega), if_neg (by omega), if_pos (by omega)]
      · rw [if_neg (by omega), if_neg (by omega), if_neg (by omega), if_neg (by omega), if_neg (by omega), if_neg (by omega)]
theorem rot_less (F : Nat → Int) (m i j : Nat) (hi : i < j) (hm : i ≤ m) (t : Nat) : rotR (swR F (m - i) (m + j - i) i) (m - i) m (m + (j - i)) t = rotR F (m - i) m (m + j) t := by
  unfold rotR swR
  by_cases h1 : m - i ≤ t ∧ t < m - i + (j - i)
  · rw [if_pos (by omega), if_neg (by omega), if_neg (by omega), if_pos (by omega)]
  · by_cases h2 : m - i + (j - i) ≤ t ∧ t < m + (j - i)
    · rw [if_neg (by omega), if_pos (by omega), if_pos (by omega), if_pos (by omega)]
      congr 1; omega
    · by_cases h3 : m + j - i ≤ t ∧ t < m + j
      · rw [if_neg (by omega), if_neg (by omega), if_neg (by omega), if_pos (by omega), if_neg (by omega), if_pos (by omega)]
        congr 1; omega
      · rw [if_neg (by omega), if_neg (by omega), if_neg (by omega), if_neg (by omega), if_neg (by omega), if_neg (by omega)]
theorem rot_end (F : Nat → Int) (m i : Nat) (hm : i ≤ m) (t : Nat) : swR F (m - i) m i t = rotR F (m - i) m (m + i) t := by
  unfold rotR swR
  by_cases h1 : m - i ≤ t ∧ t < m - i + i
  · rw [if_pos h1, if_pos (by omega)]
  · by_cases h2 : m ≤ t ∧ t < m + i
    · rw [if_neg h1, if_pos h2, if_neg (by omega), if_pos (by omega)]
      congr 1; omega
    · rw [if_neg h1, if_neg h2, if_neg (by omega), if_neg (by omega)]

/-- the loop of exchanges -/
def RSw (w : World) (g nn : Nat) (F : Nat → Int) (a b n : Nat) (s : Value) (wr : World) : Prop := ∃ i : Nat, s = .int .i64 (i : Int) ∧ i ≤ n ∧ Hid (IR wr g nn (swR F a b i)) ∧ Hid (But [g] w wr)

set_option maxRecDepth 100000 in
set_option maxHeartbeats 2000000 in
theorem swapRange_c (g nn cap : Nat) (F : Nat → Int) (a b n : Nat) (f : Value) (w : World) (h : IR w g nn F) (hab : a + n ≤ b) (hb : b + n ≤ nn) (hnn : nn ≤ 100000) :
    Calls Tryd.prog 73 #[.slice (some ⟨g, 0, none⟩) nn cap, .int .i64 (a : Int), .int .i64 (b : Int), .int .i64 (n : Int), f] w fun e w' => (∃ u, e = .returned u) ∧ IR w' g nn (swR F a b n) ∧ But [g] w w' := by
  have H := Lib.hid h
  clear h
  go_enter Tryd.func73, Tryd.ntmps73
  go_wp2
  go_loopw [10] (fun s wr => RSw w g nn F a b n s wr) (fun s _ => n - (RowKit.intOf s).toNat)
  case atStart => exact ⟨0, rfl, Nat.zero_le _, H.out.congr (fun t _ => (swR_zero F a b t).symm), But.refl _ _⟩
  case round =>
    obtain ⟨i, rfl, hi, HI, HB⟩ := hrel
    by_cases hlt : i < n
    · have x0 := HI.out.cell (t := a + i) (by omega)
      have x1 := HI.out.cell (t := b + i) (by omega)
      have y0 := HI.out.free (a + i)
      have y1 := HI.out.free (b + i)
      have e1 : swR F a b i (a + i) = F (a + i) := by unfold swR; rw [if_neg (by omega), if_neg (by omega)]
      have e2 : swR F a b i (b + i) = F (b + i) := by unfold swR; rw [if_neg (by omega), if_neg (by omega)]
      rw [e1] at x0
      rw [e2] at x1
      obtain ⟨p, hp⟩ : ∃ p, a + i = p := ⟨_, rfl⟩
      obtain ⟨q, hq⟩ : ∃ q, b + i = q := ⟨_, rfl⟩
      have s1 : IntKind.i64.wrap ((a : Int) + (i : Int)) = (p : Int) := by rw [← hp]; have := IntWalk.i64_in ((a : Int) + (i : Int)) (by omega); rw [this]; omega
      have s2 : IntKind.i64.wrap ((b : Int) + (i : Int)) = (q : Int) := by rw [← hq]; have := IntWalk.i64_in ((b : Int) + (i : Int)) (by omega); rw [this]; omega
      rw [hp] at x0 y0
      rw [hq] at x1 y1
      have hpn : p < nn := by omega
      have hqn : q < nn := by omega
      have hpq : p ≠ q := by omega
      have hpq' : q ≠ p := by omega
      have m1 : (p : Int) < (nn : Int) := by omega
      have m2 : (q : Int) < (nn : Int) := by omega
      have hF : ∀ t, (if t = q then F p else if t = p then F q else swR F a b i t) = swR F a b (i + 1) t := by
        intro t
        have := swR_succ F a b i (by omega) t
        rw [hp, hq] at this
        exact this
      have HF := Lib.hid hF
      have HLT := Lib.hid hlt
      clear hF
      go_wp2_with fail
      go_region
      all_goals go_wp2
      go_roundw
      case rel =>
        refine ⟨i + 1, by go_num, HLT.out, ?_, ?_⟩
        · have h1 := (HI.out.set p (F q)).set q (F p)
          exact IR.congr (show IR _ g nn _ from h1) (fun t _ => HF.out t)
        · exact ((HB.out.set (p := ⟨g, p, none⟩) (.inl (by simp)) _).set (p := ⟨g, q, none⟩) (.inl (by simp)) _).drew
      case measure => have := HLT.out; simp [RowKit.intOf]; omega
    · have hin : i = n := by omega
      subst hin
      clear hlt
      go_wp2_with fail
      go_end0
      exact ⟨⟨_, rfl⟩, HI.out, HB.out⟩

end Go.Proofs.YtbflcikfaoojmaaDoor.Edit

/- Segments of a row, rotated and merged: plain. -/
set_option linter.unusedVariables false
set_option linter.unusedSimpArgs false
namespace Go.Proofs.YtbflcikfaoojmaaDoor.Edit

/-- from a to b -/
def sg (F : Nat → Int) (a b : Nat) : List Int := (List.range (b - a)).map fun i => F (a + i)
theorem sg_len (F : Nat → Int) (a b : Nat) : (sg F a b).length = b - a := by simp [sg]
theorem sg_nil (F : Nat → Int) (a : Nat) : sg F a a = [] := by simp [sg]
theorem sg_one (F : Nat → Int) (a : Nat) : sg F a (a + 1) = [F a] := by
  unfold sg
  rw [show a + 1 - a = 1 by omega]
  simp
theorem sg_append (F : Nat → Int) {a m b : Nat} (h1 : a ≤ m) (h2 : m ≤ b) : sg F a b = sg F a m ++ sg F m b := by
  unfold sg
  rw [show b - a = (m - a) + (b - m) by omega, List.range_add, List.map_append, List.map_map]
  congr 1
  apply List.map_congr_left
  intro i _
  show F (a + (m - a + i)) = F (m + i)
  congr 1; omega
theorem sg_congr {F G : Nat → Int} {a b : Nat} (h : ∀ t, a ≤ t → t < b → F t = G t) : sg F a b = sg G a b := by
  unfold sg
  apply List.map_congr_left
  intro i hi
  have := List.mem_range.1 hi
  exact h _ (by omega) (by omega)
theorem sg_shift {F G : Nat → Int} {a b c d : Nat} (hn : b - a = d - c) (h : ∀ i, i < b - a → F (a + i) = G (c + i)) : sg F a b = sg G c d := by
  unfold sg
  rw [← hn]
  apply List.map_congr_left
  intro i hi
  exact h i (List.mem_range.1 hi)
theorem sg_mem {F : Nat → Int} {a b : Nat} {x : Int} : x ∈ sg F a b ↔ ∃ t, a ≤ t ∧ t < b ∧ F t = x := by
  unfold sg
  rw [List.mem_map]
  constructor
  · rintro ⟨i, hi, rfl⟩
    have := List.mem_range.1 hi
    exact ⟨a + i, by omega, by omega, rfl⟩
  · rintro ⟨t, h1, h2, rfl⟩
    exact ⟨t - a, List.mem_range.2 (by omega), by rw [show a + (t - a) = t by omega]⟩

section
variable {F : Nat → Int} {s m e : Nat}
theorem rot_lo {a : Nat} (h : a ≤ s) : sg (rotR F s m e) a s = sg F a s := sg_congr fun t h1 h2 => by unfold rotR; rw [if_neg (by omega), if_neg (by omega)]
theorem rot_hi {b : Nat} (hs : s ≤ m) (hm : m ≤ e) : sg (rotR F s m e) e b = sg F e b := sg_congr fun t h1 h2 => by unfold rotR; rw [if_neg (by omega), if_neg (by omega)]
theorem rot_l (hs : s ≤ m) (hm : m ≤ e) : sg (rotR F s m e) s (s + (e - m)) = sg F m e := sg_shift (by omega) fun i hi => by
  unfold rotR
  rw [if_pos (by omega)]
  congr 1; omega
theorem rot_r (hs : s ≤ m) (hm : m ≤ e) : sg (rotR F s m e) (s + (e - m)) e = sg F s m := sg_shift (by omega) fun i hi => by
  unfold rotR
  rw [if_neg (by omega), if_pos (by omega)]
  congr 1; omega
end

section
variable (key : Int → Int)
theorem sym_split {F : Nat → Int} {a s m e b : Nat} (h1 : a ≤ s) (h2 : s ≤ m) (h3 : m ≤ e) (h4 : e ≤ b) (hs1 : ∀ x ∈ sg F a s, ∀ y ∈ sg F e b, ¬ key y < key x) (hs2 : ∀ x ∈ sg F s m, ∀ y ∈ sg F m e, key y < key x) :
    mrg key (sg F a m) (sg F m b) = mrg key (sg F a s) (sg F m e) ++ mrg key (sg F s m) (sg F e b) := by
  rw [sg_append F h1 h2, sg_append F h3 h4]
  exact mrg_split key _ _ _ _ _ (Nat.le_refl _) hs1 hs2
theorem srt_app {l r : List Int} (h : Srt key (l ++ r)) : Srt key l ∧ Srt key r := by
  have := List.pairwise_append.1 h
  exact ⟨this.1, this.2.1⟩
theorem srt_le {F : Nat → Int} {a b : Nat} (h : Srt key (sg F a b)) {i j : Nat} (hi : a ≤ i) (hij : i ≤ j) (hj : j < b) : key (F i) ≤ key (F j) := by
  rcases Nat.lt_or_eq_of_le hij with hlt | rfl
  · rw [sg_append F (show a ≤ i + 1 by omega) (show i + 1 ≤ b by omega)] at h
    have h3 := (List.pairwise_append.1 h).2.2 (F i) (sg_mem.2 ⟨i, hi, by omega, rfl⟩) (F j) (sg_mem.2 ⟨j, by omega, hj, rfl⟩)
    omega
  · exact Int.le_refl _
/-- where the two halves part -/
theorem part_ok {F : Nat → Int} {a s m e b : Nat} (hl : Srt key (sg F a m)) (hr : Srt key (sg F m b)) (h1 : a ≤ s) (h2 : s ≤ m) (h3 : m ≤ e) (h4 : e ≤ b)
    (c1 : a < s → e < b → key (F (s - 1)) ≤ key (F e)) (c2 : s < m → m < e → key (F (e - 1)) < key (F s)) :
    (∀ x ∈ sg F a s, ∀ y ∈ sg F e b, ¬ key y < key x) ∧ (∀ x ∈ sg F s m, ∀ y ∈ sg F m e, key y < key x) := by
  constructor
  · intro x hx y hy
    obtain ⟨i, i1, i2, rfl⟩ := sg_mem.1 hx
    obtain ⟨j, j1, j2, rfl⟩ := sg_mem.1 hy
    have := c1 (by omega) (by omega)
    have x1 := srt_le key hl (show a ≤ i by omega) (show i ≤ s - 1 by omega) (by omega)
    have x2 := srt_le key hr (show m ≤ e by omega) (show e ≤ j by omega) (by omega)
    omega
  · intro x hx y hy
    obtain ⟨i, i1, i2, rfl⟩ := sg_mem.1 hx
    obtain ⟨j, j1, j2, rfl⟩ := sg_mem.1 hy
    have := c2 (by omega) (by omega)
    have x1 := srt_le key hl (show a ≤ s by omega) (show s ≤ i by omega) (by omega)
    have x2 := srt_le key hr (show m ≤ j by omega) (show j ≤ e - 1 by omega) (by omega)
    omega

/-- what a merge of two halves owes -/
def Mrgd (F G : Nat → Int) (a m b : Nat) : Prop := sg G a b = mrg key (sg F a m) (sg F m b) ∧ ∀ t, (t < a ∨ b ≤ t) → G t = F t
/-- the whole out of the two halves -/
theorem mrgd_two {F F1 G1 G : Nat → Int} {a s m e b mid : Nat} (hmid : mid = s + (e - m)) (h1 : a ≤ s) (h2 : s ≤ m) (h3 : m ≤ e) (h4 : e ≤ b) (hF : ∀ t, F1 t = rotR F s m e t)
    (hp : (∀ x ∈ sg F a s, ∀ y ∈ sg F e b, ¬ key y < key x) ∧ (∀ x ∈ sg F s m, ∀ y ∈ sg F m e, key y < key x)) (g1 : Mrgd key F1 G1 a s mid) (g2 : Mrgd key G1 G mid e b) : Mrgd key F G a m b := by
  subst hmid
  have hFf : F1 = rotR F s m e := funext hF
  subst hFf
  obtain ⟨x1, y1⟩ := g1
  obtain ⟨x2, y2⟩ := g2
  refine ⟨?_, fun t ht => ?_⟩
  · rw [sym_split key h1 h2 h3 h4 hp.1 hp.2, sg_append G (show a ≤ s + (e - m) by omega) (show s + (e - m) ≤ b by omega), x2]
    have e1 : sg G a (s + (e - m)) = sg G1 a (s + (e - m)) := sg_congr fun t t1 t2 => y2 t (.inl t2)
    have e2 : sg G1 (s + (e - m)) e = sg (rotR F s m e) (s + (e - m)) e := sg_congr fun t t1 t2 => y1 t (.inr t1)
    have e3 : sg G1 e b = sg (rotR F s m e) e b := sg_congr fun t t1 t2 => y1 t (.inr (by omega))
    rw [e1, x1, e2, e3, rot_lo h1, rot_l h2 h3, rot_r h2 h3, rot_hi h2 h3]
  · rw [y2 t (by omega), y1 t (by omega)]
    unfold rotR
    rw [if_neg (by omega), if_neg (by omega)]
theorem mrgd_none {F : Nat → Int} {a s b : Nat} (h : a = s ∨ s = b) (h1 : a ≤ s) (h2 : s ≤ b) : Mrgd key F F a s b := by
  refine ⟨?_, fun _ _ => rfl⟩
  rcases h with rfl | rfl
  · rw [sg_nil, nil_mrg]
  · rw [sg_nil, mrg_nil]
end

end Go.Proofs.YtbflcikfaoojmaaDoor.Edit

/- Sorted blocks, plain. -/
set_option linter.unusedVariables false
set_option linter.unusedSimpArgs false
namespace Go.Proofs.YtbflcikfaoojmaaDoor.Edit

/-- a block's start -/
def BS (d a : Nat) : Prop := ∃ k, a = k * d
theorem BS.zero (d : Nat) : BS d 0 := ⟨0, by simp⟩
theorem BS.step {d a : Nat} (h : BS d a) : BS d (a + d) := by
  obtain ⟨k, rfl⟩ := h
  exact ⟨k + 1, by rw [Nat.add_mul, Nat.one_mul]⟩
theorem BS.half {d a : Nat} (h : BS (2 * d) a) : BS d a := by
  obtain ⟨k, rfl⟩ := h
  exact ⟨2 * k, by rw [Nat.mul_left_comm, Nat.mul_assoc]⟩
theorem BS.gap {d a b : Nat} (h1 : BS d a) (h2 : BS d b) (h : a < b) : a + d ≤ b := by
  obtain ⟨k, rfl⟩ := h1
  obtain ⟨l, rfl⟩ := h2
  have hkl : k < l := by
    apply Classical.byContradiction
    intro hh
    have := Nat.mul_le_mul_right d (show l ≤ k by omega)
    omega
  have := Nat.mul_le_mul_right d (show k + 1 ≤ l by omega)
  rw [Nat.add_mul, Nat.one_mul] at this
  exact this

section
variable (key : Int → Int)
/-- a block is sorted -/
def Bk (F0 F : Nat → Int) (n d a : Nat) : Prop := sg F a (min (a + d) n) = srtE key (sg F0 a (min (a + d) n))
theorem Bk.congr {F0 F G : Nat → Int} {n d a : Nat} (h : Bk key F0 F n d a) (hG : ∀ t, a ≤ t → t < min (a + d) n → G t = F t) : Bk key F0 G n d a := by
  unfold Bk at h ⊢
  rw [← h]
  exact sg_congr hG
theorem Bk.srt {F0 F : Nat → Int} {n d a : Nat} (h : Bk key F0 F n d a) : Srt key (sg F a (min (a + d) n)) := by
  unfold Bk at h
  rw [h]
  exact srtE_srt key _
/-- two blocks merged -/
theorem Bk.merge {F0 F G : Nat → Int} {n d a : Nat} (h1 : Bk key F0 F n d a) (h2 : Bk key F0 F n d (a + d)) (had : a + d ≤ n) (hm : Mrgd key F G a (a + d) (min (a + 2 * d) n)) : Bk key F0 G n (2 * d) a := by
  unfold Bk at h1 h2 ⊢
  rw [Nat.min_eq_left had] at h1
  rw [show a + d + d = a + 2 * d by omega] at h2
  rw [hm.1, h1, h2, ← srt_append, ← sg_append F0 (show a ≤ a + d by omega) (by omega)]
theorem Bk.single {F0 F : Nat → Int} {n d a : Nat} (h1 : Bk key F0 F n d a) (had : n ≤ a + d) : Bk key F0 F n (2 * d) a := by
  unfold Bk at h1 ⊢
  rw [Nat.min_eq_right had] at h1
  rw [Nat.min_eq_right (show n ≤ a + 2 * d by omega)]
  exact h1
theorem Bk.next {F0 F G : Nat → Int} {n d a : Nat} (hBS : BS d a) (hbk : ∀ a', BS d a' → a' < a → Bk key F0 F n d a') (hsm : ∀ t, a ≤ t → F t = F0 t) (c : Nat) (hc : c = min (a + d) n) (han : a ≤ n) (hs : sg G a c = srtE key (sg F a c)) (ho : ∀ t, (t < a ∨ c ≤ t) → G t = F t) : ∀ a', BS d a' → a' < a + d → Bk key F0 G n d a' := by
  intro a' h1 h2
  rcases Nat.lt_trichotomy a' a with h | h | h
  · refine (hbk a' h1 h).congr key (fun t t1 t2 => ho t (.inl ?_))
    have := h1.gap hBS h
    omega
  · subst h
    unfold Bk
    rw [← hc, hs]
    congr 1
    exact sg_congr fun t t1 _ => hsm t t1
  · have := hBS.gap h1 h
    omega
theorem Bk.nextm {F0 F G : Nat → Int} {n d a : Nat} (hBS : BS (2 * d) a) (hbk : ∀ a', BS (2 * d) a' → a' < a → Bk key F0 F n (2 * d) a') (hb2 : ∀ a', BS d a' → a ≤ a' → a' < n → Bk key F0 F n d a') (had : a + d < n) (hm : Mrgd key F G a (a + d) (min (a + 2 * d) n)) :
    (∀ a', BS (2 * d) a' → a' < a + 2 * d → Bk key F0 G n (2 * d) a') ∧ (∀ a', BS d a' → a + 2 * d ≤ a' → a' < n → Bk key F0 G n d a') := by
  constructor
  · intro a' h1 h2
    rcases Nat.lt_trichotomy a' a with h | h | h
    · refine (hbk a' h1 h).congr key (fun t t1 t2 => hm.2 t (.inl ?_))
      have := h1.gap hBS h
      omega
    · subst h
      exact Bk.merge key (hb2 a' hBS.half (Nat.le_refl _) (by omega)) (hb2 (a' + d) hBS.half.step (by omega) had) (by omega) hm
    · have := hBS.gap h1 h
      omega
  · intro a' h1 h2 h3
    refine (hb2 a' h1 (by omega) h3).congr key (fun t t1 t2 => hm.2 t (.inr ?_))
    omega
theorem Bk.lastn {F0 F : Nat → Int} {n d a : Nat} (hBS : BS (2 * d) a) (hbk : ∀ a', BS (2 * d) a' → a' < a → Bk key F0 F n (2 * d) a') (hb2 : ∀ a', BS d a' → a ≤ a' → a' < n → Bk key F0 F n d a') (had : n ≤ a + d) :
    ∀ a', BS (2 * d) a' → a' < n → Bk key F0 F n (2 * d) a' := by
  intro a' h1 h2
  rcases Nat.lt_trichotomy a' a with h | h | h
  · exact hbk a' h1 h
  · subst h
    exact Bk.single key (hb2 a' hBS.half (Nat.le_refl _) h2) had
  · have := hBS.gap h1 h
    omega
theorem Bk.all {F0 F : Nat → Int} {n d : Nat} (h : ∀ a', BS d a' → a' < n → Bk key F0 F n d a') (hd : n ≤ d) : sg F 0 n = srtE key (sg F0 0 n) := by
  by_cases h0 : n = 0
  · subst h0; rw [sg_nil, sg_nil]; rfl
  · have := h 0 (BS.zero d) (by omega)
    unfold Bk at this
    rw [Nat.min_eq_right (by omega)] at this
    exact this
end

end Go.Proofs.YtbflcikfaoojmaaDoor.Edit

/- The stable sort's rotation, walked. -/
set_option linter.unusedVariables false
set_option linter.unusedSimpArgs false
namespace Go.Proofs.YtbflcikfaoojmaaDoor.Edit
open Go.RowKit Go.Lib ChangeShapes Mem

/-- the loop of a rotation -/
def RRo (w : World) (g nn : Nat) (F : Nat → Int) (a m b : Nat) (s t : Value) (wr : World) : Prop :=
  ∃ (i j : Nat) (G : Nat → Int), s = .int .i64 (i : Int) ∧ t = .int .i64 (j : Int) ∧ 1 ≤ i ∧ 1 ≤ j ∧ i ≤ m ∧ m + j ≤ b ∧ Hid (IR wr g nn G) ∧ Hid (∀ t, rotR G (m - i) m (m + j) t = rotR F a m b t) ∧ Hid (But [g] w wr)

set_option maxRecDepth 100000 in
set_option maxHeartbeats 2000000 in
theorem rotate_c (g nn cap : Nat) (F : Nat → Int) (a m b : Nat) (f : Value) (w : World) (h : IR w g nn F) (ham : a < m) (hmb : m < b) (hb : b ≤ nn) (hnn : nn ≤ 100000) :
    Calls Tryd.prog 72 #[.slice (some ⟨g, 0, none⟩) nn cap, .int .i64 (a : Int), .int .i64 (m : Int), .int .i64 (b : Int), f] w fun e w' => (∃ u, e = .returned u) ∧ IR w' g nn (rotR F a m b) ∧ But [g] w w' := by
  have H := Lib.hid h
  clear h
  have s1 : IntKind.i64.wrap ((m : Int) - (a : Int)) = ((m - a : Nat) : Int) := by rw [IntWalk.i64_in _ (by omega)]; omega
  have s2 : IntKind.i64.wrap ((b : Int) - (m : Int)) = ((b - m : Nat) : Int) := by rw [IntWalk.i64_in _ (by omega)]; omega
  go_enter Tryd.func72, Tryd.ntmps72
  go_wp2
  go_loopw [10, 11] (fun s t wr => RRo w g nn F a m b s t wr) (fun s t _ => (RowKit.intOf s).toNat + (RowKit.intOf t).toNat)
  case atStart => exact ⟨m - a, b - m, F, rfl, rfl, by omega, by omega, by omega, by omega, H.out, fun t => by rw [show m - (m - a) = a by omega, show m + (b - m) = b by omega], But.refl _ _⟩
  case round =>
    obtain ⟨i, j, G, rfl, rfl, hi, hj, him, hjb, HI, HR, HB⟩ := hrel
    have r1 : IntKind.i64.wrap ((m : Int) - (i : Int)) = ((m - i : Nat) : Int) := by rw [IntWalk.i64_in _ (by omega)]; omega
    rcases Nat.lt_trichotomy i j with hlt | heq | hgt
    · have H73 := Lib.hid (swapRange_c g nn cap G (m - i) (m + j - i) i f wr HI.out (by omega) (by omega) hnn)
      have r2 : IntKind.i64.wrap ((m : Int) + (j : Int)) = ((m + j : Nat) : Int) := by rw [IntWalk.i64_in _ (by omega)]; omega
      have r3 : IntKind.i64.wrap (((m + j : Nat) : Int) - (i : Int)) = ((m + j - i : Nat) : Int) := by rw [IntWalk.i64_in _ (by omega)]; omega
      have r3' : IntKind.i64.wrap ((m : Int) + (j : Int) - (i : Int)) = ((m + j - i : Nat) : Int) := by rw [IntWalk.i64_in _ (by omega)]; omega
      have r4 : IntKind.i64.wrap ((j : Int) - (i : Int)) = ((j - i : Nat) : Int) := by rw [IntWalk.i64_in _ (by omega)]; omega
      have t1 : ((i : Int) != (j : Int)) = true := by simp; omega
      have t2 : decide ((j : Int) < (i : Int)) = false := by simp; omega
      go_wp2_with fail
      refine (H73.out).mono ?_
      rintro e w1 ⟨⟨u, rfl⟩, hi1, hb1⟩
      have HI1 := Lib.hid hi1
      have HB1 := Lib.hid (HB.out.trans hb1)
      clear hi1 hb1 H73
      go_wp2_with fail
      go_roundw
      case rel => exact ⟨i, j - i, _, rfl, rfl, hi, by omega, him, by omega, HI1.out, fun t => by rw [rot_less G m i j hlt him t]; exact HR.out t, HB1.out⟩
      case measure => simp [RowKit.intOf]; omega
    · subst heq
      have H73 := Lib.hid (swapRange_c g nn cap G (m - i) m i f wr HI.out (by omega) (by omega) hnn)
      go_wp2_with fail
      refine (H73.out).mono ?_
      rintro e w1 ⟨⟨u, rfl⟩, hi1, hb1⟩
      have HI1 := Lib.hid hi1
      have HB1 := Lib.hid (HB.out.trans hb1)
      clear hi1 hb1 H73
      go_wp2_with fail
      go_end0
      exact ⟨⟨_, rfl⟩, HI1.out.congr (fun t _ => by rw [rot_end G m i him t]; exact HR.out t), HB1.out⟩
    · have H73 := Lib.hid (swapRange_c g nn cap G (m - i) m j f wr HI.out (by omega) (by omega) hnn)
      have r4 : IntKind.i64.wrap ((i : Int) - (j : Int)) = ((i - j : Nat) : Int) := by rw [IntWalk.i64_in _ (by omega)]; omega
      have t1 : ((i : Int) != (j : Int)) = true := by simp; omega
      have t2 : decide ((j : Int) < (i : Int)) = true := by simp; omega
      go_wp2_with fail
      refine (H73.out).mono ?_
      rintro e w1 ⟨⟨u, rfl⟩, hi1, hb1⟩
      have HI1 := Lib.hid hi1
      have HB1 := Lib.hid (HB.out.trans hb1)
      clear hi1 hb1 H73
      go_wp2_with fail
      go_roundw
      case rel => exact ⟨i - j, j, _, rfl, rfl, by omega, hj, by omega, hjb, HI1.out, fun t => by rw [rot_more G m i j hgt him t]; exact HR.out t, HB1.out⟩
      case measure => simp [RowKit.intOf]; omega

end Go.Proofs.YtbflcikfaoojmaaDoor.Edit

/- What keys do, character by character: plainly. -/
import Derived.Test.YtbkpnffgihjikaaDoorPutB
set_option linter.unusedVariables false
namespace Go.Proofs.YtbkpnffgihjikaaDoor.Edit
open Go.RowKit Go.Lib Go.Shelf ChangeShapes Mem Utf UtfP

def AllPrint (cs : List Int) : Prop := ∀ c ∈ cs, printC c = true
theorem AllPrint.fine {cs : List Int} (h : AllPrint cs) : AllFine cs := fun c hc => printC_fine (h c hc)

theorem firstB_zero (a b : List Int) (h : AllFine (a ++ b)) : firstB (encs a ++ encs b) 0 = true := by
  have := firstB_head [] (a ++ b) h
  rw [encs_append] at this
  simpa [encs_nil] using this

theorem aheadV_snoc (a : List Int) (x : Int) (b : List Int) (h : AllFine (a ++ x :: b)) :
    aheadV (encs (a ++ [x]) ++ encs b) ((encs (a ++ [x])).length - 1) = (encs a).length := by
  have hx : fineC x = true := h x (by simp)
  have e : encs (a ++ [x]) ++ encs b = encs a ++ (enc x ++ encs b) := by rw [encs_append, encs_one, List.append_assoc]
  have hl := (enc_length x).1
  have hlen : (encs (a ++ [x])).length - 1 = (encs a).length + ((enc x).length - 1) := by rw [encs_append, encs_one, List.length_append]; omega
  rw [e, hlen]
  have hf : firstB (encs a ++ (enc x ++ encs b)) (encs a).length = true := by
    have := firstB_head a (x :: b) (fun y hy => h y (by simp at hy ⊢; rcases hy with hy | hy <;> simp [hy]))
    rwa [encs_cons] at this
  have step : ∀ k, k < (enc x).length → aheadV (encs a ++ (enc x ++ encs b)) ((encs a).length + k) = (encs a).length := by
    intro k
    induction k with
    | zero =>
      intro _
      rw [Nat.add_zero]
      cases hn : (encs a).length with
      | zero => rfl
      | succ n =>
        rw [hn] at hf
        show (if firstB _ (n + 1) then n + 1 else _) = n + 1
        rw [hf]; rfl
    | succ k ih =>
      intro hk
      show (if firstB _ ((encs a).length + k + 1) then (encs a).length + k + 1 else aheadV _ ((encs a).length + k)) = _
      rw [Nat.add_assoc, firstB_in a x b hx (k + 1) (by omega) hk, ih (by omega)]
      rfl
  exact step _ (by omega)

theorem beh_first (t : List UInt8) (j : Nat) (h : firstB t j = true) : behindV t j = j := by
  unfold behindV
  cases t.length - j with
  | zero => rfl
  | succ d => unfold behF; rw [h]; rfl

theorem beh_step (t : List UInt8) (j : Nat) (hj : j < t.length) (h : firstB t j = false) : behindV t j = behindV t (j + 1) := by
  unfold behindV
  obtain ⟨d, hd⟩ : ∃ d, t.length - j = d + 1 := ⟨t.length - j - 1, by omega⟩
  rw [hd, show t.length - (j + 1) = d by omega]
  conv => lhs; unfold behF
  rw [h]; rfl

theorem behindV_cons (a : List Int) (x : Int) (b : List Int) (h : AllFine (a ++ x :: b)) :
    behindV (encs a ++ encs (x :: b)) (min (encs a ++ encs (x :: b)).length ((encs a).length + 1)) = (encs a).length + (enc x).length := by
  have hx : fineC x = true := h x (by simp)
  have hl := (enc_length x).1
  have hlen : (encs a ++ encs (x :: b)).length = (encs a).length + ((enc x).length + (encs b).length) := by rw [encs_cons, List.length_append, List.length_append]
  rw [Nat.min_eq_right (by omega)]
  have hend : firstB (encs a ++ encs (x :: b)) ((encs a).length + (enc x).length) = true := by
    have := firstB_head (a ++ [x]) b (fun y hy => h y (by simp; right; right; exact hy))
    rw [encs_append, encs_one, List.length_append, List.append_assoc] at this
    rw [encs_cons]; exact this
  have step : ∀ d k, k + d = (enc x).length → 1 ≤ k → behindV (encs a ++ encs (x :: b)) ((encs a).length + k) = (encs a).length + (enc x).length := by
    intro d
    induction d with
    | zero => intro k hk _; rw [show k = (enc x).length by omega]; exact beh_first _ _ hend
    | succ d ih =>
      intro k hk h1
      have hf : firstB (encs a ++ encs (x :: b)) ((encs a).length + k) = false := by rw [encs_cons]; exact firstB_in a x b hx k (by omega) (by omega)
      rw [beh_step _ _ (by omega) hf, Nat.add_assoc]
      exact ih (k + 1) (by omega) (by omega)
  exact step ((enc x).length - 1) 1 (by omega) (by omega)

theorem behindV_nil (a : List Int) : behindV (encs a ++ encs []) (min (encs a ++ encs []).length ((encs a).length + 1)) = (encs a).length := by
  rw [encs_nil, List.append_nil, Nat.min_eq_left (by omega)]
  refine beh_first _ _ ?_
  unfold firstB
  rw [if_neg (by omega)]

/-- a buffer of characters ahead of the place, and behind it -/
structure Ed (w : World) (b a c N : Nat) (A B : List Int) : Prop where
  buf : Buf w b a c N (encs A ++ encs B) (encs A).length
  pr : AllPrint (A ++ B)

theorem Ed.but {S : List Nat} {w w' : World} {b a c N : Nat} {A B : List Int} (h : Ed w b a c N A B) (hb : But S w w') (h1 : b ∉ S) (h2 : a ∉ S) (h3 : c ∉ S) : Ed w' b a c N A B := ⟨h.buf.but hb h1 h2 h3, h.pr⟩

/-- what a key does -/
def keyE (k : Int) (A B : List Int) : List Int × List Int :=
  if k = 2 then (A.dropLast, B)
  else if k = 3 then (A, B.tail)
  else if k = 4 then (A.dropLast, A.drop (A.length - 1) ++ B)
  else if k = 5 then (A ++ B.take 1, B.tail)
  else if k = 6 then ([], A ++ B)
  else if k = 7 then (A ++ B, [])
  else if k = 8 then ([], B)
  else if k = 9 then (A, [])
  else (A, B)

/-- did it change something? -/
def chg (A B : List Int) (R : List Int × List Int) : Bool := decide (R.1.length ≠ A.length) || decide (R.2.length ≠ B.length)

end Go.Proofs.YtbkpnffgihjikaaDoor.Edit

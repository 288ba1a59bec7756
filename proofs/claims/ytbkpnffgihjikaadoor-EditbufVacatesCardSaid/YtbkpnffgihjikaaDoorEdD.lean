/- Do, character by character, walked. -/
import Derived.Test.YtbkpnffgihjikaaDoorEdC
set_option linter.unusedVariables false
set_option linter.unusedSimpArgs false
namespace Go.Proofs.YtbkpnffgihjikaaDoor.Edit
open Go.RowKit Go.Lib Go.Shelf ChangeShapes Mem Utf UtfP

theorem snoc_of {A : List Int} (h : A ≠ []) : ∃ A' x, A = A' ++ [x] := ⟨_, _, (List.dropLast_concat_getLast h).symm⟩

theorem encs_pos {A : List Int} (h : A ≠ []) : 0 < (encs A).length := by
  cases A with
  | nil => exact absurd rfl h
  | cons x A =>
    have := (enc_length x).1
    rw [encs_cons, List.length_append]; omega

theorem both {p q : Prop} (hp : p) (hq : q) : p ↔ q := ⟨fun _ => hq, fun _ => hp⟩

theorem bool_eq {p p' n n' : Nat} {q : Bool} (h : (p' ≠ p ∨ n' ≠ n) ↔ q = true) : (decide (p' ≠ p) || decide (n' ≠ n)) = q := by
  rw [Bool.eq_iff_iff]
  simpa using h

section
variable {b a c N : Nat} {A B : List Int}

/-- The frame of each key: what its function leaves, as characters. -/
theorem of_fn (k cc : Int) (i F : Nat) (hf : Instr.findNow (.int .i64) (.int .i64 k) tbl.toList 0 = some (some (i, fnV F))) (hk0 : (k == 0) = false)
    (hcf : ∀ args W, (callFunc F args).run Tryd.prog W = .ok (.enter F args) W) (A' B' : List Int) (hR : keyE k A B = (A', B')) (hp : AllPrint (A' ++ B'))
    (HF : ∀ W, Buf W b a c N (encs A ++ encs B) (encs A).length → Calls Tryd.prog F #[.pointer (some ⟨b, 0, none⟩)] W fun e w' => e = .returned (.tuple #[]) ∧ Buf w' b a c N (encs A' ++ encs B') (encs A').length ∧ But [b, a, c] W w')
    (hc : ((encs A').length ≠ (encs A).length ∨ (encs A' ++ encs B').length ≠ (encs A ++ encs B).length) ↔ chg A B (A', B') = true) (w : World) (h : Ed w b a c N A B) :
    Calls Tryd.prog 34 #[.pointer (some ⟨b, 0, none⟩), .agg #[.int .i64 k, .int .i64 cc]] w fun e w' => e = .returned (.tuple #[.bool (chg A B (keyE k A B)), .int .i64 0]) ∧ Ed w' b a c N (keyE k A B).1 (keyE k A B).2 ∧ But [b, a, c] w w' := by
  rw [hR]
  refine (do_key k cc i F hf hk0 hcf _ _ HF w h.buf).mono fun e w' ⟨he, hb, hbt⟩ => ⟨?_, ⟨hb, hp⟩, hbt⟩
  rw [he, bool_eq hc]

theorem do_keys (k cc : Int) (hk : k ≠ 0) (w : World) (h : Ed w b a c N A B) :
    Calls Tryd.prog 34 #[.pointer (some ⟨b, 0, none⟩), .agg #[.int .i64 k, .int .i64 cc]] w fun e w' => e = .returned (.tuple #[.bool (chg A B (keyE k A B)), .int .i64 0]) ∧ Ed w' b a c N (keyE k A B).1 (keyE k A B).2 ∧ But [b, a, c] w w' := by
  have hfine := AllPrint.fine h.pr
  have h0 := firstB_zero A B hfine
  have hpr := h.pr
  by_cases k2 : k = 2
  · subst k2
    by_cases hA : A = []
    · subst hA
      refine of_fn 2 cc 0 76 rfl rfl Tryd.call76 [] B rfl hpr (fun W hW => (back_c W hW h0 0 rfl (by simp [encs_nil])).mono fun e w' ⟨he, hb, hbt⟩ => ⟨he, by simpa [encs_nil] using hb, hbt⟩) ?_ w h
      simp [chg, encs_nil]
    · obtain ⟨A', x, rfl⟩ := snoc_of hA
      have hq := aheadV_snoc A' x B (by simpa using hfine)
      have hx := (enc_length x).1
      refine of_fn 2 cc 0 76 rfl rfl Tryd.call76 A' B (by simp [keyE]) (fun y hy => hpr y (by simp at hy ⊢; rcases hy with hy | hy <;> simp [hy])) (fun W hW => (back_c W hW h0 _ hq (by rw [encs_append, List.length_append]; omega)).mono fun e w' ⟨he, hb, hbt⟩ => ⟨he, by rw [List.drop_left, encs_append, List.append_assoc, List.take_left] at hb; exact hb, hbt⟩) ?_ w h
      refine both ?_ (by simp [chg])
      simp only [encs_append, encs_one, encs_cons, encs_nil, List.length_append, List.length_nil]
      omega
  by_cases k3 : k = 3
  · subst k3
    cases B with
    | nil =>
      refine of_fn 3 cc 1 77 rfl rfl Tryd.call77 A [] rfl hpr (fun W hW => (del_c W hW _ (behindV_nil A) (Nat.le_refl _) (by simp [encs_nil])).mono fun e w' ⟨he, hb, hbt⟩ => ⟨he, by simpa [encs_nil] using hb, hbt⟩) ?_ w h
      simp [chg]
    | cons x B =>
      have hx := (enc_length x).1
      refine of_fn 3 cc 1 77 rfl rfl Tryd.call77 A B rfl (fun y hy => hpr y (by simp at hy ⊢; rcases hy with hy | hy <;> simp [hy])) (fun W hW => (del_c W hW _ (behindV_cons A x B hfine) (by omega) (by rw [encs_cons, List.length_append, List.length_append]; omega)).mono fun e w' ⟨he, hb, hbt⟩ => ⟨he, by rw [List.take_left, encs_cons, ← List.append_assoc, ← List.length_append, List.drop_left] at hb; exact hb, hbt⟩) ?_ w h
      refine both ?_ (by simp [chg])
      simp only [encs_append, encs_one, encs_cons, encs_nil, List.length_append, List.length_nil]
      omega
  by_cases k4 : k = 4
  · subst k4
    by_cases hA : A = []
    · subst hA
      refine of_fn 4 cc 2 78 rfl rfl Tryd.call78 [] B rfl hpr (fun W hW => (left_c W hW h0 (by simp [encs_nil, aheadV])).mono fun e w' ⟨he, hb, hbt⟩ => ⟨he, by simpa [encs_nil, aheadV] using hb, hbt⟩) ?_ w h
      simp [chg, encs_nil]
    · obtain ⟨A', x, rfl⟩ := snoc_of hA
      have hq := aheadV_snoc A' x B (by simpa using hfine)
      have hx := (enc_length x).1
      refine of_fn 4 cc 2 78 rfl rfl Tryd.call78 A' (x :: B) (by simp [keyE]) (fun y hy => hpr y (by simp at hy ⊢; rcases hy with hy | hy | hy <;> simp [hy])) (fun W hW => (left_c W hW h0 (by rw [hq, encs_append, List.length_append, List.length_append]; omega)).mono fun e w' ⟨he, hb, hbt⟩ => ⟨he, by rw [hq] at hb; rw [encs_append, encs_one, List.append_assoc] at hb; rw [encs_cons]; exact hb, hbt⟩) ?_ w h
      refine both ?_ (by simp [chg])
      simp only [encs_append, encs_one, encs_cons, encs_nil, List.length_append, List.length_nil]
      omega
  by_cases k5 : k = 5
  · subst k5
    cases B with
    | nil =>
      refine of_fn 5 cc 3 79 rfl rfl Tryd.call79 A [] (by simp [keyE]) hpr (fun W hW => (right_c W hW _ (behindV_nil A) (by simp [encs_nil]))) ?_ w h
      simp [chg]
    | cons x B =>
      have hx := (enc_length x).1
      refine of_fn 5 cc 3 79 rfl rfl Tryd.call79 (A ++ [x]) B (by simp [keyE]) (fun y hy => hpr y (by simp at hy ⊢; rcases hy with hy | hy | hy <;> simp [hy])) (fun W hW => (right_c W hW _ (behindV_cons A x B hfine) (by rw [encs_cons, List.length_append, List.length_append]; omega)).mono fun e w' ⟨he, hb, hbt⟩ => ⟨he, by rw [encs_append, encs_one, List.length_append, List.append_assoc]; rw [encs_cons] at hb; exact hb, hbt⟩) ?_ w h
      refine both ?_ (by simp [chg])
      simp only [encs_append, encs_one, encs_cons, encs_nil, List.length_append, List.length_nil]
      omega
  by_cases k6 : k = 6
  · subst k6
    refine of_fn 6 cc 4 80 rfl rfl Tryd.call80 [] (A ++ B) rfl hpr (fun W hW => (home_c W hW).mono fun e w' ⟨he, hb, hbt⟩ => ⟨he, by rw [encs_append, encs_nil, List.nil_append]; exact hb, hbt⟩) ?_ w h
    rw [encs_append, encs_nil]
    cases A with
    | nil => simp [chg, encs_nil]
    | cons y A =>
      have := encs_pos (A := y :: A) (by simp)
      refine both ?_ (by simp [chg])
      simp only [List.length_append, List.length_nil]
      omega
  by_cases k7 : k = 7
  · subst k7
    refine of_fn 7 cc 5 81 rfl rfl Tryd.call81 (A ++ B) [] rfl (by simpa using hpr) (fun W hW => (last_c W hW).mono fun e w' ⟨he, hb, hbt⟩ => ⟨he, by rw [encs_append, encs_nil, List.append_nil]; exact hb, hbt⟩) ?_ w h
    rw [encs_append, encs_nil]
    cases B with
    | nil => simp [chg, encs_nil]
    | cons y B =>
      have := encs_pos (A := y :: B) (by simp)
      refine both ?_ (by simp [chg])
      simp only [List.length_append, List.length_nil]
      omega
  by_cases k8 : k = 8
  · subst k8
    refine of_fn 8 cc 6 82 rfl rfl Tryd.call82 [] B rfl (fun y hy => hpr y (by simp at hy ⊢; simp [hy])) (fun W hW => (killStart_c W hW).mono fun e w' ⟨he, hb, hbt⟩ => ⟨he, by rw [List.drop_left] at hb; simpa [encs_nil] using hb, hbt⟩) ?_ w h
    cases A with
    | nil => simp [chg, encs_nil]
    | cons y A =>
      have := encs_pos (A := y :: A) (by simp)
      rw [encs_nil]
      refine both ?_ (by simp [chg])
      simp only [List.length_append, List.length_nil]
      omega
  by_cases k9 : k = 9
  · subst k9
    refine of_fn 9 cc 7 83 rfl rfl Tryd.call83 A [] rfl (fun y hy => hpr y (by simp at hy ⊢; simp [hy])) (fun W hW => (killEnd_c W hW).mono fun e w' ⟨he, hb, hbt⟩ => ⟨he, by rw [List.take_left] at hb; simpa [encs_nil] using hb, hbt⟩) ?_ w h
    cases B with
    | nil => simp [chg, encs_nil]
    | cons y B =>
      have := encs_pos (A := y :: B) (by simp)
      rw [encs_nil]
      refine both ?_ (by simp [chg])
      simp only [List.length_append, List.length_nil]
      omega
  · have hR : keyE k A B = (A, B) := by unfold keyE; rw [if_neg k2, if_neg k3, if_neg k4, if_neg k5, if_neg k6, if_neg k7, if_neg k8, if_neg k9]
    rw [hR]
    have hn : Instr.findNow (.int .i64) (.int .i64 k) tbl.toList 0 = some none := by
      have e : ∀ m : Int, k ≠ m → (k == m) = false := fun m hm => by simpa using hm
      simp [tbl, Instr.findNow, Instr.sameNow, e 2 k2, e 3 k3, e 4 k4, e 5 k5, e 6 k6, e 7 k7, e 8 k8, e 9 k9]
    refine (do_other k cc hn (by simpa using hk) w h.buf).mono fun e w' ⟨he, hb⟩ => ⟨?_, h.but (But.of_below (S := []) hb) (by simp) (by simp) (by simp), But.of_below hb⟩
    rw [he]
    simp [chg]
end

end Go.Proofs.YtbkpnffgihjikaaDoor.Edit

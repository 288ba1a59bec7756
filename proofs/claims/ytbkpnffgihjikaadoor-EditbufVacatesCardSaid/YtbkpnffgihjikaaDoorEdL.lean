/- A buffer by its characters: where it is, how many, its text, an insertion of any bytes. -/
import Derived.Test.YtbkpnffgihjikaaDoorEdA
set_option linter.unusedVariables false
namespace Go.Proofs.YtbkpnffgihjikaaDoor.Edit
open Go.RowKit Go.Lib Go.Shelf ChangeShapes Mem Utf UtfP

theorem encs_len (cs : List Int) : cs.length ≤ (encs cs).length := by
  induction cs with
  | nil => simp
  | cons x cs ih =>
    have := (enc_length x).1
    rw [encs_cons, List.length_append, List.length_cons]; omega

/-- the characters of a text that is fine -/
noncomputable def charsOf (l : List UInt8) : List Int := open Classical in if h : ∃ cs, l = encs cs ∧ AllPrint cs then h.choose else []
theorem charsOf_spec {l : List UInt8} (hf : fineT l = true) : l = encs (charsOf l) ∧ AllPrint (charsOf l) := by
  have h : ∃ cs, l = encs cs ∧ AllPrint cs := encs_of_fine _ l (Nat.le_refl _) hf
  unfold charsOf
  rw [dif_pos h]
  exact h.choose_spec

section
variable {b a c N : Nat} {A B : List Int}

theorem at_e (w : World) (h : Ed w b a c N A B) : Calls Tryd.prog 36 #[.pointer (some ⟨b, 0, none⟩)] w fun e w' => e = .returned (.int .i64 (A.length : Int)) ∧ w' = w := by
  have := atB w h.buf
  rw [countB_encs _ A B rfl h.pr.fine] at this
  exact this

theorem count_e (w : World) (h : Ed w b a c N A B) : Calls Tryd.prog 33 #[.pointer (some ⟨b, 0, none⟩)] w fun e w' => e = .returned (.int .i64 ((A.length + B.length : Nat) : Int)) ∧ w' = w := by
  have := count_c w h.buf
  have e : countB (encs A ++ encs B) (encs A ++ encs B).length = A.length + B.length := by
    have h2 := countB_encs _ (A ++ B) [] rfl (by rw [List.append_nil]; exact h.pr.fine)
    rw [encs_nil, List.append_nil, encs_append, (List.length_append : (A ++ B).length = _)] at h2
    exact h2
  rw [e] at this
  exact this

theorem len_e (w : World) (h : Ed w b a c N A B) : Calls Tryd.prog 27 #[.pointer (some ⟨b, 0, none⟩)] w fun e w' => e = .returned (.int .i64 (((encs A ++ encs B).length : Nat) : Int)) ∧ w' = w := lenB w h.buf

theorem text_e (w : World) (h : Ed w b a c N A B) : Calls Tryd.prog 35 #[.pointer (some ⟨b, 0, none⟩)] w fun e w' => e = .returned (.string (strOf (encs A ++ encs B))) ∧ Below w.heap.size w w' := text_c w h.buf

theorem ins_e (Q : Option Addr) (l : List UInt8) (cap : Nat) (w : World) (hT : Tabs w) (h : Ed w b a c N A B) (hA : BytesAt w Q l) (hcap : l.length ≤ cap) (hm : l.length ≤ 140737488355328) (hc : ∀ ad, Q = some ad → l ≠ [] → ad.block ≠ c) :
    Calls Tryd.prog 32 #[.pointer (some ⟨b, 0, none⟩), .slice Q l.length cap] w fun e w' => ∃ er A', e = .returned (.int .i64 er) ∧ Ed w' b a c N A' B ∧ But [b, a, c] w w' ∧
      ((fineT l = false ∧ er = 8 ∧ A' = A) ∨ (fineT l = true ∧ N < (encs A ++ encs B).length + l.length ∧ er = 4 ∧ A' = A) ∨ (fineT l = true ∧ (encs A ++ encs B).length + l.length ≤ N ∧ er = 0 ∧ A' = A ++ charsOf l)) := by
  cases hf : fineT l
  · exact (insB_bad (b := b) Q l cap w hT hA hcap hm hf).mono fun e w' ⟨he, hb⟩ => ⟨8, A, he, h.but (But.of_below (S := []) hb) (by simp) (by simp) (by simp), But.of_below hb, Or.inl ⟨rfl, rfl, rfl⟩⟩
  · by_cases hl : (encs A ++ encs B).length + l.length ≤ N
    · obtain ⟨hcs, hpr⟩ := charsOf_spec hf
      refine (insB_ok Q l cap w hT h.buf hA hcap hm hf hl hc).mono fun e w' ⟨he, hb, hbt⟩ => ⟨0, A ++ charsOf l, he, ⟨?_, ?_⟩, hbt, Or.inr (Or.inr ⟨rfl, hl, rfl, rfl⟩)⟩
      · rw [List.take_left, List.drop_left] at hb
        rw [encs_append, List.length_append, List.append_assoc, ← hcs]
        exact hb
      · intro y hy
        simp at hy
        rcases hy with hy | hy | hy
        · exact h.pr y (by simp [hy])
        · exact hpr y hy
        · exact h.pr y (by simp [hy])
    · exact (insB_full Q l cap w hT h.buf hA hcap hm hf (by omega)).mono fun e w' ⟨he, hb⟩ => ⟨4, A, he, h.but (But.of_below (S := []) hb) (by simp) (by simp) (by simp), But.of_below hb, Or.inr (Or.inl ⟨rfl, by omega, rfl, rfl⟩)⟩
end

end Go.Proofs.YtbkpnffgihjikaaDoor.Edit

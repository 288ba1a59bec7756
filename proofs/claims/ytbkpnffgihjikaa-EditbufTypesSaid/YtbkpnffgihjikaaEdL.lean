/- A buffer by its characters: where it is, how many, its text, an insertion of any bytes. -/
import Derived.Test.YtbkpnffgihjikaaEdA
set_option linter.unusedVariables false
namespace Go.Proofs.Ytbkpnffgihjikaa.Edit
open Go.RowKit Go.Lib Go.Shelf ChangeShapes Mem Utf UtfP

theorem encs_len (cs : List Int) : cs.length ≤ (encs cs).length := by
  induction cs with
  | nil => simp
  | cons x cs ih =>
    have := (enc_length x).1
    rw [encs_cons, List.length_append, List.length_cons]; omega

/-- the characters of a text that is fine -/
noncomputable def charsOf (l : List UInt8) : List Int := open Classical in if h : ∃ cs, l = encs cs ∧ AllPrint cs then h.choose else []
theorem charsOf_spec {l : List UInt8} (hf : fineT l = true) : l = encs (charsOf l) ∧ AllPrint (charsOf l) := by
  have h : ∃ cs, l = encs cs ∧ AllPrint cs := encs_of_fine _ l (Nat.le_refl _) hf
  unfold charsOf
  rw [dif_pos h]
  exact h.choose_spec

section
variable {b a c N : Nat} {A B : List Int}

theorem at_e (w : World) (h : Ed w b a c N A B) : Calls Try.prog 10 #[.pointer (some ⟨b, 0, none⟩)] w fun e w' => e = .returned (.int .i64 (A.length : Int)) ∧ w' = w := by
  have := atB w h.buf
  rw [countB_encs _ A B rfl h.pr.fine] at this
  exact this

theorem count_e (w : World) (h : Ed w b a c N A B) : Calls Try.prog 14 #[.pointer (some ⟨b, 0, none⟩)] w fun e w' => e = .returned (.int .i64 ((A.length + B.length : Nat) : Int)) ∧ w' = w := by
  have := count_c w h.buf
  have e : countB (encs A ++ encs B) (encs A ++ encs B).length = A.length + B.length := by
    have h2 := countB_encs _ (A ++ B) [] rfl (by rw [List.append_nil]; exact h.pr.fine)
    rw [encs_nil, List.append_nil, encs_append, (List.length_append : (A ++ B).length = _)] at h2
    exact h2
  rw [e] at this
  exact this

theorem len_e (w : World) (h : Ed w b a c N A B) : Calls Try.prog 11 #[.pointer (some ⟨b, 0, none⟩)] w fun e w' => e = .returned (.int .i64 (((encs A ++ encs B).length : Nat) : Int)) ∧ w' = w := lenB w h.buf

theorem text_e (w : World) (h : Ed w b a c N A B) : Calls Try.prog 9 #[.pointer (some ⟨b, 0, none⟩)] w fun e w' => e = .returned (.string (strOf (encs A ++ encs B))) ∧ Below w.heap.size w w' := text_c w h.buf

end

end Go.Proofs.Ytbkpnffgihjikaa.Edit

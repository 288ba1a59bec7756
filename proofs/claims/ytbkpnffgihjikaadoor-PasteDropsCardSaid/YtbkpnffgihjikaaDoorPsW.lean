/- Numbers of a law's input, one by one; what is added of them. -/
import Derived.Test.YtbkpnffgihjikaaDoorGP
import Derived.Test.YtbkpnffgihjikaaDoorGC
import Derived.LoopN
set_option linter.unusedVariables false
set_option linter.unusedSimpArgs false
namespace Go.Proofs.YtbkpnffgihjikaaDoor.Edit
open Go.RowKit Go.Lib Go.Shelf ChangeShapes Mem Utf UtfP Law Def

def intC (z : Int) : List Value := [Value.int .i64 z]
theorem num_cell {w : World} {g off : Nat} {zs : List Int} (h : ∀ j r, zs[j]? = some r → ∀ i v, ((fun z => [Value.int .i64 z]) r)[i]? = some v → w.cell? ⟨g, off + j * 1 + i, none⟩ = some v) {j : Nat} {z : Int} (hz : zs[j]? = some z) : w.cell? ⟨g, off + j, none⟩ = some (.int .i64 z) := by
  have := h j z hz 0 _ rfl
  rwa [Nat.mul_one, Nat.add_zero] at this

/-- what the answer 0 says -/
theorem addE_zero {N : Nat} {x : Int} {L : List Int} {ov : Bool} (h : (addE N x L true ov).1 = 0) : printC x = true ∧ ov = false ∧ (encs L).length + (enc x).length ≤ N ∧ addE N x L true ov = (0, L ++ [x], false) := by
  unfold addE at h ⊢
  rw [if_pos rfl] at h ⊢
  cases hp : printC x
  · rw [hp] at h; simp at h
  · rw [hp, if_pos rfl] at h
    rw [if_pos rfl]
    cases ov
    · rw [if_neg (by simp)] at h ⊢
      by_cases hl : (encs L).length + (enc x).length ≤ N
      · rw [if_pos hl]; exact ⟨rfl, rfl, hl, rfl⟩
      · rw [if_neg hl] at h; simp at h
    · rw [if_pos rfl] at h; simp at h
theorem addE_fail {N : Nat} {x : Int} {L : List Int} {ov : Bool} (h : (addE N x L true ov).1 ≠ 0) : (addE N x L true ov).2.1 = L := by
  unfold addE at h ⊢
  rw [if_pos rfl] at h ⊢
  cases hp : printC x
  · rfl
  · rw [hp, if_pos rfl] at h
    rw [if_pos rfl]
    cases ov
    · rw [if_neg (by simp)] at h ⊢
      by_cases hl : (encs L).length + (enc x).length ≤ N
      · rw [if_pos hl] at h; simp at h
      · rw [if_neg hl]
    · rfl

theorem refPut_s (x : Int) (w : World) (h : printC x = true) : Calls Tryd.prog 28 #[.int .i64 x] w fun e w' => ∃ A' cap', e = .returned (.slice A' (enc x).length cap') ∧ BytesAt w' A' (enc x) ∧ Below w.heap.size w w' :=
  (refPut x w (printC_fine h)).mono fun e w' ⟨v, he, hown, hb⟩ => by obtain ⟨A', cap, rfl, _, hba, _⟩ := hown.form; exact ⟨A', cap, he, hba, hb⟩

end Go.Proofs.YtbkpnffgihjikaaDoor.Edit

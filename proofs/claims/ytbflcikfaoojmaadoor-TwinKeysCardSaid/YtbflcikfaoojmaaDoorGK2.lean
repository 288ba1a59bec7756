/- Texts joined: Kd13; Kd14; Kd15. -/
import Derived.Test.YtbflcikfaoojmaaDoorHOwnK
import Derived.WalkMore
/- Bytes fed: Feed, walked. -/
set_option linter.unusedVariables false
set_option linter.unusedSimpArgs false
namespace Go.Proofs.YtbflcikfaoojmaaDoor.Edit
open Go.RowKit Go.Lib Go.Shelf ChangeShapes Mem Utf UtfP

section
variable {w0 : World} {d a c N : Nat} {t t' : List UInt8} {ps ps' : Bool}
theorem bytes_one (w : World) (u : UInt8) (t : TypeId) : BytesAt (w.alloc (.cells #[.int .u8 (u.toNat : Int)] t)) (some ⟨w.heap.size, 0, none⟩) [u] := bytes_new w [u] t _ rfl

theorem src_of {w : World} {A : Option Addr} {l : List UInt8} (h : BytesAt w A l) : Src w A l := by
  intro h0
  obtain ⟨b, off, rfl, hlt, hc⟩ := h (by intro e; rw [e] at h0; simp at h0)
  refine ⟨_, rfl, fun j v hj => ?_⟩
  have hjl : j < l.length := by rw [← cellsB_length]; exact (List.getElem?_eq_some_iff.1 hj).1
  rw [WideShapes.add_plain, hc j hjl]
  rw [cellsB_get l j hjl] at hj
  exact hj

/-- how many bytes an arena holds -/
def lenAt (a : Nat) (w : World) : Nat := (RowKit.intOf ((w.cell? ⟨a, 1, none⟩).getD undef)).toNat
end

end Go.Proofs.YtbflcikfaoojmaaDoor.Edit

/- The laws' helpers: whispererref08.Same, begin, alive. -/
set_option linter.unusedVariables false
set_option linter.unusedSimpArgs false
namespace Go.Proofs.YtbflcikfaoojmaaDoor.Edit
open Go.RowKit Go.Lib Go.Shelf ChangeShapes Mem Utf UtfP

theorem feed1 : feed [27, 91] [] false = ([], [27, 91], false) := by kernel_rfl
theorem feed2 : feed [68, 226, 130] [27, 91] false = ([(4, 0)], [226, 130], false) := by kernel_rfl
theorem feed3 : feed [65] [226, 130] false = ([(0, 65533), (0, 65)], [], false) := by kernel_rfl

theorem lit_bytes (w : World) (l : List UInt8) (cs : Array Value) (hcs : cs.toList = cellsU l) : BytesAt (w.alloc (.cells cs 5)) (some ⟨w.heap.size, 0, none⟩) l := bytes_new w l _ cs hcs

section
variable {w0 : World} {d a c N : Nat} {t : List UInt8} {ps : Bool}
end

end Go.Proofs.YtbflcikfaoojmaaDoor.Edit

/- Two decoders side by side; the calls on them. -/
set_option linter.unusedVariables false
set_option linter.unusedSimpArgs false
namespace Go.Proofs.YtbflcikfaoojmaaDoor.Edit
open Go.RowKit Go.Lib Go.Shelf ChangeShapes Mem Utf UtfP

theorem drain_count (t : List UInt8) (ps : Bool) : (drain t ps).1.length + (drain t ps).2.1.length ≤ t.length := by
  have hh : ∀ (n : Nat) (t : List UInt8) (ps : Bool), t.length ≤ n → (drain t ps).1.length + (drain t ps).2.1.length ≤ t.length := by
    intro n
    induction n with
    | zero =>
      intro t ps h
      have : t = [] := List.eq_nil_of_length_eq_zero (by omega)
      subst this
      exact Nat.le_refl _
    | succ n ih =>
      intro t ps h
      cases hx : nxE t ps with
      | none => rw [drain_none hx]; simp
      | some r =>
        obtain ⟨k, m, ps'⟩ := r
        obtain ⟨h1, h2⟩ := nxE_some hx
        rw [drain_some hx]
        have := ih (t.drop m) ps' (by rw [List.length_drop]; omega)
        rw [List.length_drop] at this
        simp only [List.length_cons]
        omega
  exact hh t.length t ps (Nat.le_refl _)
theorem feed_count : ∀ (l t : List UInt8) (ps : Bool), (feed l t ps).1.length + (feed l t ps).2.1.length ≤ t.length + l.length := by
  intro l
  induction l with
  | nil => intro t ps; simp [feed]
  | cons c r ih =>
    intro t ps
    rw [feed_cons]
    have h1 := ih (drain (t ++ [c]) ps).2.1 (drain (t ++ [c]) ps).2.2
    have h2 := drain_count (t ++ [c]) ps
    rw [List.length_append, List.length_singleton] at h2
    simp only [List.length_append, List.length_cons]
    omega

/-- what is left, as keys -/
def lastKs (t : List UInt8) : List (Int × Int) := if t = [] then [] else [lastK (bt t 0 : Int)]

section
variable {w0 : World} {d a c N : Nat} {t : List UInt8} {ps : Bool}
end

section
variable {w0 w w' : World} {d a c e b g : Nat} {t t' u u' : List UInt8} {ps ps' qs qs' : Bool}
end

end Go.Proofs.YtbflcikfaoojmaaDoor.Edit

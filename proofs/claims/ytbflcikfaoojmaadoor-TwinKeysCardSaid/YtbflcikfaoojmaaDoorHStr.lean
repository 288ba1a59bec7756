/- string(b): a slice of bytes as a string. -/
import Derived.Test.YtbflcikfaoojmaaDoorHOwn
import Derived.Laws.BytesArg
set_option linter.unusedVariables false
namespace Go.Proofs.YtbflcikfaoojmaaDoor.Utf
open Go.RowKit Go.Lib Go.Shelf UtfP

theorem bytesAt_drew (w : World) (A : Option Addr) (l : List UInt8) : BytesAt w.drew A l = BytesAt w A l := rfl
theorem bytesAt_drewN (w : World) (n : Nat) (A : Option Addr) (l : List UInt8) : BytesAt (w.drewN n) A l = BytesAt w A l := rfl

def strOf (l : List UInt8) : ByteArray := ⟨l.toArray⟩
theorem strOf_inj {l m : List UInt8} (h : strOf l = strOf m) : l = m := by
  have := congrArg (fun s : ByteArray => s.data.toList) h
  simpa [strOf] using this
theorem strOf_toList (l : List UInt8) : (strOf l).toList = l := by
  rw [ByteArray.toList_eq]
  rfl
theorem strOf_size (l : List UInt8) : (strOf l).size = l.length := rfl

theorem OwnB.form' {w : World} {B : Nat} {v : Value} {l : List UInt8} (h : OwnB w B v l) : ∃ A n cap, v = .slice A n cap ∧ l.length = n ∧ n ≤ cap ∧ BytesAt w A l := by
  obtain ⟨A, cap, hv, hc, hb, _⟩ := h.form
  exact ⟨A, _, cap, hv, rfl, hc, hb⟩

theorem lit_fffd : (ByteArray.mk #[239, 191, 189]) = strOf [239, 191, 189] := rfl
theorem strOf_append (a b : List UInt8) : strOf a ++ strOf b = strOf (a ++ b) := by
  apply ByteArray.ext
  apply Array.ext'
  simp [strOf]

theorem conv_str {w : World} {A : Option Addr} {l : List UInt8} {cap : Nat} (h : BytesAt w A l) :
    (convert 47 9 (.slice A l.length cap)).run Tryd.prog w = .ok (.string (strOf l)) w := by
  by_cases hne : l = []
  · subst hne
    cases A with
    | none => exact run_convert_bytes_nil w 47 5 Tryd.underlying47 Tryd.underlying5 _ _ _ Tryd.underlying9
    | some a =>
      rw [run_convert_bytes_string w 47 9 5 _ _ cap Tryd.underlying47 Tryd.underlying5 Tryd.underlying9]
      have := run_bytesToString (P := Tryd.prog) w a 0 cap [] (by simp [loadCells, loadCellsFrom])
      exact this
  · obtain ⟨b, off, rfl, _, hc⟩ := h hne
    have hx : ∀ i, i < l.length → w.cell? ⟨b, off + i, none⟩ = some (.int .u8 ((l.map fun c => (c.toNat : Int)).getD i 0)) := by
      intro i hi
      have e : (l.map fun c => (c.toNat : Int)).getD i 0 = (bt l i : Int) := by
        unfold bt
        rw [List.getD_eq_getElem?_getD, List.getD_eq_getElem?_getD, List.getElem?_map, List.getElem?_eq_getElem hi]
        rfl
      rw [e]
      exact hc i hi
    have := run_convert_bytes_arg w 47 5 Tryd.underlying47 Tryd.underlying5 b off l.length cap (l.map fun c => (c.toNat : Int)) (by simp) hx 9 Tryd.underlying9
    rw [this]
    have h2 : (l.map fun c => (c.toNat : Int)).map (fun n => UInt8.ofNat n.toNat) = l := by
      rw [List.map_map]
      conv => rhs; rw [← List.map_id l]
      apply List.map_congr_left
      intro c _
      simp
    have e : strOfNums (l.map fun c => (c.toNat : Int)) = strOf l := congrArg (fun x : List UInt8 => (⟨x.toArray⟩ : ByteArray)) h2
    rw [e]

end Go.Proofs.YtbflcikfaoojmaaDoor.Utf

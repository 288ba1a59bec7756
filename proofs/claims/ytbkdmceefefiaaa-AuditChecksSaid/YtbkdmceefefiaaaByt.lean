/- Bytes in memory and as a string (for a seat without the tables of unicode/utf8). -/
import Derived.Test.YtbkdmceefefiaaaRows
import Derived.Test.YtbkdmceefefiaaaObj
import Derived.Laws.BytesArg
set_option linter.unusedVariables false
namespace Go.Proofs.Ytbkdmceefefiaaa.Byt
open Go.RowKit Go.Lib Mem

def bt (l : List UInt8) (i : Nat) : Nat := (l.getD i 0).toNat
theorem bt_lt (l : List UInt8) (i : Nat) : bt l i < 256 := (l.getD i 0).toNat_lt
/-- The slice value at address A, of a list's length, holds its bytes. -/
def BytesAt (w : World) (A : Option Addr) (l : List UInt8) : Prop :=
  l ≠ [] → ∃ b off, A = some ⟨b, off, none⟩ ∧ b < w.heap.size ∧ ∀ j, j < l.length → w.cell? ⟨b, off + j, none⟩ = some (.int .u8 (bt l j : Int))

theorem BytesAt.below {w w' : World} {A : Option Addr} {l : List UInt8} (h : BytesAt w A l) (hb : Below w.heap.size w w') : BytesAt w' A l := by
  intro hne
  obtain ⟨b, off, rfl, hlt, hc⟩ := h hne
  refine ⟨b, off, rfl, by have := hb.size; omega, fun j hj => ?_⟩
  rw [hb.cell (p := ⟨b, off + j, none⟩) hlt]
  exact hc j hj

theorem bytesAt_drew (w : World) (A : Option Addr) (l : List UInt8) : BytesAt w.drew A l = BytesAt w A l := rfl
theorem bytesAt_drewN (w : World) (n : Nat) (A : Option Addr) (l : List UInt8) : BytesAt (w.drewN n) A l = BytesAt w A l := rfl

def strOf (l : List UInt8) : ByteArray := ⟨l.toArray⟩
theorem strOf_inj {l m : List UInt8} (h : strOf l = strOf m) : l = m := by
  have := congrArg (fun s : ByteArray => s.data.toList) h
  simpa [strOf] using this
theorem strOf_toList (l : List UInt8) : (strOf l).toList = l := by
  rw [ByteArray.toList_eq]
  rfl
theorem strOf_size (l : List UInt8) : (strOf l).size = l.length := rfl

theorem conv_str {w : World} {A : Option Addr} {l : List UInt8} {cap : Nat} (h : BytesAt w A l) :
    (convert 42 9 (.slice A l.length cap)).run Try.prog w = .ok (.string (strOf l)) w := by
  by_cases hne : l = []
  · subst hne
    cases A with
    | none => exact run_convert_bytes_nil w 42 5 Try.underlying42 Try.underlying5 _ _ _ Try.underlying9
    | some a =>
      rw [run_convert_bytes_string w 42 9 5 _ _ cap Try.underlying42 Try.underlying5 Try.underlying9]
      have := run_bytesToString (P := Try.prog) w a 0 cap [] (by simp [loadCells, loadCellsFrom])
      exact this
  · obtain ⟨b, off, rfl, _, hc⟩ := h hne
    have hx : ∀ i, i < l.length → w.cell? ⟨b, off + i, none⟩ = some (.int .u8 ((l.map fun c => (c.toNat : Int)).getD i 0)) := by
      intro i hi
      have e : (l.map fun c => (c.toNat : Int)).getD i 0 = (bt l i : Int) := by
        unfold bt
        rw [List.getD_eq_getElem?_getD, List.getD_eq_getElem?_getD, List.getElem?_map, List.getElem?_eq_getElem hi]
        rfl
      rw [e]
      exact hc i hi
    have := run_convert_bytes_arg w 42 5 Try.underlying42 Try.underlying5 b off l.length cap (l.map fun c => (c.toNat : Int)) (by simp) hx 9 Try.underlying9
    rw [this]
    have h2 : (l.map fun c => (c.toNat : Int)).map (fun n => UInt8.ofNat n.toNat) = l := by
      rw [List.map_map]
      conv => rhs; rw [← List.map_id l]
      apply List.map_congr_left
      intro c _
      simp
    have e : strOfNums (l.map fun c => (c.toNat : Int)) = strOf l := congrArg (fun x : List UInt8 => (⟨x.toArray⟩ : ByteArray)) h2
    rw [e]

end Go.Proofs.Ytbkdmceefefiaaa.Byt

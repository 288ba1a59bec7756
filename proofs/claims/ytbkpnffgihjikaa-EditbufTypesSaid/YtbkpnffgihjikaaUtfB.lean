/- Bytes in memory, as a slice reads them; the library's decoder, by the shelf's contract. -/
import Derived.Test.YtbkpnffgihjikaaRows
import Derived.Test.YtbkpnffgihjikaaUtfT
import Derived.Shelf.Spec.DecodeRune
import Derived.Lib.LaidU8T
import Derived.WalkKit
import Derived.WalkSpells
import Derived.WalkLawsBesides
import Derived.Lib.Hide
import Derived.Deep.QuietTactic
import Derived.BigQuiet
set_option linter.unusedVariables false
namespace Go.Proofs.Ytbkpnffgihjikaa.Utf
open Go.RowKit Go.Lib Go.Shelf UtfP

theorem below_drewN {B : Nat} {a w : World} (h : Below B a w) (n : Nat) : Below B a (w.drewN n) := ⟨h.os, h.tape, h.output, h.size, h.block⟩

theorem quiet_left {P : Program} {f : FuncId} {args : Array Value} {w : World} {n : Nat} {v : Value}
    (h : Calls P f args (w.drewN n) fun e w' => e = .returned v ∧ w.drewN n = w') : Calls P f args (w.drewN n) fun e w'' => e = .returned v ∧ ∃ m, w'' = w.drewN m :=
  h.mono fun _ _ ⟨he, hm⟩ => ⟨he, n, hm.symm⟩

def dec (l : List UInt8) : Nat × Nat := decodeN l.length (bt l 0) (bt l 1) (bt l 2) (bt l 3)

/-- The slice value at address A, of a list's length, holds its bytes. -/
def BytesAt (w : World) (A : Option Addr) (l : List UInt8) : Prop :=
  l ≠ [] → ∃ b off, A = some ⟨b, off, none⟩ ∧ b < w.heap.size ∧ ∀ j, j < l.length → w.cell? ⟨b, off + j, none⟩ = some (.int .u8 (bt l j : Int))

theorem get!_mk (l : List UInt8) (j : Nat) : ((⟨l.toArray⟩ : ByteArray).get! j).toNat = bt l j := by
  show (l.toArray[j]!).toNat = (l.getD j 0).toNat
  rw [List.getElem!_toArray, List.getElem!_eq_getElem?_getD, List.getD_eq_getElem?_getD]; rfl

end Go.Proofs.Ytbkpnffgihjikaa.Utf

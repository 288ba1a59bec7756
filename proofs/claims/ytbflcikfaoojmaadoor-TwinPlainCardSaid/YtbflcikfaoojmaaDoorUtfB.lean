/- Bytes in memory, as a slice reads them; the library's decoder, by the shelf's contract. -/
import Derived.Test.YtbflcikfaoojmaaDoorRows
import Derived.Test.YtbflcikfaoojmaaDoorUtfT
import Derived.Shelf.Spec.DecodeRune
import Derived.Lib.LaidU8T
import Derived.WalkKit
import Derived.WalkSpells
import Derived.WalkLawsBesides
import Derived.Lib.Hide
import Derived.Deep.QuietTactic
import Derived.BigQuiet
set_option linter.unusedVariables false
namespace Go.Proofs.YtbflcikfaoojmaaDoor.Utf
open Go.RowKit Go.Lib Go.Shelf UtfP

theorem below_drewN {B : Nat} {a w : World} (h : Below B a w) (n : Nat) : Below B a (w.drewN n) := ⟨h.os, h.tape, h.output, h.size, h.block⟩

theorem quiet_left {P : Program} {f : FuncId} {args : Array Value} {w : World} {n : Nat} {v : Value}
    (h : Calls P f args (w.drewN n) fun e w' => e = .returned v ∧ w.drewN n = w') : Calls P f args (w.drewN n) fun e w'' => e = .returned v ∧ ∃ m, w'' = w.drewN m :=
  h.mono fun _ _ ⟨he, hm⟩ => ⟨he, n, hm.symm⟩

def dec (l : List UInt8) : Nat × Nat := decodeN l.length (bt l 0) (bt l 1) (bt l 2) (bt l 3)

/-- The slice value at address A, of a list's length, holds its bytes. -/
def BytesAt (w : World) (A : Option Addr) (l : List UInt8) : Prop :=
  l ≠ [] → ∃ b off, A = some ⟨b, off, none⟩ ∧ b < w.heap.size ∧ ∀ j, j < l.length → w.cell? ⟨b, off + j, none⟩ = some (.int .u8 (bt l j : Int))

theorem get!_mk (l : List UInt8) (j : Nat) : ((⟨l.toArray⟩ : ByteArray).get! j).toNat = bt l j := by
  show (l.toArray[j]!).toNat = (l.getD j 0).toNat
  rw [List.getElem!_toArray, List.getElem!_eq_getElem?_getD, List.getD_eq_getElem?_getD]; rfl

def rho : Ren := ⟨fun | 32 => 43 | 49 => 56 | _ => 0,
  fun | 0 => 0 | 3 => 3 | 4 => 4 | 5 => 5 | 21 => 21 | 25 => 105 | 30 => 47 | 33 => 83 | 66 => 106 | 68 => 108 | 69 => 109 | _ => 0,
  fun | 2 => 1 | 3 => 2 | _ => 0⟩
theorem lays : Lays7.n32 Tryd.prog rho where
  mixed := by kernel_rfl
  f32 := by kernel_rfl
  f49 := by kernel_rfl
  t0 := by kernel_rfl
  a0 := fun _ => by kernel_rfl
  z0 := fun _ => by kernel_rfl
  v0 := fun _ => by kernel_rfl
  i0 := by kernel_rfl
  t3 := by kernel_rfl
  a3 := fun _ => by kernel_rfl
  z3 := fun _ => by kernel_rfl
  v3 := fun _ => by kernel_rfl
  i3 := by kernel_rfl
  t4 := by kernel_rfl
  a4 := fun _ => by kernel_rfl
  z4 := fun _ => by kernel_rfl
  v4 := fun _ => by kernel_rfl
  i4 := by kernel_rfl
  t5 := by kernel_rfl
  a5 := fun _ => by kernel_rfl
  z5 := fun _ => by kernel_rfl
  v5 := fun _ => by kernel_rfl
  i5 := by kernel_rfl
  t21 := by kernel_rfl
  a21 := fun _ => by kernel_rfl
  z21 := fun _ => by kernel_rfl
  v21 := fun _ => by kernel_rfl
  i21 := by kernel_rfl
  t25 := by kernel_rfl
  a25 := fun _ => by kernel_rfl
  z25 := fun _ => by kernel_rfl
  v25 := fun _ => by kernel_rfl
  i25 := by kernel_rfl
  t30 := by kernel_rfl
  a30 := fun _ => by kernel_rfl
  z30 := fun _ => by kernel_rfl
  v30 := fun _ => by kernel_rfl
  i30 := by kernel_rfl
  t33 := by kernel_rfl
  a33 := fun _ => by kernel_rfl
  z33 := fun _ => by kernel_rfl
  v33 := fun _ => by kernel_rfl
  i33 := by kernel_rfl
  t66 := by kernel_rfl
  a66 := fun _ => by kernel_rfl
  z66 := fun _ => by kernel_rfl
  t68 := by kernel_rfl
  a68 := fun _ => by kernel_rfl
  z68 := fun _ => by kernel_rfl
  v68 := fun _ => by kernel_rfl
  i68 := by kernel_rfl
  t69 := by kernel_rfl
  a69 := fun _ => by kernel_rfl
  z69 := fun _ => by kernel_rfl
  v69 := fun _ => by kernel_rfl
  i69 := by kernel_rfl
  g2 := by kernel_rfl
  g3 := by kernel_rfl

def Tabs (w : World) : Prop := Lib.Utf8Tabs 1 2 w

theorem decodeRune (l : List UInt8) (A : Option Addr) (cap : Nat) (w : World) (hT : Tabs w) (hA : BytesAt w A l) (hne : l ≠ []) :
    Calls Tryd.prog 43 #[.slice A l.length cap] w fun e w' => e = .returned (.tuple #[.int .i32 ((dec l).1 : Int), .int .i64 ((dec l).2 : Int)]) ∧ Below w.heap.size w w' := by
  obtain ⟨b, off, rfl, _, hc⟩ := hA hne
  have h := Any7.utf8_DecodeRune (P := Tryd.prog) (ρ := rho) lays ⟨l.toArray⟩ b off cap w hT (fun j hj => by rw [get!_mk]; exact hc j hj)
  have hs : (⟨l.toArray⟩ : ByteArray).size = l.length := rfl
  have hd : Lib.decodeGo ⟨l.toArray⟩ = dec l := by
    unfold Lib.decodeGo
    rw [if_neg (by rw [hs]; intro h0; exact hne (List.eq_nil_of_length_eq_zero h0)), Lib.decode_at]
    simp only [get!_mk, hs]; rfl
  rw [hd, hs] at h
  exact h

end Go.Proofs.YtbflcikfaoojmaaDoor.Utf

/- An arena, walked: New, Insert, Len, Copy, Wipe, Cell, Zero. -/
import Derived.Test.YtbflcikfaoojmaaDoorRows
import Derived.Test.YtbflcikfaoojmaaDoorArP
import Derived.Deep.RegionLaw
import Derived.Laws.MakeOwn
import Derived.StillTailTactics
import Derived.IntWalk
import Derived.Deep.RegionHeldLaw
set_option linter.unusedVariables false
namespace Go.Proofs.YtbflcikfaoojmaaDoor.Mem
open Go.RowKit Go.Lib ChangeShapes

theorem still_tail {P : Program} {id : Nat} {Q : Exit → Act → World → Prop} {a : Act} {w : World} {l : List Oper} (n : Nat) (hm : P.follows .mixedOrders = true) (hB : Region.lexTailB .any l.toArray n = true)
    (h : wpStill P l.toArray w.drew (fun a' => wpList P l.toArray Q (l.drop n) a' w.drew) (l.take n) a) : (Code.region id l.toArray true).wp P Q a w := wp_region_still_tail n hm hB h

theorem made_zero (n : Nat) : madeCells #[.int .u8 0] n = (cellsB (List.replicate n 0)).toArray := by
  unfold madeCells
  rw [← cellsB_zero]
  apply Array.ext
  · simp
  · intro i h1 h2
    simp [Nat.mod_one]

theorem make_bytes (w : World) (n : Nat) (h : n ≤ 4096) : (Instr.makeSlice 47 (.int .i64 (n : Int)) (.int .i64 (n : Int))).run Tryd.prog w = .ok (.slice (some ⟨w.heap.size, 0, none⟩) n n) (w.alloc (.cells (cellsB (List.replicate n 0)).toArray 5)) := by
  obtain ⟨i, hi⟩ := Option.isSome_iff_exists.1 (show (Tryd.prog.info? 5).isSome = true by kernel_rfl)
  have h1 : (Tryd.prog.info? 5).map (fun i => (i.zero, i.bytes, i.size)) = some (some (.int .u8 0), 1, 1) := by kernel_rfl
  rw [hi] at h1
  simp only [Option.map_some, Option.some.injEq, Prod.mk.injEq] at h1
  obtain ⟨hz, hb, hs⟩ := h1
  have := run_make (P := Tryd.prog) w 47 5 i (.int .u8 0) Tryd.underlying47 hi hz .i64 .i64 n n (by omega) (by omega) (by rw [hb]; omega) (by omega)
  rw [this, hs]
  simp only [Int.toNat_natCast, Nat.mul_one]
  rw [← made_zero]
  rfl

attribute [local go_sem ↓] make_bytes
/-- Bytes as cells, wherever they lie. -/
def Src (w : World) (A : Option Addr) (l : List UInt8) : Prop := 0 < l.length → ∃ ad, A = some ad ∧ ∀ j v, (cellsB l)[j]? = some v → w.cell? (ad.add j) = some v

end Go.Proofs.YtbflcikfaoojmaaDoor.Mem

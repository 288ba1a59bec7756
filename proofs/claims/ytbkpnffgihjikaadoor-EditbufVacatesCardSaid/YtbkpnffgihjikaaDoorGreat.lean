/- Whether a law's calls are more than are looked at: some answer, and nothing is changed. -/
import Derived.Test.YtbkpnffgihjikaaDoorActIn
import Derived.Test.YtbkpnffgihjikaaDoorSize
import Derived.LoopN
set_option linter.unusedVariables false
set_option linter.unusedSimpArgs false
namespace Go.Proofs.YtbkpnffgihjikaaDoor.Edit
open Go.RowKit Go.Lib Go.Shelf ChangeShapes Mem Utf UtfP Law

/-- the cells of a row -/
theorem act_cells {w : World} {g off : Nat} {rs : List ActRow} (h : ∀ j r, rs[j]? = some r → ∀ i v, (ActRow.cells r)[i]? = some v → w.cell? ⟨g, off + j * 4 + i, none⟩ = some v) {j : Nat} {r : ActRow} (hr : rs[j]? = some r) :
    w.cell? ⟨g, off + j * 4, none⟩ = some (.int .i64 r.k) ∧ w.cell? ⟨g, off + j * 4 + 1, none⟩ = some (.int .i64 r.kk) ∧ w.cell? ⟨g, off + j * 4 + 2, none⟩ = some (.int .i64 r.kc) ∧ w.cell? ⟨g, off + j * 4 + 3, none⟩ = some (.slice r.b.A r.b.l.length r.b.cap) :=
  ⟨h j r hr 0 _ rfl, h j r hr 1 _ rfl, h j r hr 2 _ rfl, h j r hr 3 _ rfl⟩

/-- some answer -/
def AnyB (w : World) (e : Ending) (w' : World) : Prop := ∃ b, e = .returned (.bool b) ∧ Below w.heap.size w w'

set_option maxHeartbeats 1000000 in
theorem great_any (rs : List ActRow) (Q : Option Addr) (cap : Nat) (w : World) (hA : RowsAt w 4 ActRow.cells Q rs) (hm : rs.length ≤ 140737488355328) :
    Calls Tryd.prog 38 #[.slice Q rs.length cap] w (AnyB w) := by
  have HA := Lib.hid hA
  clear hA
  go_enter Tryd.func38, Tryd.ntmps38
  go_wp2
  go_loopw [3, 8] (fun n i wr => ∃ (z : Int) (j : Nat), n = .int .i64 z ∧ i = .int .i64 (j : Int) ∧ j ≤ rs.length ∧ Below w.heap.size w wr) (fun _ i _ => rs.length - (RowKit.intOf i).toNat)
  case atStart => exact ⟨0, 0, rfl, rfl, by omega, Below.refl _ _⟩
  case round =>
    obtain ⟨z, j, rfl, rfl, hj, hbw⟩ := hrel
    have HBW := Lib.hid hbw
    clear hbw
    by_cases hlt : j < rs.length
    · have k0 : (j : Int) < (rs.length : Int) := by omega
      obtain ⟨r, hr⟩ : ∃ r, rs[j]? = some r := ⟨_, List.getElem?_eq_getElem hlt⟩
      obtain ⟨g, off, rfl, hgl, hcell⟩ := HA.out (List.length_pos_iff.1 (by omega : 0 < rs.length))
      obtain ⟨q0, q1, q2, q3⟩ := act_cells hcell hr
      have e0 : wr.cell? ⟨g, off + j * 4, none⟩ = some (.int .i64 r.k) := by rw [HBW.out.cell hgl]; exact q0
      have e1 : wr.cell? ⟨g, off + j * 4 + 1, none⟩ = some (.int .i64 r.kk) := by rw [HBW.out.cell hgl]; exact q1
      have e2 : wr.cell? ⟨g, off + j * 4 + 2, none⟩ = some (.int .i64 r.kc) := by rw [HBW.out.cell hgl]; exact q2
      have e3 : wr.cell? ⟨g, off + j * 4 + 3, none⟩ = some (.slice r.b.A r.b.l.length r.b.cap) := by rw [HBW.out.cell hgl]; exact q3
      obtain ⟨k, kk, kc, ⟨A0, l, cap0⟩⟩ := r
      simp only at e0 e1 e2 e3
      clear q0 q1 q2 q3 hcell hgl hr
      go_wp2
      go_roundw
      case rel => exact ⟨_, j + 1, rfl, by go_num, by omega, HBW.out.alloc HBW.out.size _⟩
      case measure => simp [RowKit.intOf]; omega
    · have hge : decide ((j : Int) < (rs.length : Int)) = false := by simp; omega
      have hge' : decide (j < rs.length) = false := by simp; omega
      clear hlt
      go_wp2
      all_goals
        go_ret
        exact ⟨_, rfl, HBW.out⟩

end Go.Proofs.YtbkpnffgihjikaaDoor.Edit

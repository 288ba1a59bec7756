/- Texts joined: Size; Great. -/
import Derived.Test.YtbkpnffgihjikaaDoorGF
import Derived.Test.YtbkpnffgihjikaaDoorGC
import Derived.Test.YtbkpnffgihjikaaDoorGA
import Derived.Laws.Bits64
import Derived.LoopN
/- How many cells a law's number asks for; the characters of a text that is fine, counted. -/
set_option linter.unusedVariables false
namespace Go.Proofs.YtbkpnffgihjikaaDoor.Edit
open Go.RowKit Go.Lib Go.Shelf ChangeShapes Mem Utf UtfP

def szE (m : Int) (x : Int) : Nat := 1 + ((IntKind.u64.wrap x) % m).toNat

theorem size_c (x : Int) (w : World) : Calls Tryd.prog 37 #[.int .i64 x] w fun e w' => e = .returned (.int .i64 (szE 200 x : Int)) ∧ w' = w := by
  obtain ⟨u, hu⟩ : ∃ u, IntKind.u64.wrap x = u := ⟨_, rfl⟩
  have hu0 : 0 ≤ u := by rw [← hu]; rw [IntKind.wrap_u64]; omega
  obtain ⟨k, hk⟩ : ∃ k : Nat, u.tmod 200 = (k : Int) := ⟨(u.tmod 200).toNat, by
    rw [Int.tmod_eq_emod_of_nonneg hu0]; omega⟩
  have hk200 : k < 200 := by
    rw [Int.tmod_eq_emod_of_nonneg hu0] at hk
    omega
  have e2 : IntKind.i64.wrap (k : Int) = (k : Int) := by rw [IntKind.wrap_i64]; omega
  have hs : Hid ((szE 200 x : Int) = 1 + (k : Int)) := by
    unfold Hid szE
    rw [hu]
    rw [Int.tmod_eq_emod_of_nonneg hu0] at hk
    omega
  go_enter Tryd.func37, Tryd.ntmps37
  go_wp2
  go_ret
  exact ⟨by rw [hs.out]; rfl, rfl⟩
theorem szE_bd {m : Int} (x : Int) (h : 0 < m) (h2 : m ≤ 4095) : 1 ≤ szE m x ∧ szE m x ≤ 4096 := by
  unfold szE
  have := Int.emod_nonneg (IntKind.u64.wrap x) (show m ≠ 0 by omega)
  have := Int.emod_lt_of_pos (IntKind.u64.wrap x) h
  omega

theorem chars_fine' {l : List UInt8} (hf : fineT l = true) : chars l = charsOf l := by
  obtain ⟨h1, h2⟩ := charsOf_spec hf
  conv => lhs; rw [h1]
  have := chars_encs [] (charsOf l) (AllPrint.fine h2)
  rw [List.append_nil, chars_nil, List.append_nil] at this
  exact this

end Go.Proofs.YtbkpnffgihjikaaDoor.Edit

/- Whether a law's calls are more than are looked at: some answer, and nothing is changed. -/
set_option linter.unusedVariables false
set_option linter.unusedSimpArgs false
namespace Go.Proofs.YtbkpnffgihjikaaDoor.Edit
open Go.RowKit Go.Lib Go.Shelf ChangeShapes Mem Utf UtfP Law

/-- the cells of a row -/
theorem act_cells {w : World} {g off : Nat} {rs : List ActRow} (h : ∀ j r, rs[j]? = some r → ∀ i v, (ActRow.cells r)[i]? = some v → w.cell? ⟨g, off + j * 4 + i, none⟩ = some v) {j : Nat} {r : ActRow} (hr : rs[j]? = some r) :
    w.cell? ⟨g, off + j * 4, none⟩ = some (.int .i64 r.k) ∧ w.cell? ⟨g, off + j * 4 + 1, none⟩ = some (.int .i64 r.kk) ∧ w.cell? ⟨g, off + j * 4 + 2, none⟩ = some (.int .i64 r.kc) ∧ w.cell? ⟨g, off + j * 4 + 3, none⟩ = some (.slice r.b.A r.b.l.length r.b.cap) :=
  ⟨h j r hr 0 _ rfl, h j r hr 1 _ rfl, h j r hr 2 _ rfl, h j r hr 3 _ rfl⟩

/-- some answer -/
def AnyB (w : World) (e : Ending) (w' : World) : Prop := ∃ b, e = .returned (.bool b) ∧ Below w.heap.size w w'

set_option maxHeartbeats 1000000 in
theorem great_any (rs : List ActRow) (Q : Option Addr) (cap : Nat) (w : World) (hA : RowsAt w 4 ActRow.cells Q rs) (hm : rs.length ≤ 140737488355328) :
    Calls Tryd.prog 38 #[.slice Q rs.length cap] w (AnyB w) := by
  have HA := Lib.hid hA
  clear hA
  go_enter Tryd.func38, Tryd.ntmps38
  go_wp2
  go_loopw [3, 8] (fun n i wr => ∃ (z : Int) (j : Nat), n = .int .i64 z ∧ i = .int .i64 (j : Int) ∧ j ≤ rs.length ∧ Below w.heap.size w wr) (fun _ i _ => rs.length - (RowKit.intOf i).toNat)
  case atStart => exact ⟨0, 0, rfl, rfl, by omega, Below.refl _ _⟩
  case round =>
    obtain ⟨z, j, rfl, rfl, hj, hbw⟩ := hrel
    have HBW := Lib.hid hbw
    clear hbw
    by_cases hlt : j < rs.length
    · have k0 : (j : Int) < (rs.length : Int) := by omega
      obtain ⟨r, hr⟩ : ∃ r, rs[j]? = some r := ⟨_, List.getElem?_eq_getElem hlt⟩
      obtain ⟨g, off, rfl, hgl, hcell⟩ := HA.out (List.length_pos_iff.1 (by omega : 0 < rs.length))
      obtain ⟨q0, q1, q2, q3⟩ := act_cells hcell hr
      have e0 : wr.cell? ⟨g, off + j * 4, none⟩ = some (.int .i64 r.k) := by rw [HBW.out.cell hgl]; exact q0
      have e1 : wr.cell? ⟨g, off + j * 4 + 1, none⟩ = some (.int .i64 r.kk) := by rw [HBW.out.cell hgl]; exact q1
      have e2 : wr.cell? ⟨g, off + j * 4 + 2, none⟩ = some (.int .i64 r.kc) := by rw [HBW.out.cell hgl]; exact q2
      have e3 : wr.cell? ⟨g, off + j * 4 + 3, none⟩ = some (.slice r.b.A r.b.l.length r.b.cap) := by rw [HBW.out.cell hgl]; exact q3
      obtain ⟨k, kk, kc, ⟨A0, l, cap0⟩⟩ := r
      simp only at e0 e1 e2 e3
      clear q0 q1 q2 q3 hcell hgl hr
      go_wp2
      go_roundw
      case rel => exact ⟨_, j + 1, rfl, by go_num, by omega, HBW.out.alloc HBW.out.size _⟩
      case measure => simp [RowKit.intOf]; omega
    · have hge : decide ((j : Int) < (rs.length : Int)) = false := by simp; omega
      have hge' : decide (j < rs.length) = false := by simp; omega
      clear hlt
      go_wp2
      all_goals
        go_ret
        exact ⟨_, rfl, HBW.out⟩

def sumL (rs : List ActRow) : Nat := (rs.map fun r => r.b.l.length).sum
theorem sumL_le {rs : List ActRow} {r : ActRow} (h : r ∈ rs) : r.b.l.length ≤ sumL rs := by
  unfold sumL
  induction rs with
  | nil => simp at h
  | cons x rs ih =>
    rw [List.map_cons, List.sum_cons]
    rcases List.mem_cons.1 h with rfl | h
    · omega
    · have := ih h; omega
theorem sumL_snoc {rs : List ActRow} {j : Nat} {r : ActRow} (h : rs[j]? = some r) : sumL (rs.take (j + 1)) = sumL (rs.take j) + r.b.l.length := by
  obtain ⟨hj, rfl⟩ := List.getElem?_eq_some_iff.1 h
  unfold sumL
  rw [List.take_add_one, List.getElem?_eq_getElem hj, List.map_append, List.sum_append]
  rfl
theorem sumL_bd : ∀ {rs : List ActRow} {m : Nat}, (∀ r ∈ rs, r.b.l.length ≤ m) → sumL rs ≤ rs.length * m
  | [], _, _ => by simp [sumL]
  | r :: rs, m, h => by
    have h1 := h r (by simp)
    have h2 := sumL_bd (rs := rs) (m := m) (fun x hx => h x (by simp [hx]))
    unfold sumL at h2 ⊢
    rw [List.map_cons, List.sum_cons, List.length_cons, Nat.add_mul]
    omega

/-- an answer, and what it says -/
def GreatB (rs : List ActRow) (w : World) (e : Ending) (w' : World) : Prop := ∃ b, e = .returned (.bool b) ∧ (b = false → ∀ r ∈ rs, r.b.l.length ≤ 3000) ∧ Below w.heap.size w w'

set_option maxHeartbeats 1000000 in
theorem great_c (rs : List ActRow) (Q : Option Addr) (cap : Nat) (w : World) (hA : RowsAt w 4 ActRow.cells Q rs) (hm : rs.length ≤ 140737488355328) (hc : ∀ r ∈ rs, r.b.l.length ≤ r.b.cap) (hc2 : ∀ r ∈ rs, r.b.cap ≤ 140737488351232) :
    Calls Tryd.prog 38 #[.slice Q rs.length cap] w (GreatB rs w) := by
  have HA := Lib.hid hA
  have HC := Lib.hid (And.intro hc hc2)
  clear hA hc hc2
  by_cases hbig : 200 < rs.length
  · have k9 : decide (200 < (rs.length : Int)) = true := by simp; omega
    have k9' : decide (200 < rs.length) = true := by simp; omega
    go_enter Tryd.func38, Tryd.ntmps38
    go_wp2
    go_loopw [3, 8] (fun n i wr => ∃ (z : Int) (j : Nat), n = .int .i64 z ∧ i = .int .i64 (j : Int) ∧ j ≤ rs.length ∧ Below w.heap.size w wr) (fun _ i _ => rs.length - (RowKit.intOf i).toNat)
    case atStart => exact ⟨0, 0, rfl, rfl, by omega, Below.refl _ _⟩
    case round =>
      obtain ⟨z, j, rfl, rfl, hj, hbw⟩ := hrel
      have HBW := Lib.hid hbw
      clear hbw
      by_cases hlt : j < rs.length
      · have k0 : (j : Int) < (rs.length : Int) := by omega
        obtain ⟨r, hr⟩ : ∃ r, rs[j]? = some r := ⟨_, List.getElem?_eq_getElem hlt⟩
        obtain ⟨g, off, rfl, hgl, hcell⟩ := HA.out (List.length_pos_iff.1 (by omega : 0 < rs.length))
        obtain ⟨q0, q1, q2, q3⟩ := act_cells hcell hr
        have e0 : wr.cell? ⟨g, off + j * 4, none⟩ = some (.int .i64 r.k) := by rw [HBW.out.cell hgl]; exact q0
        have e1 : wr.cell? ⟨g, off + j * 4 + 1, none⟩ = some (.int .i64 r.kk) := by rw [HBW.out.cell hgl]; exact q1
        have e2 : wr.cell? ⟨g, off + j * 4 + 2, none⟩ = some (.int .i64 r.kc) := by rw [HBW.out.cell hgl]; exact q2
        have e3 : wr.cell? ⟨g, off + j * 4 + 3, none⟩ = some (.slice r.b.A r.b.l.length r.b.cap) := by rw [HBW.out.cell hgl]; exact q3
        obtain ⟨k, kk, kc, ⟨A0, l, cap0⟩⟩ := r
        simp only at e0 e1 e2 e3
        clear q0 q1 q2 q3 hcell hgl hr
        go_wp2
        go_roundw
        case rel => exact ⟨_, j + 1, rfl, by go_num, by omega, HBW.out.alloc HBW.out.size _⟩
        case measure => simp [RowKit.intOf]; omega
      · have hge : decide ((j : Int) < (rs.length : Int)) = false := by simp; omega
        have hge' : decide (j < rs.length) = false := by simp; omega
        clear hlt
        go_wp2
        go_ret
        exact ⟨true, rfl, by simp, HBW.out⟩
  · have k9 : decide (200 < (rs.length : Int)) = false := by simp; omega
    have k9' : decide (200 < rs.length) = false := by simp; omega
    go_enter Tryd.func38, Tryd.ntmps38
    go_wp2
    go_loopw [3, 8] (fun n i wr => ∃ (z j : Nat), n = .int .i64 (z : Int) ∧ i = .int .i64 (j : Int) ∧ j ≤ rs.length ∧ Hid (z = sumL (rs.take j)) ∧ Below w.heap.size w wr) (fun _ i _ => rs.length - (RowKit.intOf i).toNat)
    case atStart => exact ⟨0, 0, rfl, rfl, by omega, rfl, Below.refl _ _⟩
    case round =>
      obtain ⟨z, j, rfl, rfl, hj, HZ, hbw⟩ := hrel
      have HBW := Lib.hid hbw
      clear hbw
      have hz : z ≤ 28147497670246400 := by
        have h1 := sumL_bd (rs := rs.take j) (m := 140737488351232) (fun r hr => by have := HC.out.1 r (List.mem_of_mem_take hr); have := HC.out.2 r (List.mem_of_mem_take hr); omega)
        rw [List.length_take] at h1
        have h2 : min j rs.length * 140737488351232 ≤ 200 * 140737488351232 := Nat.mul_le_mul_right _ (by omega)
        rw [HZ.out]
        omega
      by_cases hlt : j < rs.length
      · have k0 : (j : Int) < (rs.length : Int) := by omega
        obtain ⟨r, hr⟩ : ∃ r, rs[j]? = some r := ⟨_, List.getElem?_eq_getElem hlt⟩
        obtain ⟨g, off, rfl, hgl, hcell⟩ := HA.out (List.length_pos_iff.1 (by omega : 0 < rs.length))
        obtain ⟨q0, q1, q2, q3⟩ := act_cells hcell hr
        have hlr : r.b.l.length ≤ 140737488351232 := by have := HC.out.1 r (List.mem_of_getElem? hr); have := HC.out.2 r (List.mem_of_getElem? hr); omega
        have HS := Lib.hid (sumL_snoc hr)
        have e0 : wr.cell? ⟨g, off + j * 4, none⟩ = some (.int .i64 r.k) := by rw [HBW.out.cell hgl]; exact q0
        have e1 : wr.cell? ⟨g, off + j * 4 + 1, none⟩ = some (.int .i64 r.kk) := by rw [HBW.out.cell hgl]; exact q1
        have e2 : wr.cell? ⟨g, off + j * 4 + 2, none⟩ = some (.int .i64 r.kc) := by rw [HBW.out.cell hgl]; exact q2
        have e3 : wr.cell? ⟨g, off + j * 4 + 3, none⟩ = some (.slice r.b.A r.b.l.length r.b.cap) := by rw [HBW.out.cell hgl]; exact q3
        obtain ⟨k, kk, kc, ⟨A0, l, cap0⟩⟩ := r
        simp only at e0 e1 e2 e3 hlr
        clear q0 q1 q2 q3 hcell hgl hr
        go_wp2
        go_roundw
        case rel => exact ⟨z + l.length, j + 1, by go_num, by go_num, by omega, by unfold Hid; rw [HS.out, ← HZ.out], HBW.out.alloc HBW.out.size _⟩
        case measure => simp [RowKit.intOf]; omega
      · have hge : decide ((j : Int) < (rs.length : Int)) = false := by simp; omega
        have hge' : decide (j < rs.length) = false := by simp; omega
        have hjl : j = rs.length := by omega
        have Hj := Lib.hid hjl
        clear hlt hjl
        by_cases h3 : z ≤ 3000
        · have k8 : decide (3000 < (z : Int)) = false := by simp; omega
          go_wp2
          go_ret
          refine ⟨false, rfl, fun _ r hr => ?_, HBW.out⟩
          have := sumL_le hr
          have h2 := HZ.out
          rw [Hj.out, List.take_length] at h2
          omega
        · have k8 : decide (3000 < (z : Int)) = true := by simp; omega
          go_wp2
          go_ret
          exact ⟨true, rfl, by simp, HBW.out⟩

end Go.Proofs.YtbkpnffgihjikaaDoor.Edit

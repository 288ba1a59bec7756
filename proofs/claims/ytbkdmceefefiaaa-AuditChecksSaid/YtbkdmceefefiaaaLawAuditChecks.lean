/- For any effects, of which there are no more than are looked at, what the audit tells of them (what they come to, or which of them can't be, and why) is the document's answer. Proved for every input that the statement lets in, with no condition of ours. -/
import Derived.Test.YtbkdmceefefiaaaAudA
import Derived.Test.YtbkdmceefefiaaaAudR4
import Derived.Test.YtbkdmceefefiaaaEffs
import Derived.Test.YtbkdmceefefiaaaLaw
import Derived.HandedShaped
set_option linter.unusedVariables false
namespace Go.Proofs.Ytbkdmceefefiaaa.AuditChecks
open Go.ChangeShapes Go.WideShapes Go.ChangeAt Go.RowKit Go.Lib Mem Byt Aud Law

set_option maxHeartbeats 1000000 in
theorem great (es : List Eff) (A : Option Addr) (cap : Nat) (W0 : World) (hA : EffsAt W0 A es) (hl : es.length ≤ 4611686018427387904) :
    Calls Try.prog 7 #[.slice A es.length cap] W0 fun e w' => ∃ g : Bool, e = .returned (.bool g) ∧ Below W0.heap.size W0 w' := by
  obtain ⟨B0, hB0⟩ : ∃ B0, B0 = W0.heap.size := ⟨_, rfl⟩
  have HA := Lib.hid hA
  have HB0 := Lib.hid hB0
  clear hA hB0
  go_enter Try.func7, Try.ntmps7
  go_wp2
  go_loopw [3, 8] (fun n i wr => ∃ (j : Nat) (m : Int), i = .int .i64 (j : Int) ∧ j ≤ es.length ∧ n = .int .i64 m ∧ Below B0 W0 wr) (fun _ i _ => es.length - (RowKit.intOf i).toNat)
  case atStart => exact ⟨0, 0, rfl, by omega, rfl, Below.refl _ _⟩
  case round =>
    obtain ⟨j, m, rfl, hj, rfl, hbw⟩ := hrel
    by_cases hlt : j < es.length
    · have hej : es[j]? = some es[j] := List.getElem?_eq_getElem hlt
      obtain ⟨e, he⟩ : ∃ e, es[j] = e := ⟨_, rfl⟩
      rw [he] at hej
      obtain ⟨g, off, rfl, hg, hcells⟩ := HA.out (by intro h; rw [h] at hlt; simp at hlt)
      obtain ⟨hce, hbe⟩ := hcells j e hej
      have hgB : g < B0 := by rw [HB0.out]; exact hg
      have q : ∀ i v, e.cells[i]? = some v → wr.cell? ⟨g, off + j * 7 + i, none⟩ = some v := fun i v h => by rw [hbw.cell (p := ⟨g, off + j * 7 + i, none⟩) hgB]; exact hce i v h
      have q0 : wr.cell? ⟨g, off + j * 7, none⟩ = some (.int .i64 e.k) := q 0 _ rfl
      have q1 : wr.cell? ⟨g, off + j * 7 + 1, none⟩ = some (.int .u32 e.fl) := q 1 _ rfl
      have q2 : wr.cell? ⟨g, off + j * 7 + 2, none⟩ = some (.int .u8 e.mn) := q 2 _ rfl
      have q3 : wr.cell? ⟨g, off + j * 7 + 3, none⟩ = some (.int .u8 e.tm) := q 3 _ rfl
      have q4 : wr.cell? ⟨g, off + j * 7 + 4, none⟩ = some (.slice e.A e.l.length e.cap) := q 4 _ rfl
      have q5 : wr.cell? ⟨g, off + j * 7 + 5, none⟩ = some (.int .i64 e.n) := q 5 _ rfl
      have q6 : wr.cell? ⟨g, off + j * 7 + 6, none⟩ = some (.bool e.ok) := q 6 _ rfl
      have k0 : (j : Int) < (es.length : Int) := by omega
      have HBW : Hid (∀ o, Below B0 W0 (wr.alloc o)) := fun o => hbw.alloc (Nat.le_trans (Nat.le_of_eq HB0.out) hbw.size) o
      clear q hce hbe hcells hbw hej he
      cases hn : decide (1099511627776 < e.n)
      · go_wp2
        go_roundw
        case rel => exact ⟨j + 1, _, by go_num, by omega, rfl, HBW.out _⟩
        case measure => simp [RowKit.intOf]; omega
      · go_wp2
        go_ret
        exact ⟨true, rfl, by rw [← HB0.out]; exact HBW.out _⟩
    · have hge : decide ((j : Int) < (es.length : Int)) = false := by simp; omega
      have HBW := Lib.hid hbw
      clear hbw
      go_wp2
      go_ret
      exact ⟨_, rfl, by rw [← HB0.out]; exact HBW.out⟩

theorem rep_eq (a : AS) : repC a = #[.int .i64 a.wr, .int .i64 a.rd, .int .i64 a.sg, .int .i64 a.inn, .int .i64 a.out, .int .i64 a.be, .bool a.rs] := rfl

set_option maxHeartbeats 1000000 in
theorem walk (es : List Eff) (A : Option Addr) (cap : Nat) (w : World) (hA : EffsAt w A es) (hcap : es.length ≤ cap) (hm : cap ≤ 140737488351232) (hfl : ∀ e ∈ es, 0 ≤ e.fl ∧ e.fl < 4294967296) :
    Calls Try.prog 3 #[.slice A es.length cap] w fun e w' => e = .returned (.bool true) ∧ Below w.heap.size w w' := by
  have later : ∀ W, Below w.heap.size w W → EffsAt W A es := fun W hW hne => by
    obtain ⟨g, off, h1, h2, h3⟩ := hA hne
    refine ⟨g, off, h1, by have := hW.size; omega, fun j e he => ⟨fun i v hv => ?_, (h3 j e he).2.below hW⟩⟩
    rw [hW.cell (p := ⟨g, off + j * 7 + i, none⟩) h2]
    exact (h3 j e he).1 i v hv
  have H1 := Lib.hid (alive w)
  have H2 : Hid (∀ W, Below w.heap.size w W → Calls Try.prog 7 #[.slice A es.length cap] W fun e w' => ∃ g : Bool, e = .returned (.bool g) ∧ Below w.heap.size w w') := fun W hW => (great es A cap W (later W hW) (by omega)).mono fun e w' ⟨g, he, hb⟩ => ⟨g, he, hW.trans (hb.mono hW.size)⟩
  have H5 : Hid (∀ W, Below w.heap.size w W → Calls Try.prog 6 #[] W fun e w' => e = .returned (.bool true) ∧ Below w.heap.size w w') := fun W hW => (alive W).mono fun e w' ⟨he, hb⟩ => ⟨he, hW.trans (hb.mono hW.size)⟩
  have H3 := fun W (hW : Below w.heap.size w W) => check es A cap W (later W hW) (by omega)
  have H4 := fun W (hW : Below w.heap.size w W) => rcheck es A cap W (later W hW) (by omega) hfl
  generalize checkS 0 0 zeroS es = R at H3 H4
  obtain ⟨a, n, x⟩ := R
  simp only [rep_eq] at H3 H4
  have H3 := Lib.hid H3
  have H4 := Lib.hid H4
  clear later hA hfl
  go_enter Try.func3, Try.ntmps3
  go_wp2_with fail
  refine H1.out.mono ?_
  rintro e w1 ⟨rfl, hb1⟩
  have HB1 := Lib.hid hb1
  clear hb1
  go_wp2_with fail
  refine (H2.out _ HB1.out).mono ?_
  rintro e w2 ⟨q, rfl, hb2⟩
  have HB2 := Lib.hid hb2
  clear hb2
  cases q
  · go_wp2_with fail
    refine (H3.out _ HB2.out).mono ?_
    rintro e w3 ⟨rfl, hb3⟩
    have HB3 : Hid (Below w.heap.size w w3) := HB2.out.trans (hb3.mono HB2.out.size)
    clear hb3
    go_wp2_with fail
    have hba : Below w.heap.size w (w3.alloc (.cells (repC a) 26)) := HB3.out.alloc HB3.out.size _
    refine (H4.out _ hba).mono ?_
    rintro e w4 ⟨rfl, hb4⟩
    have hk := (Blk.new w3 (repC a) 26).but (But.of_below (S := []) hb4) (by simp)
    have HB4 : Hid (Below w.heap.size w w4) := hba.trans (hb4.mono hba.size)
    have hlt := hk.lt
    have hne : w3.heap.size ≠ w4.heap.size := by omega
    have c0 := hk.cell (j := 0) (v := .int .i64 a.wr) rfl
    have c1 := hk.cell (j := 1) (v := .int .i64 a.rd) rfl
    have c2 := hk.cell (j := 2) (v := .int .i64 a.sg) rfl
    have c3 := hk.cell (j := 3) (v := .int .i64 a.inn) rfl
    have c4 := hk.cell (j := 4) (v := .int .i64 a.out) rfl
    have c5 := hk.cell (j := 5) (v := .int .i64 a.be) rfl
    have c6 := hk.cell (j := 6) (v := .bool a.rs) rfl
    clear hk hba hb4
    go_wp2
    go_ret
    exact ⟨rfl, HB4.out.alloc HB4.out.size _⟩
  · go_wp2_with (go_at_call 6; refine (H5.out _ HB2.out).mono ?_; rintro e w3 ⟨rfl, hb3⟩)
    go_ret
    exact ⟨rfl, hb3⟩

theorem own : ownKnob Try.prog.godebug = none := by kernel_rfl
theorem laidOut : laidOutB Try.prog = true := by kernel_rfl
set_option maxRecDepth 100000 in
theorem lifted (os : Os) (started : os.Started) (H : Type) (enc : TypeId × Value → H) :
    ReturnsInHanded {} Try.checked os 3 .any (Rows.auditChecksSpec.pre6 enc Try.prog Try.f3 Rows.auditChecksRow.domain false) (Rows.auditChecksSpec.post enc Try.prog Try.f3 false true false false) := by
  refine returnsInHanded_of_change_shaped (C := Try.checked) own started (by kernel_rfl) Try.func3
    (ChangeSpec.witness6 (enc := enc) (C := Try.checked) false ⟨#[], #[.slice none 0 0], []⟩ 8 (by kernel_rfl) (by kernel_rfl) (by kernel_rfl) (by kernel_rfl)) ?_
  intro W base args ds gs before hval hW _ hsz _ _
  have hW' := hW
  obtain ⟨p, q, hA0, hV, rfl, hfz, hnd⟩ := hW
  have hA : DataW.TrodAll enc Try.prog W 0 (fun _ => true) true Try.f3.params.toList args.toList ds p := hA0
  rw [Try.params3] at hA hval hsz
  obtain ⟨v0, vs0, d0, ds0, p0, q0, hargs0, rfl, rfl, h0, r0⟩ := trodAll_cons hA
  obtain ⟨rfl, rfl, rfl⟩ := trodAll_nil r0
  obtain rfl : args = #[v0] := by cases args; simp_all
  obtain ⟨rfl, rfl⟩ := trodVars_none hV
  obtain ⟨A0, l0, cap0, rfl, hcap0, hmax0, hA0', hn0, hd0⟩ := open_effs (hval 0 22 _ rfl rfl) h0
  have hm0 : 56 * cap0 ≤ 140737488351232 := by
    rcases hd0 with ⟨_, h⟩ | ⟨elems, spare, hd, h⟩
    · omega
    · have := sized_slice hsz (j := 0) (t := 22) (e := 44) (elems := elems) (spare := spare) rfl (by simp [hd]) Try.underlying22
      rw [show Try.checked.prog.bytesOf 44 = 56 by kernel_rfl] at this
      unfold reachBytes at this
      omega
  refine (walk l0 A0 cap0 W hA0' hcap0 (by omega) hn0).mono fun e W' ⟨he, hb⟩ => ?_
  subst he
  exact ⟨_, rfl, Law.post_law laidOut (by kernel_rfl) hW' rfl rfl rfl rfl rfl Try.underlying4 hb⟩

theorem holds : Rows.AuditChecksSaid :=
  OpenClaim.holds_of_wide 3 Try.f3 rfl rfl rfl rfl rfl rfl rfl ⟨rfl, rfl, rfl, rfl, rfl⟩ rfl rfl rfl rfl rfl (by kernel_rfl) Try.func3 (by kernel_rfl)
    (of_decide_eq_true (by kernel_rfl)) (by unfold Func.isWrapper; first | (rw [if_pos (by decide +kernel)]; kernel_rfl) | (rw [if_neg (by decide +kernel)]; exact ⟨rfl, rfl⟩))
    (fun os started H enc _ => lifted os started H enc)
#print axioms holds

end Go.Proofs.Ytbkdmceefefiaaa.AuditChecks

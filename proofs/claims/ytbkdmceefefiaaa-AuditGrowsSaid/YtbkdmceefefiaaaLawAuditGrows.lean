/- How many calls a prompt may need, as the audit tells it, is more than none, and grows with the bytes, the items and the prompt, and stays only if none of them grew. Proved for every input that the statement lets in, with no condition of ours. -/
import Derived.Test.YtbkdmceefefiaaaSteps
import Derived.Test.YtbkdmceefefiaaaEffs
import Derived.Test.YtbkdmceefefiaaaLaw
import Derived.HandedShaped
import Derived.Stop.BytesEq
set_option linter.unusedVariables false
namespace Go.Proofs.Ytbkdmceefefiaaa.AuditGrows
open Go.ChangeShapes Go.WideShapes Go.ChangeAt Go.RowKit Go.Lib Mem Aud Law

theorem grows (a b c x y z : Int) (ha : 0 ≤ a ∧ a ≤ 65535) (hb : 0 ≤ b ∧ b ≤ 65535) (hc : 0 ≤ c ∧ c ≤ 65535) (hx : 0 ≤ x ∧ x ≤ 255) (hy : 0 ≤ y ∧ y ≤ 255) (hz : 0 ≤ z ∧ z ≤ 255) :
    0 < stepsV a b c ∧ stepsV a b c ≤ stepsV (a + x) (b + y) (c + z) ∧ (stepsV a b c = stepsV (a + x) (b + y) (c + z) ↔ x = 0 ∧ y = 0 ∧ z = 0) := by
  unfold stepsV
  rw [if_pos (by unfold Inside; omega), if_pos (by unfold Inside; omega)]
  have e : (a + x + 2) * (c + z + 1044) = (a + 2) * (c + 1044) + (x * (c + 1044) + (a + 2) * z + x * z) := by
    have h1 : a + x + 2 = (a + 2) + x := by omega
    have h2 : c + z + 1044 = (c + 1044) + z := by omega
    rw [h1, h2, Int.add_mul, Int.mul_add (a + 2), Int.mul_add x]
    omega
  have h0 : 0 ≤ (a + 2) * (c + 1044) := Int.mul_nonneg (by omega) (by omega)
  have h1 : 1044 * x ≤ x * (c + 1044) := by
    rw [Int.mul_comm 1044 x]
    exact Int.mul_le_mul_of_nonneg_left (by omega) hx.1
  have h2 : 2 * z ≤ (a + 2) * z := Int.mul_le_mul_of_nonneg_right (by omega) hz.1
  have h3 : 0 ≤ x * z := Int.mul_nonneg hx.1 hz.1
  rw [e]
  generalize (a + 2) * (c + 1044) = m at *
  generalize hA : x * (c + 1044) = A at *
  generalize hB : (a + 2) * z = B at *
  generalize hC : x * z = C at *
  refine ⟨by omega, by omega, fun h => by omega, fun ⟨e1, e2, e3⟩ => ?_⟩
  subst e1 e2 e3
  simp at hA hB hC
  omega

theorem size_u8 (w : World) : (sizeOf 5).run Try.prog w = .ok 1 w := by
  obtain ⟨i, hi⟩ := Option.isSome_iff_exists.1 (show (Try.prog.info? 5).isSome = true by kernel_rfl)
  rw [run_sizeOf w hi, show Try.prog.cellsOf 5 = 1 by kernel_rfl]

theorem eq3 (x y z : Int) (hx : 0 ≤ x ∧ x ≤ 255) (hy : 0 ≤ y ∧ y ≤ 255) (hz : 0 ≤ z ∧ z ≤ 255) :
    ∃ r : Bool, (r = true ↔ x = 0 ∧ y = 0 ∧ z = 0) ∧ ∀ w, (Op.equalIn 10000 37 (.agg #[.int .u8 x, .int .u8 y, .int .u8 z]) (.agg #[.int .u8 0, .int .u8 0, .int .u8 0])).run Try.prog w = .ok r w := by
  obtain ⟨a, rfl⟩ : ∃ a : Nat, x = a := ⟨x.toNat, by omega⟩
  obtain ⟨b, rfl⟩ : ∃ b : Nat, y = b := ⟨y.toNat, by omega⟩
  obtain ⟨c, rfl⟩ : ∃ c : Nat, z = c := ⟨z.toNat, by omega⟩
  refine ⟨[UInt8.ofNat a, UInt8.ofNat b, UInt8.ofNat c] == [0, 0, 0], ?_, fun w => ?_⟩
  · simp [← UInt8.toNat_inj]
    omega
  · have h := run_equalIn_bytes (P := Try.prog) w 9998 37 5 3 Try.underlying37 Try.underlying5 size_u8 [UInt8.ofNat a, UInt8.ofNat b, UInt8.ofNat c] [0, 0, 0] rfl rfl
    have e : ∀ n : Nat, n ≤ 255 → Extern.Stop.cell (UInt8.ofNat n) = .int .u8 (n : Int) := fun n hn => by
      unfold Extern.Stop.cell
      rw [UInt8.toNat_ofNat', Nat.mod_eq_of_lt (by omega)]; rfl
    simp only [List.map_cons, List.map_nil, e a (by omega), e b (by omega), e c (by omega)] at h
    exact h

set_option maxHeartbeats 1000000 in
theorem walk (a b c x y z : Int) (w : World) (wa : (Lit.int .u16 a).wf = true) (wb : (Lit.int .u16 b).wf = true) (wc : (Lit.int .u16 c).wf = true) (wx : (Lit.int .u8 x).wf = true) (wy : (Lit.int .u8 y).wf = true) (wz : (Lit.int .u8 z).wf = true) :
    Calls Try.prog 5 #[.agg #[.int .u16 a, .int .u16 b, .int .u16 c], .agg #[.int .u8 x, .int .u8 y, .int .u8 z]] w fun e w' => e = .returned (.bool true) ∧ Below w.heap.size w w' := by
  have ha : 0 ≤ a ∧ a ≤ 65535 := by simp [Lit.wf, IntKind.min, IntKind.max, IntKind.signed, IntKind.bits] at wa; omega
  have hb : 0 ≤ b ∧ b ≤ 65535 := by simp [Lit.wf, IntKind.min, IntKind.max, IntKind.signed, IntKind.bits] at wb; omega
  have hc : 0 ≤ c ∧ c ≤ 65535 := by simp [Lit.wf, IntKind.min, IntKind.max, IntKind.signed, IntKind.bits] at wc; omega
  have hx : 0 ≤ x ∧ x ≤ 255 := by simp [Lit.wf, IntKind.min, IntKind.max, IntKind.signed, IntKind.bits] at wx; omega
  have hy : 0 ≤ y ∧ y ≤ 255 := by simp [Lit.wf, IntKind.min, IntKind.max, IntKind.signed, IntKind.bits] at wy; omega
  have hz : 0 ≤ z ∧ z ≤ 255 := by simp [Lit.wf, IntKind.min, IntKind.max, IntKind.signed, IntKind.bits] at wz; omega
  obtain ⟨g1, g2, g3⟩ := grows a b c x y z ha hb hc hx hy hz
  have H1 := Lib.hid alive
  have H2 := Lib.hid (steps a b c)
  have H3 := Lib.hid (steps (a + x) (b + y) (c + z))
  generalize stepsV a b c = V at *
  generalize stepsV (a + x) (b + y) (c + z) = V' at *
  obtain ⟨wq, hwq⟩ : ∃ wq : World, wq = (w.alloc (.cells #[.int .u16 a, .int .u16 b, .int .u16 c] 36)).alloc (.cells #[.int .u8 x, .int .u8 y, .int .u8 z] 37) := ⟨_, rfl⟩
  have hbq : Below w.heap.size w wq := by rw [hwq]; exact ((Below.refl _ _).alloc (Nat.le_refl _) _).alloc (by simp) _
  have hk : Blk wq (w.heap.size + 1) #[.int .u8 x, .int .u8 y, .int .u8 z] 37 := by
    rw [hwq]; have h := Blk.new (w.alloc (.cells #[.int .u16 a, .int .u16 b, .int .u16 c] 36)) #[.int .u8 x, .int .u8 y, .int .u8 z] 37; simpa using h
  obtain ⟨r, hr, hrun⟩ := eq3 x y z hx hy hz
  obtain rfl : r = (V == V') := by
    rw [Bool.eq_iff_iff, hr, ← g3]; simp
  have HQ := Lib.hid hwq
  have HK := Lib.hid hk
  have HBQ := Lib.hid hbq
  clear hwq hk hbq g3 hr wa wb wc wx wy wz
  go_enter Try.func5, Try.ntmps5
  go_wp2_with fail
  refine (H2.out _).mono ?_
  rintro e w1 ⟨rfl, rfl⟩
  go_wp2_with fail
  refine (H3.out _).mono ?_
  rintro e w1 ⟨rfl, rfl⟩
  go_wp2_with fail
  rw [← HQ.out]
  refine (H1.out _).mono ?_
  rintro e w1 ⟨rfl, hb1⟩
  have hk1 := HK.out.but (But.of_below (S := []) hb1) (by simp)
  have q0 := hk1.cell (j := 0) rfl
  have q1 := hk1.cell (j := 1) rfl
  have q2 := hk1.cell (j := 2) rfl
  have HB1 := Lib.hid hb1
  clear hk1 hb1
  go_wp2
  go_ret
  exact ⟨rfl, HBQ.out.trans (HB1.out.mono HBQ.out.size)⟩

theorem own : ownKnob Try.prog.godebug = none := by kernel_rfl
theorem laidOut : laidOutB Try.prog = true := by kernel_rfl
set_option maxRecDepth 100000 in
theorem lifted (os : Os) (started : os.Started) (H : Type) (enc : TypeId × Value → H) :
    ReturnsInHanded {} Try.checked os 5 .any (Rows.auditGrowsSpec.pre6 enc Try.prog Try.f5 Rows.auditGrowsRow.domain false) (Rows.auditGrowsSpec.post enc Try.prog Try.f5 false true false false) := by
  refine returnsInHanded_of_change_shaped (C := Try.checked) own started (by kernel_rfl) Try.func5
    (ChangeSpec.witness6 (enc := enc) (C := Try.checked) false ⟨#[], #[.agg #[.int .u16 0, .int .u16 0, .int .u16 0], .agg #[.int .u8 0, .int .u8 0, .int .u8 0]], []⟩ 8 (by kernel_rfl) (by kernel_rfl) (by kernel_rfl) (by kernel_rfl)) ?_
  intro W base args ds gs before hval hW _ hsz _ _
  have hW' := hW
  obtain ⟨p, q, hA0, hV, rfl, hfz, hnd⟩ := hW
  have hA : DataW.TrodAll enc Try.prog W 0 (fun _ => true) true Try.f5.params.toList args.toList ds p := hA0
  rw [Try.params5] at hA hval hsz
  obtain ⟨v0, vs0, d0, ds0, p0, q0, hargs0, rfl, rfl, h0, r0⟩ := trodAll_cons hA
  obtain ⟨v1, vs1, d1, ds1, p1, q1, hargs1, rfl, rfl, h1, r1⟩ := trodAll_cons r0
  obtain ⟨rfl, rfl, rfl⟩ := trodAll_nil r1
  subst hargs1
  obtain rfl : args = #[v0, v1] := by cases args; simp_all
  obtain ⟨rfl, rfl⟩ := trodVars_none hV
  obtain ⟨x0a, x0b, x0c, rfl, wx0a, wx0b, wx0c⟩ := open_three Try.underlying36 Try.underlying35 (by kernel_rfl) (by kernel_rfl) (hval 0 36 _ rfl rfl) h0
  obtain ⟨x1a, x1b, x1c, rfl, wx1a, wx1b, wx1c⟩ := open_three Try.underlying37 Try.underlying5 (by kernel_rfl) (by kernel_rfl) (hval 1 37 _ rfl rfl) h1
  refine (walk x0a x0b x0c x1a x1b x1c W wx0a wx0b wx0c wx1a wx1b wx1c).mono fun e W' ⟨he, hb⟩ => ?_
  subst he
  exact ⟨_, rfl, Law.post_law laidOut (by kernel_rfl) hW' rfl rfl rfl rfl rfl Try.underlying4 hb⟩

theorem holds : Rows.AuditGrowsSaid :=
  OpenClaim.holds_of_wide 5 Try.f5 rfl rfl rfl rfl rfl rfl rfl ⟨rfl, rfl, rfl, rfl, rfl⟩ rfl rfl rfl rfl rfl (by kernel_rfl) Try.func5 (by kernel_rfl)
    (of_decide_eq_true (by kernel_rfl)) (by unfold Func.isWrapper; first | (rw [if_pos (by decide +kernel)]; kernel_rfl) | (rw [if_neg (by decide +kernel)]; exact ⟨rfl, rfl⟩))
    (fun os started H enc _ => lifted os started H enc)
#print axioms holds

end Go.Proofs.Ytbkdmceefefiaaa.AuditGrows

/- whispererlaw20.TwinBack, walked. -/
import Derived.Deep.RegionHeld3
import Derived.Test.YtbflcikfaoojmaaDoorHTwD
import Derived.Test.YtbflcikfaoojmaaDoorHPlB
import Derived.Test.YtbflcikfaoojmaaDoorHPlS
import Derived.Test.YtbflcikfaoojmaaDoorGX
import Derived.Test.YtbflcikfaoojmaaDoorGP2
import Derived.Test.YtbflcikfaoojmaaDoorHPl9
import Derived.Test.YtbflcikfaoojmaaDoorGI
import Derived.Test.YtbflcikfaoojmaaDoorHLaw
set_option linter.unusedVariables false
set_option linter.unusedSimpArgs false
namespace Go.Proofs.YtbflcikfaoojmaaDoor.TwinBack
open Go.RowKit Go.Lib Go.Shelf ChangeShapes Mem Utf UtfP Edit

theorem small_facts {p : Pl} (h : p.its.length ≤ 300 ∧ p.sz ≤ 4000) : p.its.length ≤ 300 ∧ (p.ws.l.length ≤ 4000 ∧ p.gs.l.length ≤ 4000 ∧ p.ss.l.length ≤ 4000) ∧ (∀ x ∈ p.its, x.l.length ≤ 4000) ∧ (allE p.its).length ≤ 4000 ∧ p.ws.l.length + p.gs.l.length + p.ss.l.length ≤ 4000 := by
  obtain ⟨h1, h2⟩ := h
  unfold Pl.sz at h2
  have h3 := allE_le p.its
  exact ⟨h1, ⟨by omega, by omega, by omega⟩, fun x hx => by have := szI_mem hx; omega, by omega, by omega⟩
set_option maxRecDepth 200000 in
set_option maxHeartbeats 4000000 in
theorem walk_great (p : Pl) (z : Int) (w : World) (hT : Tabs w) (h : p.Ok w) (hf : p.Fits) (hn : ¬ (p.its.length ≤ 300 ∧ p.sz ≤ 4000)) :
    Calls Tryd.prog 5 #[p.v, .int .i64 z] w fun e w' => e = .returned (.bool true) ∧ Below w.heap.size w w' := by
  obtain ⟨W0, hW0⟩ : ∃ W0, w.alloc (.cells p.cs 35) = W0 := ⟨_, rfl⟩
  have hb0 : Below w.heap.size w W0 := by rw [← hW0]; exact (Below.refl _ w).alloc (Nat.le_refl _) _
  have hp0 : Blk W0 w.heap.size p.cs 35 := by rw [← hW0]; exact Blk.new _ _ _
  have HA := Lib.hid (alive_c W0 (hT.below hb0))
  have HT0 := Lib.hid (hT.below hb0)
  have HOK := Lib.hid (h.below hb0)
  have HP := Lib.hid hp0
  have HB0 := Lib.hid hb0
  have HG : Hid (∀ V, p.Ok V → Calls Tryd.prog 13 #[p.v] V fun e w' => e = .returned (.int .i64 1) ∧ Below V.heap.size V w') := fun V hV => by
    by_cases h3 : 300 < p.its.length
    · exact great_big p V hV hf h3
    · exact great_less p V hV hf (by omega) 1 (.inr ⟨by omega, rfl⟩)
  clear h hf hn hb0 hp0 hT
  unfold Pl.v at HG ⊢
  unfold Pl.cs at HG hW0 ⊢
  go_enter Tryd.func5, Tryd.ntmps5
  go_wp2_with fail
  refine (HA.out).mono ?_
  rintro e w1 ⟨rfl, hb1⟩
  have hp1 := HP.out.but (But.of_below (S := []) hb1) List.not_mem_nil
  have p0 : w1.cell? ⟨w.heap.size, 0, none⟩ = some (.int .u32 p.a1) := hp1.cell rfl
  have p1 : w1.cell? ⟨w.heap.size, 1, none⟩ = some (.int .u8 p.a2) := hp1.cell rfl
  have p2 : w1.cell? ⟨w.heap.size, 2, none⟩ = some (.int .u8 p.a3) := hp1.cell rfl
  have p3 : w1.cell? ⟨w.heap.size, 3, none⟩ = some (.slice p.B p.its.length p.cap) := hp1.cell rfl
  have p4 : w1.cell? ⟨w.heap.size, 4, none⟩ = some (.slice p.ws.A p.ws.l.length p.ws.cap) := hp1.cell rfl
  have p5 : w1.cell? ⟨w.heap.size, 5, none⟩ = some (.slice p.gs.A p.gs.l.length p.gs.cap) := hp1.cell rfl
  have p6 : w1.cell? ⟨w.heap.size, 6, none⟩ = some (.slice p.ss.A p.ss.l.length p.ss.cap) := hp1.cell rfl
  have HG1 := Lib.hid (HG.out w1 (HOK.out.below hb1))
  have HB1 := Lib.hid hb1
  clear hb1 hp1 hW0
  go_wp2_with fail
  refine (HG1.out).mono ?_
  rintro e w2 ⟨rfl, hb2⟩
  have HB2 := Lib.hid (HB1.out.trans (hb2.mono HB1.out.size))
  have HA2 := Lib.hid (alive_c w2 (HT0.out.below HB2.out))
  clear hb2 p0 p1 p2 p3 p4 p5 p6
  go_wp2_with fail
  refine (HA2.out).mono ?_
  rintro e w3 ⟨rfl, hb3⟩
  go_wp2_with fail
  go_ret
  exact ⟨rfl, HB0.out.trans ((HB2.out.trans (hb3.mono HB2.out.size)).mono HB0.out.size)⟩

set_option maxRecDepth 200000 in
set_option maxHeartbeats 4000000 in
theorem walk_bad (p : Pl) (z : Int) (w : World) (hT : Tabs w) (h : p.Ok w) (hf : p.Fits) (hn : p.its.length ≤ 300 ∧ p.sz ≤ 4000) (hc : chkE p.its ≠ 0) :
    Calls Tryd.prog 5 #[p.v, .int .i64 z] w fun e w' => e = .returned (.bool true) ∧ Below w.heap.size w w' := by
  obtain ⟨W0, hW0⟩ : ∃ W0, w.alloc (.cells p.cs 35) = W0 := ⟨_, rfl⟩
  have hb0 : Below w.heap.size w W0 := by rw [← hW0]; exact (Below.refl _ w).alloc (Nat.le_refl _) _
  have hp0 : Blk W0 w.heap.size p.cs 35 := by rw [← hW0]; exact Blk.new _ _ _
  have HA := Lib.hid (alive_c W0 (hT.below hb0))
  have HT0 := Lib.hid (hT.below hb0)
  have HOK := Lib.hid (h.below hb0)
  have HP := Lib.hid hp0
  have HB0 := Lib.hid hb0
  obtain ⟨hn3, hnw, hmx, hal, hsm⟩ := small_facts hn
  have hsz := hn.2
  have HG : Hid (∀ V, p.Ok V → Calls Tryd.prog 13 #[p.v] V fun e w' => e = .returned (.int .i64 0) ∧ Below V.heap.size V w') := fun V hV => great_less p V hV hf hn3 0 (.inl ⟨hsz, rfl⟩)
  have HCK := fun V (hV : p.Ok V) => Lib.hid (rcheck_c p V hV hn3)
  obtain ⟨E, hE⟩ : ∃ E, chkE p.its = E := ⟨_, rfl⟩
  rw [hE] at HCK hc
  have hc1 : (E == 0) = false := by simpa using hc
  have hc2 : (E != 0) = true := by simpa using hc
  clear h hf hn hb0 hp0 hT hE hc hmx hal hsm hsz hnw
  unfold Pl.v at HG HCK ⊢
  unfold Pl.cs at HG HCK hW0 ⊢
  go_enter Tryd.func5, Tryd.ntmps5
  go_wp2_with fail
  refine (HA.out).mono ?_
  rintro e w1 ⟨rfl, hb1⟩
  have hp1 := HP.out.but (But.of_below (S := []) hb1) List.not_mem_nil
  have p0 : w1.cell? ⟨w.heap.size, 0, none⟩ = some (.int .u32 p.a1) := hp1.cell rfl
  have p1 : w1.cell? ⟨w.heap.size, 1, none⟩ = some (.int .u8 p.a2) := hp1.cell rfl
  have p2 : w1.cell? ⟨w.heap.size, 2, none⟩ = some (.int .u8 p.a3) := hp1.cell rfl
  have p3 : w1.cell? ⟨w.heap.size, 3, none⟩ = some (.slice p.B p.its.length p.cap) := hp1.cell rfl
  have p4 : w1.cell? ⟨w.heap.size, 4, none⟩ = some (.slice p.ws.A p.ws.l.length p.ws.cap) := hp1.cell rfl
  have p5 : w1.cell? ⟨w.heap.size, 5, none⟩ = some (.slice p.gs.A p.gs.l.length p.gs.cap) := hp1.cell rfl
  have p6 : w1.cell? ⟨w.heap.size, 6, none⟩ = some (.slice p.ss.A p.ss.l.length p.ss.cap) := hp1.cell rfl
  have HG1 := Lib.hid (HG.out w1 (HOK.out.below hb1))
  have HB1 := Lib.hid hb1
  clear hb1 hp1 hW0
  go_wp2_with fail
  refine (HG1.out).mono ?_
  rintro e w2 ⟨rfl, hb2⟩
  clear p0 p1 p2 p3 p4 p5 p6
  have HB2 := Lib.hid (HB1.out.trans (hb2.mono HB1.out.size))
  have hp2 := HP.out.but (But.of_below (S := []) HB2.out) List.not_mem_nil
  have p0 : w2.cell? ⟨w.heap.size, 0, none⟩ = some (.int .u32 p.a1) := hp2.cell rfl
  have p1 : w2.cell? ⟨w.heap.size, 1, none⟩ = some (.int .u8 p.a2) := hp2.cell rfl
  have p2 : w2.cell? ⟨w.heap.size, 2, none⟩ = some (.int .u8 p.a3) := hp2.cell rfl
  have p3 : w2.cell? ⟨w.heap.size, 3, none⟩ = some (.slice p.B p.its.length p.cap) := hp2.cell rfl
  have p4 : w2.cell? ⟨w.heap.size, 4, none⟩ = some (.slice p.ws.A p.ws.l.length p.ws.cap) := hp2.cell rfl
  have p5 : w2.cell? ⟨w.heap.size, 5, none⟩ = some (.slice p.gs.A p.gs.l.length p.gs.cap) := hp2.cell rfl
  have p6 : w2.cell? ⟨w.heap.size, 6, none⟩ = some (.slice p.ss.A p.ss.l.length p.ss.cap) := hp2.cell rfl
  have HCK2 := HCK w2 (HOK.out.below HB2.out)
  clear hb2 hp2
  go_wp2_with fail
  refine (HCK2.out).mono ?_
  rintro e w3 ⟨rfl, hb3⟩
  clear p0 p1 p2 p3 p4 p5 p6
  have HB3 := Lib.hid (HB2.out.trans (hb3.mono HB2.out.size))
  have HA3 := Lib.hid (alive_c w3 (HT0.out.below HB3.out))
  clear hb3
  go_wp2_with fail
  refine (HA3.out).mono ?_
  rintro e w4 ⟨rfl, hb4⟩
  go_wp2_with fail
  go_ret
  exact ⟨rfl, HB0.out.trans ((HB3.out.trans (hb4.mono HB3.out.size)).mono HB0.out.size)⟩

set_option maxRecDepth 200000 in
set_option maxHeartbeats 4000000 in
theorem walk_min (p : Pl) (w : World) (hT : Tabs w) (h : p.Ok w) (hf : p.Fits) (hn : p.its.length ≤ 300 ∧ p.sz ≤ 4000) (hc : chkE p.its = 0) :
    Calls Tryd.prog 5 #[p.v, .int .i64 (-9223372036854775808)] w fun e w' => e = .returned (.bool true) ∧ Below w.heap.size w w' := by
  obtain ⟨W0, hW0⟩ : ∃ W0, w.alloc (.cells p.cs 35) = W0 := ⟨_, rfl⟩
  have hb0 : Below w.heap.size w W0 := by rw [← hW0]; exact (Below.refl _ w).alloc (Nat.le_refl _) _
  have hp0 : Blk W0 w.heap.size p.cs 35 := by rw [← hW0]; exact Blk.new _ _ _
  have HA := Lib.hid (alive_c W0 (hT.below hb0))
  have HT0 := Lib.hid (hT.below hb0)
  have HOK := Lib.hid (h.below hb0)
  have HP := Lib.hid hp0
  have HB0 := Lib.hid hb0
  obtain ⟨hn3, hnw, hmx, hal, hsm⟩ := small_facts hn
  have hsz := hn.2
  have HG : Hid (∀ V, p.Ok V → Calls Tryd.prog 13 #[p.v] V fun e w' => e = .returned (.int .i64 0) ∧ Below V.heap.size V w') := fun V hV => great_less p V hV hf hn3 0 (.inl ⟨hsz, rfl⟩)
  have HCK := fun V (hV : p.Ok V) => Lib.hid (rcheck_c p V hV hn3)
  rw [hc] at HCK
  clear h hf hn hb0 hp0 hT hc hmx hal hsm hsz hnw
  unfold Pl.v at HG HCK ⊢
  unfold Pl.cs at HG HCK hW0 ⊢
  go_enter Tryd.func5, Tryd.ntmps5
  go_wp2_with fail
  refine (HA.out).mono ?_
  rintro e w1 ⟨rfl, hb1⟩
  have hp1 := HP.out.but (But.of_below (S := []) hb1) List.not_mem_nil
  have p0 : w1.cell? ⟨w.heap.size, 0, none⟩ = some (.int .u32 p.a1) := hp1.cell rfl
  have p1 : w1.cell? ⟨w.heap.size, 1, none⟩ = some (.int .u8 p.a2) := hp1.cell rfl
  have p2 : w1.cell? ⟨w.heap.size, 2, none⟩ = some (.int .u8 p.a3) := hp1.cell rfl
  have p3 : w1.cell? ⟨w.heap.size, 3, none⟩ = some (.slice p.B p.its.length p.cap) := hp1.cell rfl
  have p4 : w1.cell? ⟨w.heap.size, 4, none⟩ = some (.slice p.ws.A p.ws.l.length p.ws.cap) := hp1.cell rfl
  have p5 : w1.cell? ⟨w.heap.size, 5, none⟩ = some (.slice p.gs.A p.gs.l.length p.gs.cap) := hp1.cell rfl
  have p6 : w1.cell? ⟨w.heap.size, 6, none⟩ = some (.slice p.ss.A p.ss.l.length p.ss.cap) := hp1.cell rfl
  have HG1 := Lib.hid (HG.out w1 (HOK.out.below hb1))
  have HB1 := Lib.hid hb1
  clear hb1 hp1 hW0
  go_wp2_with fail
  refine (HG1.out).mono ?_
  rintro e w2 ⟨rfl, hb2⟩
  clear p0 p1 p2 p3 p4 p5 p6
  have HB2 := Lib.hid (HB1.out.trans (hb2.mono HB1.out.size))
  have hp2 := HP.out.but (But.of_below (S := []) HB2.out) List.not_mem_nil
  have p0 : w2.cell? ⟨w.heap.size, 0, none⟩ = some (.int .u32 p.a1) := hp2.cell rfl
  have p1 : w2.cell? ⟨w.heap.size, 1, none⟩ = some (.int .u8 p.a2) := hp2.cell rfl
  have p2 : w2.cell? ⟨w.heap.size, 2, none⟩ = some (.int .u8 p.a3) := hp2.cell rfl
  have p3 : w2.cell? ⟨w.heap.size, 3, none⟩ = some (.slice p.B p.its.length p.cap) := hp2.cell rfl
  have p4 : w2.cell? ⟨w.heap.size, 4, none⟩ = some (.slice p.ws.A p.ws.l.length p.ws.cap) := hp2.cell rfl
  have p5 : w2.cell? ⟨w.heap.size, 5, none⟩ = some (.slice p.gs.A p.gs.l.length p.gs.cap) := hp2.cell rfl
  have p6 : w2.cell? ⟨w.heap.size, 6, none⟩ = some (.slice p.ss.A p.ss.l.length p.ss.cap) := hp2.cell rfl
  have HCK2 := HCK w2 (HOK.out.below HB2.out)
  clear hb2 hp2
  go_wp2_with fail
  refine (HCK2.out).mono ?_
  rintro e w3 ⟨rfl, hb3⟩
  clear p0 p1 p2 p3 p4 p5 p6
  have HB3 := Lib.hid (HB2.out.trans (hb3.mono HB2.out.size))
  have HA3 := Lib.hid (alive_c w3 (HT0.out.below HB3.out))
  clear hb3
  go_wp2_with fail
  refine (HA3.out).mono ?_
  rintro e w4 ⟨rfl, hb4⟩
  go_wp2_with fail
  go_ret
  exact ⟨rfl, HB0.out.trans ((HB3.out.trans (hb4.mono HB3.out.size)).mono HB0.out.size)⟩

set_option maxRecDepth 200000 in
set_option maxHeartbeats 8000000 in
theorem walk_ok (p : Pl) (z : Int) (w : World) (hT : Tabs w) (h : p.Ok w) (hf : p.Fits) (hn : p.its.length ≤ 300 ∧ p.sz ≤ 4000) (hc : chkE p.its = 0) (hz : (Lit.int .i64 z).wf = true) (hz1 : z ≠ -9223372036854775808) :
    Calls Tryd.prog 5 #[p.v, .int .i64 z] w fun e w' => e = .returned (.bool true) ∧ Below w.heap.size w w' := by
  obtain ⟨W0, hW0⟩ : ∃ W0, w.alloc (.cells p.cs 35) = W0 := ⟨_, rfl⟩
  have hb0 : Below w.heap.size w W0 := by rw [← hW0]; exact (Below.refl _ w).alloc (Nat.le_refl _) _
  have hp0 : Blk W0 w.heap.size p.cs 35 := by rw [← hW0]; exact Blk.new _ _ _
  have HA := Lib.hid (alive_c W0 (hT.below hb0))
  have HT0 := Lib.hid (hT.below hb0)
  have HOK := Lib.hid (h.below hb0)
  have HP := Lib.hid hp0
  have HB0 := Lib.hid hb0
  obtain ⟨hn3, hnw, hmx, hal, hsm⟩ := small_facts hn
  have hsz := hn.2
  have HG : Hid (∀ V, p.Ok V → Calls Tryd.prog 13 #[p.v] V fun e w' => e = .returned (.int .i64 0) ∧ Below V.heap.size V w') := fun V hV => great_less p V hV hf hn3 0 (.inl ⟨hsz, rfl⟩)
  have HCK := fun V (hV : p.Ok V) => Lib.hid (rcheck_c p V hV hn3)
  have hz2 : (z == -9223372036854775808) = false := by simpa using hz1
  have hzr : -9223372036854775808 ≤ z ∧ z ≤ 9223372036854775807 := by
    simp [Lit.wf, IntKind.min, IntKind.max, IntKind.signed, IntKind.bits] at hz
    omega
  obtain ⟨zn, hzn⟩ : ∃ zn, -z = zn := ⟨_, rfl⟩
  have hw1 : IntKind.i64.wrap (-z) = zn := by rw [IntWalk.i64_in _ (by omega)]; exact hzn
  have hw2 : wrap64 (-z) = zn := by unfold wrap64; omega
  have HZN := Lib.hid hzn
  -- the contracts
  have HPL := fun V (hV : p.Ok V) (hTV : Tabs V) => Lib.hid (plan_p p z V hV hn3 hnw hmx hal hc hTV)
  have HPL' : Hid (∀ V, p.Ok V → Tabs V → Calls Tryd.prog 14 #[p.v, .int .i64 z] V fun e w' => ∃ q : Pl, e = .returned (.tuple #[.agg #[.int .u32 q.a1, .int .u8 q.a2, .int .u8 q.a3, .slice q.B p.its.length q.cap, .slice q.ws.A q.ws.l.length q.ws.cap, .slice q.gs.A q.gs.l.length q.gs.cap, .slice q.ss.A q.ss.l.length q.ss.cap], .int .i64 0]) ∧ Hid (q.Ok w') ∧ Hid (NewP p z q) ∧ Below V.heap.size V w') := fun V hV hTV => ((HPL V hV hTV).out).mono fun e w' ⟨q, h1, h2, h3, h4⟩ => ⟨q, by rw [h1]; unfold Pl.v Pl.cs; rw [newP_length h3], h2, h3, h4⟩
  have HPQ : Hid (∀ (q : Pl) V, NewP p z q → q.Ok V → Tabs V → Calls Tryd.prog 14 #[.agg #[.int .u32 q.a1, .int .u8 q.a2, .int .u8 q.a3, .slice q.B p.its.length q.cap, .slice q.ws.A q.ws.l.length q.ws.cap, .slice q.gs.A q.gs.l.length q.gs.cap, .slice q.ss.A q.ss.l.length q.ss.cap], .int .i64 zn] V fun e w' => ∃ r : Pl, e = .returned (.tuple #[.agg #[.int .u32 r.a1, .int .u8 r.a2, .int .u8 r.a3, .slice r.B p.its.length r.cap, .slice r.ws.A r.ws.l.length r.ws.cap, .slice r.gs.A r.gs.l.length r.gs.cap, .slice r.ss.A r.ss.l.length r.ss.cap], .int .i64 0]) ∧ Hid (r.Ok w') ∧ Hid (SameP p r) ∧ Below V.heap.size V w') := fun q V hq hV hTV => by
    obtain ⟨k1, k2, k3, k4, k5⟩ := small_facts (newP_small hq hn)
    have hp := plan_p q zn V hV k1 k2 k3 k4 ((newP_chk hq).trans hc) hTV
    unfold Pl.v Pl.cs at hp
    rw [newP_length hq] at hp
    refine hp.mono ?_
    rintro e w' ⟨r, h1, h2, h3, h4⟩
    refine ⟨r, by rw [h1, newP_length h3, newP_length hq], h2, ?_, h4⟩
    rw [← hzn] at h3
    exact newP_back hq h3
  have HSE := fun V (hV : p.Ok V) (hTV : Tabs V) => Lib.hid (secret_p p V hV hn3 hmx hal hc hTV)
  have HSQ : Hid (∀ (q : Pl) V, NewP p z q → q.Ok V → Tabs V → Calls Tryd.prog 15 #[.agg #[.int .u32 q.a1, .int .u8 q.a2, .int .u8 q.a3, .slice q.B p.its.length q.cap, .slice q.ws.A q.ws.l.length q.ws.cap, .slice q.gs.A q.gs.l.length q.gs.cap, .slice q.ss.A q.ss.l.length q.ss.cap]] V fun e w' => ∃ v, e = .returned (.tuple #[v, .int .i64 0]) ∧ w'.ownsRow V.heap.size 3 1 v (chE (secE (allE p.its))).length (((chE (secE (allE p.its))).map (turnE · z)).map fun i => .int .i64 i) ∧ Below V.heap.size V w') := fun q V hq hV hTV => by
    obtain ⟨k1, k2, k3, k4, k5⟩ := small_facts (newP_small hq hn)
    have hp := secret_p q V hV k1 k3 k4 ((newP_chk hq).trans hc) hTV
    unfold Pl.v Pl.cs at hp
    rw [newP_length hq] at hp
    have hs : chE (secE (allE q.its)) = (chE (secE (allE p.its))).map (turnE · z) := newP_sec hq
    have hl : (secE (allE q.its)).length = (chE (secE (allE p.its))).length := by
      have := congrArg List.length hs
      rw [chE_len, List.length_map] at this
      exact this
    have hx : ((secE (allE q.its)).map fun x => Value.int .i64 x.2) = (chE (secE (allE q.its))).map fun i => .int .i64 i := by unfold chE; rw [List.map_map]; rfl
    rw [hl, hx, hs] at hp
    exact hp
  have HSM : Hid (∀ (r : Pl) V, p.Ok V → r.Ok V → SameP p r → Calls Tryd.prog 18 #[p.v, .agg #[.int .u32 r.a1, .int .u8 r.a2, .int .u8 r.a3, .slice r.B p.its.length r.cap, .slice r.ws.A r.ws.l.length r.ws.cap, .slice r.gs.A r.gs.l.length r.gs.cap, .slice r.ss.A r.ss.l.length r.ss.cap]] V fun e w' => e = .returned (.bool true) ∧ Below V.heap.size V w') := fun r V hV hr hs => by
    have hp := same_c p r V hV hr hs hn3 hsm
    have hl : r.its.length = p.its.length := by have := congrArg List.length hs.its; simpa using this.symm
    unfold Pl.v Pl.cs at hp
    rw [hl] at hp
    exact hp
  rw [hc] at HCK
  obtain ⟨L, hL⟩ : ∃ L, chE (secE (allE p.its)) = L := ⟨_, rfl⟩
  obtain ⟨m, hm⟩ : ∃ m, L.length = m := ⟨_, rfl⟩
  have hm4 : m ≤ 4000 := by have := secE_len (allE p.its); rw [← hm, ← hL, chE_len]; omega
  have HLP : Hid (∀ C ∈ L, printC C = true) := by
    intro C hC
    rw [← hL] at hC
    obtain ⟨x, hx, rfl⟩ := List.mem_map.1 hC
    exact (secE_mem hx).2
  have hxs : ((secE (allE p.its)).map fun x => Value.int .i64 x.2) = L.map fun i => .int .i64 i := by rw [← hL]; unfold chE; rw [List.map_map]; rfl
  have hxl : (secE (allE p.its)).length = m := by rw [← hm, ← hL, chE_len]
  rw [hxl, hxs] at HSE
  rw [hL, hm] at HSQ
  have HM := Lib.hid hm
  clear h hf hn hb0 hp0 hT hc hmx hal hsm hsz hnw hz hz1 hzr hzn HPL hL hm hxs hxl
  unfold Pl.v at HG HCK HPL' HSE HSM ⊢
  unfold Pl.cs at HG HCK HPL' HSE HSM hW0 ⊢
  go_enter Tryd.func5, Tryd.ntmps5
  go_wp2_with fail
  refine (HA.out).mono ?_
  rintro e w1 ⟨rfl, hb1⟩
  have hp1 := HP.out.but (But.of_below (S := []) hb1) List.not_mem_nil
  have p0 : w1.cell? ⟨w.heap.size, 0, none⟩ = some (.int .u32 p.a1) := hp1.cell rfl
  have p1 : w1.cell? ⟨w.heap.size, 1, none⟩ = some (.int .u8 p.a2) := hp1.cell rfl
  have p2 : w1.cell? ⟨w.heap.size, 2, none⟩ = some (.int .u8 p.a3) := hp1.cell rfl
  have p3 : w1.cell? ⟨w.heap.size, 3, none⟩ = some (.slice p.B p.its.length p.cap) := hp1.cell rfl
  have p4 : w1.cell? ⟨w.heap.size, 4, none⟩ = some (.slice p.ws.A p.ws.l.length p.ws.cap) := hp1.cell rfl
  have p5 : w1.cell? ⟨w.heap.size, 5, none⟩ = some (.slice p.gs.A p.gs.l.length p.gs.cap) := hp1.cell rfl
  have p6 : w1.cell? ⟨w.heap.size, 6, none⟩ = some (.slice p.ss.A p.ss.l.length p.ss.cap) := hp1.cell rfl
  have HG1 := Lib.hid (HG.out w1 (HOK.out.below hb1))
  have HB1 := Lib.hid hb1
  clear hb1 hp1 hW0
  go_wp2_with fail
  refine (HG1.out).mono ?_
  rintro e w2 ⟨rfl, hb2⟩
  clear p0 p1 p2 p3 p4 p5 p6
  have HB2 := Lib.hid (HB1.out.trans (hb2.mono HB1.out.size))
  have hp2 := HP.out.but (But.of_below (S := []) HB2.out) List.not_mem_nil
  have p0 : w2.cell? ⟨w.heap.size, 0, none⟩ = some (.int .u32 p.a1) := hp2.cell rfl
  have p1 : w2.cell? ⟨w.heap.size, 1, none⟩ = some (.int .u8 p.a2) := hp2.cell rfl
  have p2 : w2.cell? ⟨w.heap.size, 2, none⟩ = some (.int .u8 p.a3) := hp2.cell rfl
  have p3 : w2.cell? ⟨w.heap.size, 3, none⟩ = some (.slice p.B p.its.length p.cap) := hp2.cell rfl
  have p4 : w2.cell? ⟨w.heap.size, 4, none⟩ = some (.slice p.ws.A p.ws.l.length p.ws.cap) := hp2.cell rfl
  have p5 : w2.cell? ⟨w.heap.size, 5, none⟩ = some (.slice p.gs.A p.gs.l.length p.gs.cap) := hp2.cell rfl
  have p6 : w2.cell? ⟨w.heap.size, 6, none⟩ = some (.slice p.ss.A p.ss.l.length p.ss.cap) := hp2.cell rfl
  have HCK2 := HCK w2 (HOK.out.below HB2.out)
  clear hb2 hp2
  go_wp2_with fail
  refine (HCK2.out).mono ?_
  rintro e w3 ⟨rfl, hb3⟩
  clear p0 p1 p2 p3 p4 p5 p6
  have HB3 := Lib.hid (HB2.out.trans (hb3.mono HB2.out.size))
  have hp3 := HP.out.but (But.of_below (S := []) HB3.out) List.not_mem_nil
  have p0 : w3.cell? ⟨w.heap.size, 0, none⟩ = some (.int .u32 p.a1) := hp3.cell rfl
  have p1 : w3.cell? ⟨w.heap.size, 1, none⟩ = some (.int .u8 p.a2) := hp3.cell rfl
  have p2 : w3.cell? ⟨w.heap.size, 2, none⟩ = some (.int .u8 p.a3) := hp3.cell rfl
  have p3 : w3.cell? ⟨w.heap.size, 3, none⟩ = some (.slice p.B p.its.length p.cap) := hp3.cell rfl
  have p4 : w3.cell? ⟨w.heap.size, 4, none⟩ = some (.slice p.ws.A p.ws.l.length p.ws.cap) := hp3.cell rfl
  have p5 : w3.cell? ⟨w.heap.size, 5, none⟩ = some (.slice p.gs.A p.gs.l.length p.gs.cap) := hp3.cell rfl
  have p6 : w3.cell? ⟨w.heap.size, 6, none⟩ = some (.slice p.ss.A p.ss.l.length p.ss.cap) := hp3.cell rfl
  have HPL3 := Lib.hid (HPL'.out w3 (HOK.out.below HB3.out) (HT0.out.below HB3.out))
  clear hb3 hp3
  go_wp2_with fail
  refine (HPL3.out).mono ?_
  rintro e w4 ⟨q, rfl, HQOK, HNP, hb4⟩
  clear p0 p1 p2 p3 p4 p5 p6
  go_upto_region 4 with fail
  obtain ⟨v4, hv4⟩ : ∃ v4, w4.alloc (.cells #[.int .u32 q.a1, .int .u8 q.a2, .int .u8 q.a3, .slice q.B p.its.length q.cap, .slice q.ws.A q.ws.l.length q.ws.cap, .slice q.gs.A q.gs.l.length q.gs.cap, .slice q.ss.A q.ss.l.length q.ss.cap] 35) = v4 := ⟨_, rfl⟩
  have hbv4 : Below w4.heap.size w4 v4 := by rw [← hv4]; exact (Below.refl _ _).alloc (Nat.le_refl _) _
  have hq4 : Blk v4 w4.heap.size #[.int .u32 q.a1, .int .u8 q.a2, .int .u8 q.a3, .slice q.B p.its.length q.cap, .slice q.ws.A q.ws.l.length q.ws.cap, .slice q.gs.A q.gs.l.length q.gs.cap, .slice q.ss.A q.ss.l.length q.ss.cap] 35 := by rw [← hv4]; exact Blk.new _ _ _
  have HB4 := Lib.hid ((HB3.out.trans (hb4.mono HB3.out.size)).trans (hbv4.mono (HB3.out.trans (hb4.mono HB3.out.size)).size))
  have HQ4 := Lib.hid hq4
  have HQOK4 := Lib.hid (HQOK.out.below hbv4)
  have q0 : v4.cell? ⟨w4.heap.size, 0, none⟩ = some (.int .u32 q.a1) := hq4.cell rfl
  have q1 : v4.cell? ⟨w4.heap.size, 1, none⟩ = some (.int .u8 q.a2) := hq4.cell rfl
  have q2 : v4.cell? ⟨w4.heap.size, 2, none⟩ = some (.int .u8 q.a3) := hq4.cell rfl
  have q3 : v4.cell? ⟨w4.heap.size, 3, none⟩ = some (.slice q.B p.its.length q.cap) := hq4.cell rfl
  have q4 : v4.cell? ⟨w4.heap.size, 4, none⟩ = some (.slice q.ws.A q.ws.l.length q.ws.cap) := hq4.cell rfl
  have q5 : v4.cell? ⟨w4.heap.size, 5, none⟩ = some (.slice q.gs.A q.gs.l.length q.gs.cap) := hq4.cell rfl
  have q6 : v4.cell? ⟨w4.heap.size, 6, none⟩ = some (.slice q.ss.A q.ss.l.length q.ss.cap) := hq4.cell rfl
  have HPQ4 := Lib.hid (HPQ.out q v4 HNP.out HQOK4.out (HT0.out.below HB4.out))
  rw [hv4]
  clear hv4 hb4 hbv4 hq4
  go_wp2_with fail
  refine (HPQ4.out).mono ?_
  rintro e w5 ⟨r, rfl, HROK, HSP, hb5⟩
  clear q0 q1 q2 q3 q4 q5 q6
  go_upto_region 5 with fail
  obtain ⟨v5, hv5⟩ : ∃ v5, w5.alloc (.cells #[.int .u32 r.a1, .int .u8 r.a2, .int .u8 r.a3, .slice r.B p.its.length r.cap, .slice r.ws.A r.ws.l.length r.ws.cap, .slice r.gs.A r.gs.l.length r.gs.cap, .slice r.ss.A r.ss.l.length r.ss.cap] 35) = v5 := ⟨_, rfl⟩
  have hbv5 : Below w5.heap.size w5 v5 := by rw [← hv5]; exact (Below.refl _ _).alloc (Nat.le_refl _) _
  have hr5 : Blk v5 w5.heap.size #[.int .u32 r.a1, .int .u8 r.a2, .int .u8 r.a3, .slice r.B p.its.length r.cap, .slice r.ws.A r.ws.l.length r.ws.cap, .slice r.gs.A r.gs.l.length r.gs.cap, .slice r.ss.A r.ss.l.length r.ss.cap] 35 := by rw [← hv5]; exact Blk.new _ _ _
  have hb45 := hb5.trans (hbv5.mono hb5.size)
  have HC5 := Lib.hid hb45
  have HB5 := Lib.hid (HB4.out.trans (hb45.mono HB4.out.size))
  have HR5 := Lib.hid hr5
  have HROK5 := Lib.hid (HROK.out.below hbv5)
  have HD5 : Hid (Below v5.heap.size v5 v5) := Below.refl _ _
  have hp5 := HP.out.but (But.of_below (S := []) HB5.out) List.not_mem_nil
  have p0 : v5.cell? ⟨w.heap.size, 0, none⟩ = some (.int .u32 p.a1) := hp5.cell rfl
  have p1 : v5.cell? ⟨w.heap.size, 1, none⟩ = some (.int .u8 p.a2) := hp5.cell rfl
  have p2 : v5.cell? ⟨w.heap.size, 2, none⟩ = some (.int .u8 p.a3) := hp5.cell rfl
  have p3 : v5.cell? ⟨w.heap.size, 3, none⟩ = some (.slice p.B p.its.length p.cap) := hp5.cell rfl
  have p4 : v5.cell? ⟨w.heap.size, 4, none⟩ = some (.slice p.ws.A p.ws.l.length p.ws.cap) := hp5.cell rfl
  have p5 : v5.cell? ⟨w.heap.size, 5, none⟩ = some (.slice p.gs.A p.gs.l.length p.gs.cap) := hp5.cell rfl
  have p6 : v5.cell? ⟨w.heap.size, 6, none⟩ = some (.slice p.ss.A p.ss.l.length p.ss.cap) := hp5.cell rfl
  have HSE5 := HSE v5 (HOK.out.below HB5.out) (HT0.out.below HB5.out)
  rw [hv5]
  clear hv5 hb5 hbv5 hr5 hb45 hp5
  go_wp2_with fail
  refine (HSE5.out).mono ?_
  rintro e w6 ⟨v6, rfl, ho6, hb6⟩
  clear p0 p1 p2 p3 p4 p5 p6
  have HO6 : Hid (OwnI w6 v5.heap.size v6 L) := by
    unfold Hid OwnI
    rw [HM.out]
    exact ho6
  obtain ⟨A6, c6, rfl⟩ := ownsRow_form ho6
  have HB6 := Lib.hid (HB5.out.trans (hb6.mono HB5.out.size))
  have HC6 := Lib.hid (HC5.out.trans (hb6.mono HC5.out.size))
  have hq6 := HQ4.out.but (But.of_below (S := []) HC6.out) List.not_mem_nil
  have q0 : w6.cell? ⟨w4.heap.size, 0, none⟩ = some (.int .u32 q.a1) := hq6.cell rfl
  have q1 : w6.cell? ⟨w4.heap.size, 1, none⟩ = some (.int .u8 q.a2) := hq6.cell rfl
  have q2 : w6.cell? ⟨w4.heap.size, 2, none⟩ = some (.int .u8 q.a3) := hq6.cell rfl
  have q3 : w6.cell? ⟨w4.heap.size, 3, none⟩ = some (.slice q.B p.its.length q.cap) := hq6.cell rfl
  have q4 : w6.cell? ⟨w4.heap.size, 4, none⟩ = some (.slice q.ws.A q.ws.l.length q.ws.cap) := hq6.cell rfl
  have q5 : w6.cell? ⟨w4.heap.size, 5, none⟩ = some (.slice q.gs.A q.gs.l.length q.gs.cap) := hq6.cell rfl
  have q6 : w6.cell? ⟨w4.heap.size, 6, none⟩ = some (.slice q.ss.A q.ss.l.length q.ss.cap) := hq6.cell rfl
  have HSQ6 := Lib.hid (HSQ.out q w6 HNP.out (HQOK4.out.below HC6.out) (HT0.out.below HB6.out))
  clear ho6 hq6
  have HD6 := Lib.hid hb6
  clear hb6
  go_wp2_with fail
  refine (HSQ6.out).mono ?_
  rintro e w7 ⟨v7, rfl, ho7, hb7⟩
  clear q0 q1 q2 q3 q4 q5 q6
  have HO7 : Hid (OwnI w7 w6.heap.size v7 (L.map (turnE · z))) := by
    unfold Hid OwnI
    rw [List.length_map, HM.out]
    exact ho7
  obtain ⟨A7, c7, rfl⟩ := ownsRow_form ho7
  have HO6' := Lib.hid (HO6.out.below hb7)
  have HB7 := Lib.hid (HB6.out.trans (hb7.mono HB6.out.size))
  have HC7 := Lib.hid (HC6.out.trans (hb7.mono HC6.out.size))
  have HD7 := Lib.hid (HD6.out.trans (hb7.mono HD6.out.size))
  have hp7 := HP.out.but (But.of_below (S := []) HB7.out) List.not_mem_nil
  have hq7 := HQ4.out.but (But.of_below (S := []) HC7.out) List.not_mem_nil
  have hr7 := HR5.out.but (But.of_below (S := []) HD7.out) List.not_mem_nil
  have p0 : w7.cell? ⟨w.heap.size, 0, none⟩ = some (.int .u32 p.a1) := hp7.cell rfl
  have p1 : w7.cell? ⟨w.heap.size, 1, none⟩ = some (.int .u8 p.a2) := hp7.cell rfl
  have p2 : w7.cell? ⟨w.heap.size, 2, none⟩ = some (.int .u8 p.a3) := hp7.cell rfl
  have p3 : w7.cell? ⟨w.heap.size, 3, none⟩ = some (.slice p.B p.its.length p.cap) := hp7.cell rfl
  have p4 : w7.cell? ⟨w.heap.size, 4, none⟩ = some (.slice p.ws.A p.ws.l.length p.ws.cap) := hp7.cell rfl
  have p5 : w7.cell? ⟨w.heap.size, 5, none⟩ = some (.slice p.gs.A p.gs.l.length p.gs.cap) := hp7.cell rfl
  have p6 : w7.cell? ⟨w.heap.size, 6, none⟩ = some (.slice p.ss.A p.ss.l.length p.ss.cap) := hp7.cell rfl
  have q0 : w7.cell? ⟨w4.heap.size, 0, none⟩ = some (.int .u32 q.a1) := hq7.cell rfl
  have q1 : w7.cell? ⟨w4.heap.size, 1, none⟩ = some (.int .u8 q.a2) := hq7.cell rfl
  have q2 : w7.cell? ⟨w4.heap.size, 2, none⟩ = some (.int .u8 q.a3) := hq7.cell rfl
  have q3 : w7.cell? ⟨w4.heap.size, 3, none⟩ = some (.slice q.B p.its.length q.cap) := hq7.cell rfl
  have q4 : w7.cell? ⟨w4.heap.size, 4, none⟩ = some (.slice q.ws.A q.ws.l.length q.ws.cap) := hq7.cell rfl
  have q5 : w7.cell? ⟨w4.heap.size, 5, none⟩ = some (.slice q.gs.A q.gs.l.length q.gs.cap) := hq7.cell rfl
  have q6 : w7.cell? ⟨w4.heap.size, 6, none⟩ = some (.slice q.ss.A q.ss.l.length q.ss.cap) := hq7.cell rfl
  have r0 : w7.cell? ⟨w5.heap.size, 0, none⟩ = some (.int .u32 r.a1) := hr7.cell rfl
  have r1 : w7.cell? ⟨w5.heap.size, 1, none⟩ = some (.int .u8 r.a2) := hr7.cell rfl
  have r2 : w7.cell? ⟨w5.heap.size, 2, none⟩ = some (.int .u8 r.a3) := hr7.cell rfl
  have r3 : w7.cell? ⟨w5.heap.size, 3, none⟩ = some (.slice r.B p.its.length r.cap) := hr7.cell rfl
  have r4 : w7.cell? ⟨w5.heap.size, 4, none⟩ = some (.slice r.ws.A r.ws.l.length r.ws.cap) := hr7.cell rfl
  have r5 : w7.cell? ⟨w5.heap.size, 5, none⟩ = some (.slice r.gs.A r.gs.l.length r.gs.cap) := hr7.cell rfl
  have r6 : w7.cell? ⟨w5.heap.size, 6, none⟩ = some (.slice r.ss.A r.ss.l.length r.ss.cap) := hr7.cell rfl
  have HSM7 := Lib.hid (HSM.out r w7 (HOK.out.below HB7.out) (HROK5.out.below HD7.out) HSP.out)
  clear hb7 hp7 hq7 hr7 ho7
  go_wp2_with fail
  refine (HSM7.out).mono ?_
  rintro e w8 ⟨rfl, hb8⟩
  clear p0 p1 p2 p3 p4 p5 p6 q0 q1 q2 q3 q4 q5 q6 r0 r1 r2 r3 r4 r5 r6
  have HB8 := Lib.hid (HB7.out.trans (hb8.mono HB7.out.size))
  have HC8 := Lib.hid (HC7.out.trans (hb8.mono HC7.out.size))
  have HE8 := Lib.hid hb8
  have p3 : w8.cell? ⟨w.heap.size, 3, none⟩ = some (.slice p.B p.its.length p.cap) := (HP.out.but (But.of_below (S := []) HB8.out) List.not_mem_nil).cell rfl
  have q3 : w8.cell? ⟨w4.heap.size, 3, none⟩ = some (.slice q.B p.its.length q.cap) := (HQ4.out.but (But.of_below (S := []) HC8.out) List.not_mem_nil).cell rfl
  clear hb8
  go_wp2_with fail
  go_loopw [95] (fun i wr => ∃ j : Nat, i = .int .i64 (j : Int) ∧ j ≤ m ∧ Hid (Below w8.heap.size w8 wr)) (fun i _ => m - (RowKit.intOf i).toNat)
  case atStart => exact ⟨0, rfl, Nat.zero_le _, Below.refl _ _⟩
  case round =>
    obtain ⟨j, rfl, hj, HB⟩ := hrel
    have hsr := HB.out.size
    by_cases hlt : j < m
    · have q1 : (j : Int) < (m : Int) := by omega
      have HLT := Lib.hid hlt
      obtain ⟨C, hC⟩ : ∃ C, L[j]? = some C := ⟨_, List.getElem?_eq_getElem (by rw [HM.out]; exact hlt)⟩
      have hjl : j < L.length := by rw [HM.out]; exact hlt
      have hne : L ≠ [] := by intro e; rw [e] at hC; cases hC
      have hne' : L.map (turnE · z) ≠ [] := by intro e; exact hne (List.map_eq_nil_iff.1 e)
      have r1 := HO6'.out
      have r2 := HO7.out
      obtain ⟨g6, c6', hv6, _, _, k6⟩ := OwnI.row r1 hne
      obtain ⟨g7, c7', hv7, _, _, k7⟩ := OwnI.row r2 hne'
      injection hv6 with a1 a2 a3
      injection hv7 with b1 b2 b3
      rw [a1, b1]
      have hb := HE8.out.trans (HB.out.mono HE8.out.size)
      have d6 := (hb.cell (p := ⟨g6, j, none⟩) k6.lt).trans (k6.cell hjl)
      have d7' := k7.cell (t := j) (by rw [List.length_map]; exact hjl)
      rw [List.getD_eq_getElem?_getD, hC] at d6
      rw [List.getD_eq_getElem?_getD, List.getElem?_map, hC] at d7'
      replace d6 : wr.cell? ⟨g6, j, none⟩ = some (.int .i64 C) := d6
      replace d7' : w7.cell? ⟨g7, j, none⟩ = some (.int .i64 (turnE C z)) := d7'
      have hpr := HLP.out C (List.mem_of_getElem? hC)
      have HTU := Lib.hid (turn_c C z wr hpr)
      have HD7' : Hid (∀ V, Below wr.heap.size wr V → V.cell? ⟨g7, j, none⟩ = some (.int .i64 (turnE C z))) := fun V hV => ((hb.trans (hV.mono hb.size)).cell (p := ⟨g7, j, none⟩) k7.lt).trans d7'
      obtain ⟨tc, htc⟩ : ∃ tc, turnE C z = tc := ⟨_, rfl⟩
      rw [htc] at HTU HD7'
      clear r1 r2 a1 a2 a3 b1 b2 b3 k6 k7 hjl hne hne' hC hb d7' hpr htc
      go_wp2_with fail
      refine (HTU.out).mono ?_
      rintro e w9 ⟨rfl, hb9⟩
      have d7 := HD7'.out w9 hb9
      have HB9 := Lib.hid (HB.out.trans (hb9.mono hsr))
      clear hb9
      go_wp2_with fail
      go_roundw
      case rel => exact ⟨j + 1, by go_num, HLT.out, HB9.out⟩
      case measure => have := HLT.out; simp [RowKit.intOf]; omega
    · have q1 : ¬ (j : Int) < (m : Int) := by omega
      have p3' := (HB.out.cell (p := ⟨w.heap.size, 3, none⟩) (World.block_lt_of_cell? _ _ p3)).trans p3
      have HBL := Lib.hid (HB8.out.trans (HB.out.mono HB8.out.size))
      have HCL := Lib.hid (HC8.out.trans (HB.out.mono HC8.out.size))
      clear hlt p3 q3
      go_wp2_with fail
      go_loopw [121] (fun i wr2 => ∃ j : Nat, i = .int .i64 (j : Int) ∧ j ≤ p.its.length ∧ Hid (Below wr.heap.size wr wr2)) (fun i _ => p.its.length - (RowKit.intOf i).toNat)
      case atStart => exact ⟨0, rfl, Nat.zero_le _, Below.refl _ _⟩
      case round =>
        obtain ⟨k, rfl, hk, HB2⟩ := hrel
        have hbp := HBL.out.trans (HB2.out.mono HBL.out.size)
        have hbq := HCL.out.trans (HB2.out.mono HCL.out.size)
        by_cases hlk : k < p.its.length
        · have q2 : (k : Int) < (p.its.length : Int) := by omega
          have HLK := Lib.hid hlk
          have p3 := (HP.out.but (But.of_below (S := []) hbp) List.not_mem_nil).cell (j := 3) (v := .slice p.B p.its.length p.cap) rfl
          have q3 := (HQ4.out.but (But.of_below (S := []) hbq) List.not_mem_nil).cell (j := 3) (v := .slice q.B p.its.length q.cap) rfl
          have hal := newP_alike HNP.out
          obtain ⟨x, hx⟩ : ∃ x, p.its[k]? = some x := ⟨_, List.getElem?_eq_getElem hlk⟩
          obtain ⟨y, hy⟩ : ∃ y, q.its[k]? = some y := ⟨_, List.getElem?_eq_getElem (by rw [hal.len]; exact hlk)⟩
          have hxy : y.l.length = x.l.length := by
            have := hal.get k
            rw [hx, hy] at this
            exact congrArg (fun x => x.2.2.2) (Option.some.inj this)
          obtain ⟨b1, o1, hb1, hl1, _, _, _, d1⟩ := (HOK.out.below hbp).its.at hx
          obtain ⟨b2, o2, hb2, hl2, _, _, _, d2⟩ := (HQOK4.out.below hbq).its.at hy
          rw [hxy] at d2
          rw [hb1] at p3
          rw [hb2] at q3
          clear hx hy hxy hb1 hb2 hal hbp hbq hl1 hl2
          go_wp2_with fail
          go_quiet (fail)
          go_wp2_with fail
          go_roundw
          case rel => exact ⟨k + 1, by go_num, HLK.out, below_drews HB2.out _⟩
          case measure => have := HLK.out; simp [RowKit.intOf]; omega
        · have q2 : ¬ (k : Int) < (p.its.length : Int) := by omega
          have HBF := Lib.hid hbp
          clear hlk hbp hbq
          go_wp2_with fail
          go_ret
          exact ⟨rfl, HB0.out.trans (HBF.out.mono HB0.out.size)⟩

theorem walk (p : Pl) (z : Int) (w : World) (hT : Tabs w) (h : p.Ok w) (hf : p.Fits) (hz : (Lit.int .i64 z).wf = true) :
    Calls Tryd.prog 5 #[p.v, .int .i64 z] w fun e w' => e = .returned (.bool true) ∧ Below w.heap.size w w' := by
  by_cases hn : p.its.length ≤ 300 ∧ p.sz ≤ 4000
  · by_cases hc : chkE p.its = 0
    · by_cases hz1 : z = -9223372036854775808
      · subst hz1; exact walk_min p w hT h hf hn hc
      · exact walk_ok p z w hT h hf hn hc hz hz1
    · exact walk_bad p z w hT h hf hn hc
  · exact walk_great p z w hT h hf hn

end Go.Proofs.YtbflcikfaoojmaaDoor.TwinBack

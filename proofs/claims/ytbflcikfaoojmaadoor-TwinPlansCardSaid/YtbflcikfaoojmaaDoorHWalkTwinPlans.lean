/- whispererlaw20.TwinPlans, walked. -/
import Derived.Deep.RegionHeld3
import Derived.Test.YtbflcikfaoojmaaDoorHTwD
import Derived.Test.YtbflcikfaoojmaaDoorHPlB
import Derived.Test.YtbflcikfaoojmaaDoorHPlC
import Derived.Test.YtbflcikfaoojmaaDoorHPlN
import Derived.Test.YtbflcikfaoojmaaDoorHPl9
import Derived.Test.YtbflcikfaoojmaaDoorHPlS
import Derived.Test.YtbflcikfaoojmaaDoorGI
import Derived.Test.YtbflcikfaoojmaaDoorHLaw
set_option linter.unusedVariables false
set_option linter.unusedSimpArgs false
namespace Go.Proofs.YtbflcikfaoojmaaDoor.TwinPlans
open Go.RowKit Go.Lib Go.Shelf ChangeShapes Mem Utf UtfP Edit

/-- an empty plan -/
def none0 : Nums := ⟨[], none, 0⟩
def zeroL : Pl := ⟨0, 0, 0, [], none, 0, none0, none0, none0⟩
theorem none0_ok (w : World) : none0.Ok w := ⟨fun h => absurd rfl h, Nat.le_refl _, fun _ => ⟨rfl, rfl⟩, fun _ h => by cases h⟩
theorem zeroL_ok (w : World) : zeroL.Ok w := ⟨⟨fun h => absurd rfl h, fun _ h => by cases h⟩, Nat.le_refl _, fun _ => ⟨rfl, rfl⟩, none0_ok w, none0_ok w, none0_ok w, rfl, rfl, rfl⟩
theorem small_facts {p : Pl} (h : p.its.length ≤ 300 ∧ p.sz ≤ 4000) : p.its.length ≤ 300 ∧ (p.ws.l.length ≤ 4000 ∧ p.gs.l.length ≤ 4000 ∧ p.ss.l.length ≤ 4000) ∧ (∀ x ∈ p.its, x.l.length ≤ 4000) ∧ (allE p.its).length ≤ 4000 ∧ p.ws.l.length + p.gs.l.length + p.ss.l.length ≤ 4000 := by
  obtain ⟨h1, h2⟩ := h
  unfold Pl.sz at h2
  have h3 := allE_le p.its
  exact ⟨h1, ⟨by omega, by omega, by omega⟩, fun x hx => by have := szI_mem hx; omega, by omega, by omega⟩
theorem newP_same {p q q' : Pl} {z : Int} (h : NewP p z q) (h' : NewP p z q') : SameP q q' := ⟨h.a1.trans h'.a1.symm, h.a2.trans h'.a2.symm, h.a3.trans h'.a3.symm, h.its.trans h'.its.symm, h.ws.trans h'.ws.symm, h.gs.trans h'.gs.symm, h.ss.trans h'.ss.symm⟩
theorem newP_len {p q : Pl} {z : Int} (h : NewP p z q) : q.its.length = p.its.length := by
  have e : ∀ (o : List Int) (b : List UInt8) (c : List Core), (cutE p.its o b c).length = c.length := by
    intro o
    induction o with
    | nil => intro b c; rfl
    | cons i o ih =>
      intro b c
      show (cutE p.its o _ _).length = _
      rw [ih]
      unfold setL
      rw [List.length_modify]
  have := congrArg List.length h.its
  rw [List.length_map] at this
  rw [this]
  unfold newC
  rw [e, List.length_map]

set_option maxRecDepth 200000 in
set_option maxHeartbeats 4000000 in
theorem walk_great (p : Pl) (z : Int) (w : World) (hT : Tabs w) (h : p.Ok w) (hf : p.Fits) (hn : ¬ (p.its.length ≤ 300 ∧ p.sz ≤ 4000)) :
    Calls Tryd.prog 4 #[p.v, .int .i64 z] w fun e w' => e = .returned (.bool true) ∧ Below w.heap.size w w' := by
  obtain ⟨W0, hW0⟩ : ∃ W0, w.alloc (.cells p.cs 35) = W0 := ⟨_, rfl⟩
  have hb0 : Below w.heap.size w W0 := by rw [← hW0]; exact (Below.refl _ w).alloc (Nat.le_refl _) _
  have hp0 : Blk W0 w.heap.size p.cs 35 := by rw [← hW0]; exact Blk.new _ _ _
  have HA := Lib.hid (alive_c W0 (hT.below hb0))
  have HT0 := Lib.hid (hT.below hb0)
  have HOK := Lib.hid (h.below hb0)
  have HP := Lib.hid hp0
  have HB0 := Lib.hid hb0
  have HG : Hid (∀ V, p.Ok V → Calls Tryd.prog 13 #[p.v] V fun e w' => e = .returned (.int .i64 1) ∧ Below V.heap.size V w') := fun V hV => by
    by_cases h3 : 300 < p.its.length
    · exact great_big p V hV hf h3
    · exact great_less p V hV hf (by omega) 1 (.inr ⟨by omega, rfl⟩)
  clear h hf hn hb0 hp0 hT
  unfold Pl.v at HG ⊢
  unfold Pl.cs at HG hW0 ⊢
  go_enter Tryd.func4, Tryd.ntmps4
  go_wp2_with fail
  refine (HA.out).mono ?_
  rintro e w1 ⟨rfl, hb1⟩
  have hp1 := HP.out.but (But.of_below (S := []) hb1) List.not_mem_nil
  have p0 : w1.cell? ⟨w.heap.size, 0, none⟩ = some (.int .u32 p.a1) := hp1.cell rfl
  have p1 : w1.cell? ⟨w.heap.size, 1, none⟩ = some (.int .u8 p.a2) := hp1.cell rfl
  have p2 : w1.cell? ⟨w.heap.size, 2, none⟩ = some (.int .u8 p.a3) := hp1.cell rfl
  have p3 : w1.cell? ⟨w.heap.size, 3, none⟩ = some (.slice p.B p.its.length p.cap) := hp1.cell rfl
  have p4 : w1.cell? ⟨w.heap.size, 4, none⟩ = some (.slice p.ws.A p.ws.l.length p.ws.cap) := hp1.cell rfl
  have p5 : w1.cell? ⟨w.heap.size, 5, none⟩ = some (.slice p.gs.A p.gs.l.length p.gs.cap) := hp1.cell rfl
  have p6 : w1.cell? ⟨w.heap.size, 6, none⟩ = some (.slice p.ss.A p.ss.l.length p.ss.cap) := hp1.cell rfl
  have HG1 := Lib.hid (HG.out w1 (HOK.out.below hb1))
  have HB1 := Lib.hid hb1
  clear hb1 hp1 hW0
  go_wp2_with fail
  refine (HG1.out).mono ?_
  rintro e w2 ⟨rfl, hb2⟩
  have HB2 := Lib.hid (HB1.out.trans (hb2.mono HB1.out.size))
  have HA2 := Lib.hid (alive_c w2 (HT0.out.below HB2.out))
  clear hb2 p0 p1 p2 p3 p4 p5 p6
  go_wp2_with fail
  refine (HA2.out).mono ?_
  rintro e w3 ⟨rfl, hb3⟩
  go_wp2_with fail
  go_ret
  exact ⟨rfl, HB0.out.trans ((HB2.out.trans (hb3.mono HB2.out.size)).mono HB0.out.size)⟩

set_option maxRecDepth 200000 in
set_option maxHeartbeats 4000000 in
theorem walk_bad (p : Pl) (z : Int) (w : World) (hT : Tabs w) (h : p.Ok w) (hf : p.Fits) (hn : p.its.length ≤ 300 ∧ p.sz ≤ 4000) (hc : chkE p.its ≠ 0) :
    Calls Tryd.prog 4 #[p.v, .int .i64 z] w fun e w' => e = .returned (.bool true) ∧ Below w.heap.size w w' := by
  obtain ⟨W0, hW0⟩ : ∃ W0, w.alloc (.cells p.cs 35) = W0 := ⟨_, rfl⟩
  have hb0 : Below w.heap.size w W0 := by rw [← hW0]; exact (Below.refl _ w).alloc (Nat.le_refl _) _
  have hp0 : Blk W0 w.heap.size p.cs 35 := by rw [← hW0]; exact Blk.new _ _ _
  have hs0 : W0.heap.size = w.heap.size + 1 := by rw [← hW0]; simp
  have HA := Lib.hid (alive_c W0 (hT.below hb0))
  have HT0 := Lib.hid (hT.below hb0)
  have HOK := Lib.hid (h.below hb0)
  have HP := Lib.hid hp0
  have HB0 := Lib.hid hb0
  obtain ⟨hn3, hnw, hmx, hal, hsm⟩ := small_facts hn
  have hsz := hn.2
  have HG : Hid (∀ V, p.Ok V → Calls Tryd.prog 13 #[p.v] V fun e w' => e = .returned (.int .i64 0) ∧ Below V.heap.size V w') := fun V hV => great_less p V hV hf hn3 0 (.inl ⟨hsz, rfl⟩)
  have HPL := fun V (hV : p.Ok V) => Lib.hid (plan_n p z V hV hn3 hc)
  have HSE := fun V (hV : p.Ok V) => Lib.hid (secret_n p V hV hn3 hc)
  have HCO := fun V (hV : p.Ok V) => Lib.hid (count_n p V hV hn3 hc)
  have HCH := fun V (hV : p.Ok V) => Lib.hid (rcheck_c p V hV hn3)
  have HSM := fun V => Lib.hid (same_c zeroL zeroL V (zeroL_ok V) (zeroL_ok V) ⟨rfl, rfl, rfl, rfl, rfl, rfl, rfl⟩ (Nat.zero_le _) (Nat.zero_le _))
  obtain ⟨E, hE⟩ : ∃ E, chkE p.its = E := ⟨_, rfl⟩
  rw [hE] at HPL HSE HCO HCH hc
  have hc1 : (E == 0) = false := by simpa using hc
  have hc2 : (E != 0) = true := by simpa using hc
  clear h hf hn hb0 hp0 hT hE hc hmx hal hsm hsz hnw
  have hzv : zeroL.v = .agg #[.int .u32 0, .int .u8 0, .int .u8 0, .slice none 0 0, .slice none 0 0, .slice none 0 0, .slice none 0 0] := rfl
  rw [hzv] at HSM
  unfold zeroP at HPL
  unfold Pl.v at HG HPL HSE HCO HCH ⊢
  unfold Pl.cs at HG HPL HSE HCO HCH hW0 ⊢
  clear hzv
  go_enter Tryd.func4, Tryd.ntmps4
  go_wp2_with fail
  refine (HA.out).mono ?_
  rintro e w1 ⟨rfl, hb1⟩
  have hp1 := HP.out.but (But.of_below (S := []) hb1) List.not_mem_nil
  have p0 : w1.cell? ⟨w.heap.size, 0, none⟩ = some (.int .u32 p.a1) := hp1.cell rfl
  have p1 : w1.cell? ⟨w.heap.size, 1, none⟩ = some (.int .u8 p.a2) := hp1.cell rfl
  have p2 : w1.cell? ⟨w.heap.size, 2, none⟩ = some (.int .u8 p.a3) := hp1.cell rfl
  have p3 : w1.cell? ⟨w.heap.size, 3, none⟩ = some (.slice p.B p.its.length p.cap) := hp1.cell rfl
  have p4 : w1.cell? ⟨w.heap.size, 4, none⟩ = some (.slice p.ws.A p.ws.l.length p.ws.cap) := hp1.cell rfl
  have p5 : w1.cell? ⟨w.heap.size, 5, none⟩ = some (.slice p.gs.A p.gs.l.length p.gs.cap) := hp1.cell rfl
  have p6 : w1.cell? ⟨w.heap.size, 6, none⟩ = some (.slice p.ss.A p.ss.l.length p.ss.cap) := hp1.cell rfl
  have HG1 := Lib.hid (HG.out w1 (HOK.out.below hb1))
  have HB1 := Lib.hid hb1
  clear hb1 hp1 hW0
  go_wp2_with fail
  refine (HG1.out).mono ?_
  rintro e w2 ⟨rfl, hb2⟩
  clear p0 p1 p2 p3 p4 p5 p6
  have HB2 := Lib.hid (HB1.out.trans (hb2.mono HB1.out.size))
  have hp2 := HP.out.but (But.of_below (S := []) HB2.out) List.not_mem_nil
  have p0 : w2.cell? ⟨w.heap.size, 0, none⟩ = some (.int .u32 p.a1) := hp2.cell rfl
  have p1 : w2.cell? ⟨w.heap.size, 1, none⟩ = some (.int .u8 p.a2) := hp2.cell rfl
  have p2 : w2.cell? ⟨w.heap.size, 2, none⟩ = some (.int .u8 p.a3) := hp2.cell rfl
  have p3 : w2.cell? ⟨w.heap.size, 3, none⟩ = some (.slice p.B p.its.length p.cap) := hp2.cell rfl
  have p4 : w2.cell? ⟨w.heap.size, 4, none⟩ = some (.slice p.ws.A p.ws.l.length p.ws.cap) := hp2.cell rfl
  have p5 : w2.cell? ⟨w.heap.size, 5, none⟩ = some (.slice p.gs.A p.gs.l.length p.gs.cap) := hp2.cell rfl
  have p6 : w2.cell? ⟨w.heap.size, 6, none⟩ = some (.slice p.ss.A p.ss.l.length p.ss.cap) := hp2.cell rfl
  have HPL2 := HPL w2 (HOK.out.below HB2.out)
  clear hb2 hp2
  go_wp2_with fail
  refine (HPL2.out).mono ?_
  rintro e w3 ⟨rfl, hb3⟩
  clear p0 p1 p2 p3 p4 p5 p6
  go_upto_region 4 with fail
  obtain ⟨w3', hw3⟩ : ∃ w3', w3.alloc (.cells #[.int .u32 0, .int .u8 0, .int .u8 0, .slice none 0 0, .slice none 0 0, .slice none 0 0, .slice none 0 0] 35) = w3' := ⟨_, rfl⟩
  have hb3' : Below w3.heap.size w3 w3' := by rw [← hw3]; exact (Below.refl _ _).alloc (Nat.le_refl _) _
  have hq3 : Blk w3' w3.heap.size #[.int .u32 0, .int .u8 0, .int .u8 0, .slice none 0 0, .slice none 0 0, .slice none 0 0, .slice none 0 0] 35 := by rw [← hw3]; exact Blk.new _ _ _
  have HB3 := Lib.hid ((HB2.out.trans (hb3.mono HB2.out.size)).trans (hb3'.mono (HB2.out.trans (hb3.mono HB2.out.size)).size))
  have HQ3 := Lib.hid hq3
  have hp3 := HP.out.but (But.of_below (S := []) HB3.out) List.not_mem_nil
  have p0 : w3'.cell? ⟨w.heap.size, 0, none⟩ = some (.int .u32 p.a1) := hp3.cell rfl
  have p1 : w3'.cell? ⟨w.heap.size, 1, none⟩ = some (.int .u8 p.a2) := hp3.cell rfl
  have p2 : w3'.cell? ⟨w.heap.size, 2, none⟩ = some (.int .u8 p.a3) := hp3.cell rfl
  have p3 : w3'.cell? ⟨w.heap.size, 3, none⟩ = some (.slice p.B p.its.length p.cap) := hp3.cell rfl
  have p4 : w3'.cell? ⟨w.heap.size, 4, none⟩ = some (.slice p.ws.A p.ws.l.length p.ws.cap) := hp3.cell rfl
  have p5 : w3'.cell? ⟨w.heap.size, 5, none⟩ = some (.slice p.gs.A p.gs.l.length p.gs.cap) := hp3.cell rfl
  have p6 : w3'.cell? ⟨w.heap.size, 6, none⟩ = some (.slice p.ss.A p.ss.l.length p.ss.cap) := hp3.cell rfl
  have HSE3 := HSE w3' (HOK.out.below HB3.out)
  rw [hw3]
  clear hw3 hb3 hp3 hb3' hq3
  go_wp2_with fail
  have HC3 : Hid (Below w3'.heap.size w3' w3') := Below.refl _ _
  refine (HSE3.out).mono ?_
  rintro e w4 ⟨rfl, hb4⟩
  clear p0 p1 p2 p3 p4 p5 p6
  have HB4 := Lib.hid (HB3.out.trans (hb4.mono HB3.out.size))
  have HC4 := Lib.hid (HC3.out.trans (hb4.mono HC3.out.size))
  have hp4 := HP.out.but (But.of_below (S := []) HB4.out) List.not_mem_nil
  have p0 : w4.cell? ⟨w.heap.size, 0, none⟩ = some (.int .u32 p.a1) := hp4.cell rfl
  have p1 : w4.cell? ⟨w.heap.size, 1, none⟩ = some (.int .u8 p.a2) := hp4.cell rfl
  have p2 : w4.cell? ⟨w.heap.size, 2, none⟩ = some (.int .u8 p.a3) := hp4.cell rfl
  have p3 : w4.cell? ⟨w.heap.size, 3, none⟩ = some (.slice p.B p.its.length p.cap) := hp4.cell rfl
  have p4 : w4.cell? ⟨w.heap.size, 4, none⟩ = some (.slice p.ws.A p.ws.l.length p.ws.cap) := hp4.cell rfl
  have p5 : w4.cell? ⟨w.heap.size, 5, none⟩ = some (.slice p.gs.A p.gs.l.length p.gs.cap) := hp4.cell rfl
  have p6 : w4.cell? ⟨w.heap.size, 6, none⟩ = some (.slice p.ss.A p.ss.l.length p.ss.cap) := hp4.cell rfl
  have HCO4 := HCO w4 (HOK.out.below HB4.out)
  clear hb4 hp4
  go_wp2_with fail
  refine (HCO4.out).mono ?_
  rintro e w5 ⟨rfl, hb5⟩
  clear p0 p1 p2 p3 p4 p5 p6
  have HB5 := Lib.hid (HB4.out.trans (hb5.mono HB4.out.size))
  have HC5 := Lib.hid (HC4.out.trans (hb5.mono HC4.out.size))
  have hp5 := HP.out.but (But.of_below (S := []) HB5.out) List.not_mem_nil
  have p0 : w5.cell? ⟨w.heap.size, 0, none⟩ = some (.int .u32 p.a1) := hp5.cell rfl
  have p1 : w5.cell? ⟨w.heap.size, 1, none⟩ = some (.int .u8 p.a2) := hp5.cell rfl
  have p2 : w5.cell? ⟨w.heap.size, 2, none⟩ = some (.int .u8 p.a3) := hp5.cell rfl
  have p3 : w5.cell? ⟨w.heap.size, 3, none⟩ = some (.slice p.B p.its.length p.cap) := hp5.cell rfl
  have p4 : w5.cell? ⟨w.heap.size, 4, none⟩ = some (.slice p.ws.A p.ws.l.length p.ws.cap) := hp5.cell rfl
  have p5 : w5.cell? ⟨w.heap.size, 5, none⟩ = some (.slice p.gs.A p.gs.l.length p.gs.cap) := hp5.cell rfl
  have p6 : w5.cell? ⟨w.heap.size, 6, none⟩ = some (.slice p.ss.A p.ss.l.length p.ss.cap) := hp5.cell rfl
  have HCH5 := HCH w5 (HOK.out.below HB5.out)
  clear hb5 hp5
  go_wp2_with fail
  refine (HCH5.out).mono ?_
  rintro e w6 ⟨rfl, hb6⟩
  clear p0 p1 p2 p3 p4 p5 p6
  have HB6 := Lib.hid (HB5.out.trans (hb6.mono HB5.out.size))
  have HC6 := Lib.hid (HC5.out.trans (hb6.mono HC5.out.size))
  have hp6 := HP.out.but (But.of_below (S := []) HB6.out) List.not_mem_nil
  have p0 : w6.cell? ⟨w.heap.size, 0, none⟩ = some (.int .u32 p.a1) := hp6.cell rfl
  have p1 : w6.cell? ⟨w.heap.size, 1, none⟩ = some (.int .u8 p.a2) := hp6.cell rfl
  have p2 : w6.cell? ⟨w.heap.size, 2, none⟩ = some (.int .u8 p.a3) := hp6.cell rfl
  have p3 : w6.cell? ⟨w.heap.size, 3, none⟩ = some (.slice p.B p.its.length p.cap) := hp6.cell rfl
  have p4 : w6.cell? ⟨w.heap.size, 4, none⟩ = some (.slice p.ws.A p.ws.l.length p.ws.cap) := hp6.cell rfl
  have p5 : w6.cell? ⟨w.heap.size, 5, none⟩ = some (.slice p.gs.A p.gs.l.length p.gs.cap) := hp6.cell rfl
  have p6 : w6.cell? ⟨w.heap.size, 6, none⟩ = some (.slice p.ss.A p.ss.l.length p.ss.cap) := hp6.cell rfl
  have hq6 := HQ3.out.but (But.of_below (S := []) HC6.out) List.not_mem_nil
  have y0 := hq6.cell (j := 0) rfl
  have y1 := hq6.cell (j := 1) rfl
  have y2 := hq6.cell (j := 2) rfl
  have y3 := hq6.cell (j := 3) rfl
  have y4 := hq6.cell (j := 4) rfl
  have y5 := hq6.cell (j := 5) rfl
  have y6 := hq6.cell (j := 6) rfl
  clear hb6 hp6 hq6
  go_wp2_with fail
  refine ((HSM _).out).mono ?_
  rintro e w7 ⟨rfl, hb7⟩
  have HB7 := Lib.hid (HB6.out.trans (hb7.mono HB6.out.size))
  clear hb7 y0 y1 y2 y3 y4 y5 y6 p0 p1 p2 p3 p4 p5 p6
  go_wp2_with fail
  go_ret
  exact ⟨rfl, HB0.out.trans (HB7.out.mono HB0.out.size)⟩

set_option maxRecDepth 200000 in
set_option maxHeartbeats 4000000 in
theorem walk_ok (p : Pl) (z : Int) (w : World) (hT : Tabs w) (h : p.Ok w) (hf : p.Fits) (hn : p.its.length ≤ 300 ∧ p.sz ≤ 4000) (hc : chkE p.its = 0) :
    Calls Tryd.prog 4 #[p.v, .int .i64 z] w fun e w' => e = .returned (.bool true) ∧ Below w.heap.size w w' := by
  obtain ⟨W0, hW0⟩ : ∃ W0, w.alloc (.cells p.cs 35) = W0 := ⟨_, rfl⟩
  have hb0 : Below w.heap.size w W0 := by rw [← hW0]; exact (Below.refl _ w).alloc (Nat.le_refl _) _
  have hp0 : Blk W0 w.heap.size p.cs 35 := by rw [← hW0]; exact Blk.new _ _ _
  have hs0 : W0.heap.size = w.heap.size + 1 := by rw [← hW0]; simp
  have HA := Lib.hid (alive_c W0 (hT.below hb0))
  have HT0 := Lib.hid (hT.below hb0)
  have HOK := Lib.hid (h.below hb0)
  have HP := Lib.hid hp0
  have HB0 := Lib.hid hb0
  obtain ⟨hn3, hnw, hmx, hal, hsm⟩ := small_facts hn
  have hsz := hn.2
  have HG : Hid (∀ V, p.Ok V → Calls Tryd.prog 13 #[p.v] V fun e w' => e = .returned (.int .i64 0) ∧ Below V.heap.size V w') := fun V hV => great_less p V hV hf hn3 0 (.inl ⟨hsz, rfl⟩)
  have HPL := fun V (hV : p.Ok V) (hTV : Tabs V) => Lib.hid (plan_p p z V hV hn3 hnw hmx hal hc hTV)
  have HSE := fun V (hV : p.Ok V) (hTV : Tabs V) => Lib.hid (secret_p p V hV hn3 hmx hal hc hTV)
  have HCO := fun V (hV : p.Ok V) (hTV : Tabs V) => Lib.hid (count_p p V hV hn3 hmx hal hc hTV)
  have HCK := fun V (hV : p.Ok V) => Lib.hid (rcheck_c p V hV hn3)
  have HCH := fun V (hV : p.Ok V) => Lib.hid (rchars_c p V hV hn3 hmx hal)
  have HRP := fun V (hV : p.Ok V) => Lib.hid (rplan_p p z V hV hn3 hmx hal)
  rw [hc] at HCK
  obtain ⟨L, hL⟩ : ∃ L, secE (allE p.its) = L := ⟨_, rfl⟩
  rw [hL] at HSE HCO HCH
  obtain ⟨m, hm⟩ : ∃ m, L.length = m := ⟨_, rfl⟩
  have hm4 : m ≤ 4000 := by have := secE_len (allE p.its); rw [hL, hm] at this; omega
  have hchl : (chE L).length = m := by rw [chE_len]; exact hm
  have hxs : (L.map fun x => Value.int .i64 x.2) = (chE L).map fun i => .int .i64 i := by unfold chE; rw [List.map_map]; rfl
  rw [hm, hxs] at HSE
  rw [hm] at HCO
  have HCL := Lib.hid hchl
  have HSM : ∀ q q' V, q.Ok V → q'.Ok V → NewP p z q → NewP p z q' → Hid (Calls Tryd.prog 18 #[q.v, q'.v] V fun e w' => e = .returned (.bool true) ∧ Below V.heap.size V w') := fun q q' V hq hq' h1 h2 => same_c q q' V hq hq' (newP_same h1 h2) (by rw [newP_len h1]; exact hn3) (by rw [h1.ws, h1.gs, h1.ss]; exact hsm)
  have HSMH := Lib.hid HSM
  clear h hf hn hb0 hp0 hT hc hmx hal hsm hsz hnw hL hm hchl hxs HSM
  unfold Pl.v at HG HPL HSE HCO HCK HCH HRP HSMH ⊢
  unfold Pl.cs at HG HPL HSE HCO HCK HCH HRP HSMH hW0 ⊢
  go_enter Tryd.func4, Tryd.ntmps4
  go_wp2_with fail
  refine (HA.out).mono ?_
  rintro e w1 ⟨rfl, hb1⟩
  have hp1 := HP.out.but (But.of_below (S := []) hb1) List.not_mem_nil
  have p0 : w1.cell? ⟨w.heap.size, 0, none⟩ = some (.int .u32 p.a1) := hp1.cell rfl
  have p1 : w1.cell? ⟨w.heap.size, 1, none⟩ = some (.int .u8 p.a2) := hp1.cell rfl
  have p2 : w1.cell? ⟨w.heap.size, 2, none⟩ = some (.int .u8 p.a3) := hp1.cell rfl
  have p3 : w1.cell? ⟨w.heap.size, 3, none⟩ = some (.slice p.B p.its.length p.cap) := hp1.cell rfl
  have p4 : w1.cell? ⟨w.heap.size, 4, none⟩ = some (.slice p.ws.A p.ws.l.length p.ws.cap) := hp1.cell rfl
  have p5 : w1.cell? ⟨w.heap.size, 5, none⟩ = some (.slice p.gs.A p.gs.l.length p.gs.cap) := hp1.cell rfl
  have p6 : w1.cell? ⟨w.heap.size, 6, none⟩ = some (.slice p.ss.A p.ss.l.length p.ss.cap) := hp1.cell rfl
  have HG1 := Lib.hid (HG.out w1 (HOK.out.below hb1))
  have HB1 := Lib.hid hb1
  clear hb1 hp1 hW0
  go_wp2_with fail
  refine (HG1.out).mono ?_
  rintro e w2 ⟨rfl, hb2⟩
  clear p0 p1 p2 p3 p4 p5 p6
  have HB2 := Lib.hid (HB1.out.trans (hb2.mono HB1.out.size))
  have hp2 := HP.out.but (But.of_below (S := []) HB2.out) List.not_mem_nil
  have p0 : w2.cell? ⟨w.heap.size, 0, none⟩ = some (.int .u32 p.a1) := hp2.cell rfl
  have p1 : w2.cell? ⟨w.heap.size, 1, none⟩ = some (.int .u8 p.a2) := hp2.cell rfl
  have p2 : w2.cell? ⟨w.heap.size, 2, none⟩ = some (.int .u8 p.a3) := hp2.cell rfl
  have p3 : w2.cell? ⟨w.heap.size, 3, none⟩ = some (.slice p.B p.its.length p.cap) := hp2.cell rfl
  have p4 : w2.cell? ⟨w.heap.size, 4, none⟩ = some (.slice p.ws.A p.ws.l.length p.ws.cap) := hp2.cell rfl
  have p5 : w2.cell? ⟨w.heap.size, 5, none⟩ = some (.slice p.gs.A p.gs.l.length p.gs.cap) := hp2.cell rfl
  have p6 : w2.cell? ⟨w.heap.size, 6, none⟩ = some (.slice p.ss.A p.ss.l.length p.ss.cap) := hp2.cell rfl
  have HPL2 := HPL w2 (HOK.out.below HB2.out) (HT0.out.below HB2.out)
  clear hb2 hp2
  go_wp2_with fail
  refine (HPL2.out).mono ?_
  rintro e w3 ⟨q, rfl, hqok, hnp, hb3⟩
  clear p0 p1 p2 p3 p4 p5 p6
  have HNP := Lib.hid hnp
  go_upto_region 4 with fail
  obtain ⟨w3', hw3⟩ : ∃ w3', w3.alloc (.cells #[.int .u32 q.a1, .int .u8 q.a2, .int .u8 q.a3, .slice q.B q.its.length q.cap, .slice q.ws.A q.ws.l.length q.ws.cap, .slice q.gs.A q.gs.l.length q.gs.cap, .slice q.ss.A q.ss.l.length q.ss.cap] 35) = w3' := ⟨_, rfl⟩
  have hb3' : Below w3.heap.size w3 w3' := by rw [← hw3]; exact (Below.refl _ _).alloc (Nat.le_refl _) _
  have hq3 : Blk w3' w3.heap.size #[.int .u32 q.a1, .int .u8 q.a2, .int .u8 q.a3, .slice q.B q.its.length q.cap, .slice q.ws.A q.ws.l.length q.ws.cap, .slice q.gs.A q.gs.l.length q.gs.cap, .slice q.ss.A q.ss.l.length q.ss.cap] 35 := by rw [← hw3]; exact Blk.new _ _ _
  have HB3 := Lib.hid ((HB2.out.trans (hb3.mono HB2.out.size)).trans (hb3'.mono (HB2.out.trans (hb3.mono HB2.out.size)).size))
  have HQ3 := Lib.hid hq3
  have HQOK := Lib.hid (hqok.below hb3')
  have hp3 := HP.out.but (But.of_below (S := []) HB3.out) List.not_mem_nil
  have p0 : w3'.cell? ⟨w.heap.size, 0, none⟩ = some (.int .u32 p.a1) := hp3.cell rfl
  have p1 : w3'.cell? ⟨w.heap.size, 1, none⟩ = some (.int .u8 p.a2) := hp3.cell rfl
  have p2 : w3'.cell? ⟨w.heap.size, 2, none⟩ = some (.int .u8 p.a3) := hp3.cell rfl
  have p3 : w3'.cell? ⟨w.heap.size, 3, none⟩ = some (.slice p.B p.its.length p.cap) := hp3.cell rfl
  have p4 : w3'.cell? ⟨w.heap.size, 4, none⟩ = some (.slice p.ws.A p.ws.l.length p.ws.cap) := hp3.cell rfl
  have p5 : w3'.cell? ⟨w.heap.size, 5, none⟩ = some (.slice p.gs.A p.gs.l.length p.gs.cap) := hp3.cell rfl
  have p6 : w3'.cell? ⟨w.heap.size, 6, none⟩ = some (.slice p.ss.A p.ss.l.length p.ss.cap) := hp3.cell rfl
  have HSE3 := HSE w3' (HOK.out.below HB3.out) (HT0.out.below HB3.out)
  rw [hw3]
  clear hw3 hb3 hp3 hb3' hq3 hqok hnp
  go_wp2_with fail
  have HC3 : Hid (Below w3'.heap.size w3' w3') := Below.refl _ _
  refine (HSE3.out).mono ?_
  rintro e w4 ⟨v4, rfl, ho4, hb4⟩
  clear p0 p1 p2 p3 p4 p5 p6
  have HB4 := Lib.hid (HB3.out.trans (hb4.mono HB3.out.size))
  have HC4 := Lib.hid (HC3.out.trans (hb4.mono HC3.out.size))
  have hp4 := HP.out.but (But.of_below (S := []) HB4.out) List.not_mem_nil
  have p0 : w4.cell? ⟨w.heap.size, 0, none⟩ = some (.int .u32 p.a1) := hp4.cell rfl
  have p1 : w4.cell? ⟨w.heap.size, 1, none⟩ = some (.int .u8 p.a2) := hp4.cell rfl
  have p2 : w4.cell? ⟨w.heap.size, 2, none⟩ = some (.int .u8 p.a3) := hp4.cell rfl
  have p3 : w4.cell? ⟨w.heap.size, 3, none⟩ = some (.slice p.B p.its.length p.cap) := hp4.cell rfl
  have p4 : w4.cell? ⟨w.heap.size, 4, none⟩ = some (.slice p.ws.A p.ws.l.length p.ws.cap) := hp4.cell rfl
  have p5 : w4.cell? ⟨w.heap.size, 5, none⟩ = some (.slice p.gs.A p.gs.l.length p.gs.cap) := hp4.cell rfl
  have p6 : w4.cell? ⟨w.heap.size, 6, none⟩ = some (.slice p.ss.A p.ss.l.length p.ss.cap) := hp4.cell rfl
  have HO4 : Hid (OwnI w4 w3'.heap.size v4 (chE L)) := by
    unfold Hid OwnI
    rw [HCL.out]
    exact ho4
  obtain ⟨A4, c4, rfl⟩ := ownsRow_form ho4
  have HCO4 := HCO w4 (HOK.out.below HB4.out) (HT0.out.below HB4.out)
  clear hp4 ho4
  go_wp2_with fail
  refine (HCO4.out).mono ?_
  rintro e w5 ⟨rfl, hb5⟩
  clear p0 p1 p2 p3 p4 p5 p6
  have HB5 := Lib.hid (HB4.out.trans (hb5.mono HB4.out.size))
  have HC5 := Lib.hid (HC4.out.trans (hb5.mono HC4.out.size))
  have hp5 := HP.out.but (But.of_below (S := []) HB5.out) List.not_mem_nil
  have p0 : w5.cell? ⟨w.heap.size, 0, none⟩ = some (.int .u32 p.a1) := hp5.cell rfl
  have p1 : w5.cell? ⟨w.heap.size, 1, none⟩ = some (.int .u8 p.a2) := hp5.cell rfl
  have p2 : w5.cell? ⟨w.heap.size, 2, none⟩ = some (.int .u8 p.a3) := hp5.cell rfl
  have p3 : w5.cell? ⟨w.heap.size, 3, none⟩ = some (.slice p.B p.its.length p.cap) := hp5.cell rfl
  have p4 : w5.cell? ⟨w.heap.size, 4, none⟩ = some (.slice p.ws.A p.ws.l.length p.ws.cap) := hp5.cell rfl
  have p5 : w5.cell? ⟨w.heap.size, 5, none⟩ = some (.slice p.gs.A p.gs.l.length p.gs.cap) := hp5.cell rfl
  have p6 : w5.cell? ⟨w.heap.size, 6, none⟩ = some (.slice p.ss.A p.ss.l.length p.ss.cap) := hp5.cell rfl
  have HO5 := Lib.hid (HO4.out.below hb5)
  have HCK5 := HCK w5 (HOK.out.below HB5.out)
  clear hb5 hp5 hb4
  go_wp2_with fail
  refine (HCK5.out).mono ?_
  rintro e w6 ⟨rfl, hb6⟩
  clear p0 p1 p2 p3 p4 p5 p6
  have HB6 := Lib.hid (HB5.out.trans (hb6.mono HB5.out.size))
  have HC6 := Lib.hid (HC5.out.trans (hb6.mono HC5.out.size))
  have hp6 := HP.out.but (But.of_below (S := []) HB6.out) List.not_mem_nil
  have p0 : w6.cell? ⟨w.heap.size, 0, none⟩ = some (.int .u32 p.a1) := hp6.cell rfl
  have p1 : w6.cell? ⟨w.heap.size, 1, none⟩ = some (.int .u8 p.a2) := hp6.cell rfl
  have p2 : w6.cell? ⟨w.heap.size, 2, none⟩ = some (.int .u8 p.a3) := hp6.cell rfl
  have p3 : w6.cell? ⟨w.heap.size, 3, none⟩ = some (.slice p.B p.its.length p.cap) := hp6.cell rfl
  have p4 : w6.cell? ⟨w.heap.size, 4, none⟩ = some (.slice p.ws.A p.ws.l.length p.ws.cap) := hp6.cell rfl
  have p5 : w6.cell? ⟨w.heap.size, 5, none⟩ = some (.slice p.gs.A p.gs.l.length p.gs.cap) := hp6.cell rfl
  have p6 : w6.cell? ⟨w.heap.size, 6, none⟩ = some (.slice p.ss.A p.ss.l.length p.ss.cap) := hp6.cell rfl
  have HO6 := Lib.hid (HO5.out.below hb6)
  have HCH6 := HCH w6 (HOK.out.below HB6.out)
  clear hb6 hp6
  go_wp2_with fail
  refine (HCH6.out).mono ?_
  rintro e w7 ⟨v7, rfl, ho7, hb7⟩
  clear p0 p1 p2 p3 p4 p5 p6
  have HB7 := Lib.hid (HB6.out.trans (hb7.mono HB6.out.size))
  have HC7 := Lib.hid (HC6.out.trans (hb7.mono HC6.out.size))
  have hp7 := HP.out.but (But.of_below (S := []) HB7.out) List.not_mem_nil
  have p0 : w7.cell? ⟨w.heap.size, 0, none⟩ = some (.int .u32 p.a1) := hp7.cell rfl
  have p1 : w7.cell? ⟨w.heap.size, 1, none⟩ = some (.int .u8 p.a2) := hp7.cell rfl
  have p2 : w7.cell? ⟨w.heap.size, 2, none⟩ = some (.int .u8 p.a3) := hp7.cell rfl
  have p3 : w7.cell? ⟨w.heap.size, 3, none⟩ = some (.slice p.B p.its.length p.cap) := hp7.cell rfl
  have p4 : w7.cell? ⟨w.heap.size, 4, none⟩ = some (.slice p.ws.A p.ws.l.length p.ws.cap) := hp7.cell rfl
  have p5 : w7.cell? ⟨w.heap.size, 5, none⟩ = some (.slice p.gs.A p.gs.l.length p.gs.cap) := hp7.cell rfl
  have p6 : w7.cell? ⟨w.heap.size, 6, none⟩ = some (.slice p.ss.A p.ss.l.length p.ss.cap) := hp7.cell rfl
  obtain ⟨A7, c7, rfl, _⟩ := ho7.form
  rw [HCL.out] at ho7 ⊢
  have HO7 := Lib.hid ho7
  have HO7' := Lib.hid (HO6.out.below hb7)
  clear hb7 hp7 ho7
  clear p0 p1 p2 p3 p4 p5 p6
  go_upto_region 10 with fail
  have hpb := HP.out.but (But.of_below (S := []) HB7.out) List.not_mem_nil
  have hqb := HQ3.out.but (But.of_below (S := []) HC7.out) List.not_mem_nil
  have HPB := Lib.hid hpb
  have HQB := Lib.hid hqb
  clear hpb hqb
  have HS : Hid (∀ V, Hid (Below w7.heap.size w7 V) → Hid (Below w7.heap.size w7 V) ∧ V.cell? ⟨w.heap.size, 0, none⟩ = some (.int .u32 p.a1) ∧ V.cell? ⟨w.heap.size, 1, none⟩ = some (.int .u8 p.a2) ∧ V.cell? ⟨w.heap.size, 2, none⟩ = some (.int .u8 p.a3) ∧ V.cell? ⟨w.heap.size, 3, none⟩ = some (.slice p.B p.its.length p.cap) ∧ V.cell? ⟨w.heap.size, 4, none⟩ = some (.slice p.ws.A p.ws.l.length p.ws.cap) ∧ V.cell? ⟨w.heap.size, 5, none⟩ = some (.slice p.gs.A p.gs.l.length p.gs.cap) ∧ V.cell? ⟨w.heap.size, 6, none⟩ = some (.slice p.ss.A p.ss.l.length p.ss.cap) ∧ V.cell? ⟨w3.heap.size, 0, none⟩ = some (.int .u32 q.a1) ∧ V.cell? ⟨w3.heap.size, 1, none⟩ = some (.int .u8 q.a2) ∧ V.cell? ⟨w3.heap.size, 2, none⟩ = some (.int .u8 q.a3) ∧ V.cell? ⟨w3.heap.size, 3, none⟩ = some (.slice q.B q.its.length q.cap) ∧ V.cell? ⟨w3.heap.size, 4, none⟩ = some (.slice q.ws.A q.ws.l.length q.ws.cap) ∧ V.cell? ⟨w3.heap.size, 5, none⟩ = some (.slice q.gs.A q.gs.l.length q.gs.cap) ∧ V.cell? ⟨w3.heap.size, 6, none⟩ = some (.slice q.ss.A q.ss.l.length q.ss.cap)) := fun V hV => by
    have hb := HPB.out.but (But.of_below (S := []) hV.out) List.not_mem_nil
    have hb' := HQB.out.but (But.of_below (S := []) hV.out) List.not_mem_nil
    exact ⟨hV, hb.cell rfl, hb.cell rfl, hb.cell rfl, hb.cell rfl, hb.cell rfl, hb.cell rfl, hb.cell rfl, hb'.cell rfl, hb'.cell rfl, hb'.cell rfl, hb'.cell rfl, hb'.cell rfl, hb'.cell rfl, hb'.cell rfl⟩
  have HRP7 : Hid (∀ V, Hid (Below w7.heap.size w7 V) → Calls Tryd.prog 20 #[.agg #[.int .u32 p.a1, .int .u8 p.a2, .int .u8 p.a3, .slice p.B p.its.length p.cap, .slice p.ws.A p.ws.l.length p.ws.cap, .slice p.gs.A p.gs.l.length p.gs.cap, .slice p.ss.A p.ss.l.length p.ss.cap], .int .i64 z] V fun e w' => ∃ q' : Pl, e = .returned (.agg #[.int .u32 q'.a1, .int .u8 q'.a2, .int .u8 q'.a3, .slice q'.B q'.its.length q'.cap, .slice q'.ws.A q'.ws.l.length q'.ws.cap, .slice q'.gs.A q'.gs.l.length q'.gs.cap, .slice q'.ss.A q'.ss.l.length q'.ss.cap]) ∧ Hid (q'.Ok w') ∧ Hid (NewP p z q') ∧ Hid (Below w7.heap.size w7 w')) := fun V hV => ((HRP V (HOK.out.below (HB7.out.trans (hV.out.mono HB7.out.size)))).out).mono fun e w' ⟨q', h1, h2, h3, h4⟩ => ⟨q', h1, h2, h3, hV.out.trans (h4.mono hV.out.size)⟩
  have HSM7 : Hid (∀ (q' : Pl) V, Hid (Below w7.heap.size w7 V) → Hid (q'.Ok V) → Hid (NewP p z q') → Calls Tryd.prog 18 #[.agg #[.int .u32 q.a1, .int .u8 q.a2, .int .u8 q.a3, .slice q.B q.its.length q.cap, .slice q.ws.A q.ws.l.length q.ws.cap, .slice q.gs.A q.gs.l.length q.gs.cap, .slice q.ss.A q.ss.l.length q.ss.cap], .agg #[.int .u32 q'.a1, .int .u8 q'.a2, .int .u8 q'.a3, .slice q'.B q'.its.length q'.cap, .slice q'.ws.A q'.ws.l.length q'.ws.cap, .slice q'.gs.A q'.gs.l.length q'.gs.cap, .slice q'.ss.A q'.ss.l.length q'.ss.cap]] V fun e w' => e = .returned (.bool true) ∧ Hid (Below w7.heap.size w7 w')) := fun q' V hV h1 h2 => ((HSMH.out q q' V (HQOK.out.below (HC7.out.trans (hV.out.mono HC7.out.size))) h1.out HNP.out h2.out).out).mono fun e w' ⟨h3, h4⟩ => ⟨h3, hV.out.trans (h4.mono hV.out.size)⟩
  have cB0 : Hid (Below w7.heap.size w7 w7) := Below.refl _ _
  have c0 := HS.out w7 cB0
  obtain ⟨-, s0, s1, s2, s3, s4, s5, s6, u0, u1, u2, u3, u4, u5, u6⟩ := c0
  go_region_held3 (fun V => V.cell? ⟨w.heap.size, 0, none⟩ = some (.int .u32 p.a1) ∧ V.cell? ⟨w.heap.size, 1, none⟩ = some (.int .u8 p.a2) ∧ V.cell? ⟨w.heap.size, 2, none⟩ = some (.int .u8 p.a3) ∧ V.cell? ⟨w.heap.size, 3, none⟩ = some (.slice p.B p.its.length p.cap) ∧ V.cell? ⟨w.heap.size, 4, none⟩ = some (.slice p.ws.A p.ws.l.length p.ws.cap) ∧ V.cell? ⟨w.heap.size, 5, none⟩ = some (.slice p.gs.A p.gs.l.length p.gs.cap) ∧ V.cell? ⟨w.heap.size, 6, none⟩ = some (.slice p.ss.A p.ss.l.length p.ss.cap) ∧ V.cell? ⟨w3.heap.size, 0, none⟩ = some (.int .u32 q.a1) ∧ V.cell? ⟨w3.heap.size, 1, none⟩ = some (.int .u8 q.a2) ∧ V.cell? ⟨w3.heap.size, 2, none⟩ = some (.int .u8 q.a3) ∧ V.cell? ⟨w3.heap.size, 3, none⟩ = some (.slice q.B q.its.length q.cap) ∧ V.cell? ⟨w3.heap.size, 4, none⟩ = some (.slice q.ws.A q.ws.l.length q.ws.cap) ∧ V.cell? ⟨w3.heap.size, 5, none⟩ = some (.slice q.gs.A q.gs.l.length q.gs.cap) ∧ V.cell? ⟨w3.heap.size, 6, none⟩ = some (.slice q.ss.A q.ss.l.length q.ss.cap))
    (first | (with_reducible assumption) | go_keep)
    (first
    | (go_at_call 20; (with_reducible refine (HRP7.out _ ?_).mono ?_); (first | (with_reducible exact hb_drew cB0) | (with_reducible assumption)); rintro e v1 ⟨q', rfl, HQ', HN', hbv1⟩; obtain ⟨-, t0, t1, t2, t3, t4, t5, t6, x0, x1, x2, x3, x4, x5, x6⟩ := HS.out _ hbv1)
    | (go_at_call 18; (with_reducible refine (HSM7.out q' _ ?_ ?_ ?_).mono ?_); (with_reducible exact hbv1); (with_reducible exact HQ'); (with_reducible exact HN'); rintro e v2 ⟨rfl, hbv2⟩; obtain ⟨-, z0, z1, z2, z3, z4, z5, z6, y0, y1, y2, y3, y4, y5, y6⟩ := HS.out _ hbv2))
  have HBF := hbv2
  clear s0 s1 s2 s3 s4 s5 s6 u0 u1 u2 u3 u4 u5 u6 t0 t1 t2 t3 t4 t5 t6 x0 x1 x2 x3 x4 x5 x6 z0 z1 z2 z3 z4 z5 z6 y0 y1 y2 y3 y4 y5 y6
  go_wp2_with fail
  go_loopw [103] (fun i wr => ∃ j : Nat, i = .int .i64 (j : Int) ∧ j ≤ m ∧ Hid (Below w7.heap.size w7 wr)) (fun i _ => m - (RowKit.intOf i).toNat)
  case atStart => exact ⟨0, rfl, Nat.zero_le _, HBF.out⟩
  case round =>
    obtain ⟨j, rfl, hj, HB⟩ := hrel
    by_cases hlt : j < m
    · have q1 : (j : Int) < (m : Int) := by omega
      have HLT := Lib.hid hlt
      have hjl : j < (chE L).length := by rw [HCL.out]; exact hlt
      have hne : chE L ≠ [] := by intro e; rw [e] at hjl; simp at hjl
      have r1 := HO7'.out
      have r2 := HO7.out
      rw [← HCL.out] at r1 r2
      obtain ⟨g4, c4', hv4, _, _, k4⟩ := OwnI.row r1 hne
      obtain ⟨g7, c7', hv7, _, _, k7⟩ := OwnI.row r2 hne
      injection hv4 with a1 a2 a3
      injection hv7 with b1 b2 b3
      rw [a1, b1]
      have d4 := (HB.out.cell (p := ⟨g4, j, none⟩) k4.lt).trans (k4.cell hjl)
      have d7 := (HB.out.cell (p := ⟨g7, j, none⟩) k7.lt).trans (k7.cell hjl)
      clear r1 r2 a1 a2 a3 b1 b2 b3 k4 k7 hjl hne
      go_wp2_with fail
      go_quiet (fail)
      go_wp2_with fail
      go_roundw
      case rel => exact ⟨j + 1, by go_num, HLT.out, below_drews HB.out _⟩
      case measure => have := HLT.out; simp [RowKit.intOf]; omega
    · have q1 : ¬ (j : Int) < (m : Int) := by omega
      clear hlt
      go_wp2_with fail
      go_ret
      exact ⟨rfl, HB0.out.trans ((HB7.out.trans (HB.out.mono HB7.out.size)).mono HB0.out.size)⟩

theorem walk (p : Pl) (z : Int) (w : World) (hT : Tabs w) (h : p.Ok w) (hf : p.Fits) (_ : (Lit.int .i64 z).wf = true) :
    Calls Tryd.prog 4 #[p.v, .int .i64 z] w fun e w' => e = .returned (.bool true) ∧ Below w.heap.size w w' := by
  by_cases hn : p.its.length ≤ 300 ∧ p.sz ≤ 4000
  · by_cases hc : chkE p.its = 0
    · exact walk_ok p z w hT h hf hn hc
    · exact walk_bad p z w hT h hf hn hc
  · exact walk_great p z w hT h hf hn

end Go.Proofs.YtbflcikfaoojmaaDoor.TwinPlans

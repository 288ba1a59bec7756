/- A plan that can't be: twin.Secret, Count and Plan. -/
import Derived.Test.YtbflcikfaoojmaaDoorHPlA
import Derived.Test.YtbflcikfaoojmaaDoorHTwB
set_option linter.unusedVariables false
set_option linter.unusedSimpArgs false
namespace Go.Proofs.YtbflcikfaoojmaaDoor.Edit
open Go.RowKit Go.Lib Go.Shelf ChangeShapes Mem Utf UtfP

section
attribute [local go_sem] Oper.semAt_some

set_option maxRecDepth 100000 in
set_option maxHeartbeats 2000000 in
theorem secret_n (p : Pl) (w : World) (h : p.Ok w) (hn : p.its.length ≤ 300) (hc : chkE p.its ≠ 0) : Calls Tryd.prog 15 #[p.v] w fun e w' => e = .returned (.tuple #[.slice none 0 0, .int .i64 (chkE p.its)]) ∧ Below w.heap.size w w' := by
  obtain ⟨W0, hW0⟩ : ∃ W0, w.alloc (.cells p.cs 35) = W0 := ⟨_, rfl⟩
  have hb0 : Below w.heap.size w W0 := by rw [← hW0]; exact (Below.refl _ w).alloc (Nat.le_refl _) _
  have hp0 : Blk W0 w.heap.size p.cs 35 := by rw [← hW0]; exact Blk.new _ _ _
  have hs0 : W0.heap.size = w.heap.size + 1 := by rw [← hW0]; simp
  have HC := Lib.hid (check_c p W0 (h.below hb0) hn)
  obtain ⟨E, hE⟩ : ∃ E, chkE p.its = E := ⟨_, rfl⟩
  rw [hE] at HC hc ⊢
  have hc1 : (E == 0) = false := by simpa using hc
  have hc2 : (E != 0) = true := by simpa using hc
  have p0 := hp0.cell (j := 0) rfl
  have p1 := hp0.cell (j := 1) rfl
  have p2 := hp0.cell (j := 2) rfl
  have p3 := hp0.cell (j := 3) rfl
  have p4 := hp0.cell (j := 4) rfl
  have p5 := hp0.cell (j := 5) rfl
  have p6 := hp0.cell (j := 6) rfl
  have HB0 := Lib.hid hb0
  clear h hp0 hb0 hc hE
  unfold Pl.v at HC ⊢
  unfold Pl.cs at HC hW0 ⊢
  refine (callsIn_wide (n := 3)).1 ?_
  refine callsIn_of_wp_marks Tryd.func15 rfl trivial ?_ rfl
  simp only [Tryd.ntmps15, List.size_toArray, List.length_cons, List.length_nil, Nat.reduceAdd, Nat.reduceSub, Array.replicate_succ, Array.replicate_zero, List.push_toArray, List.append_toArray, List.nil_append, List.cons_append]
  gi_wp2_with fail
  refine ⟨trivial, (callsIn_wide.2 HC.out).mono ?_⟩
  rintro e w2 ⟨rfl, hb2⟩
  have hs2 := hb2.size
  have HB2 := Lib.hid (HB0.out.trans (hb2.mono (by omega)))
  clear p0 p1 p2 p3 p4 p5 p6 hb2
  gi_wp2
  exact ⟨_, results_tmp2 rfl _ _ _, rfl, HB2.out⟩

set_option maxRecDepth 100000 in
set_option maxHeartbeats 1000000 in
theorem count_n (p : Pl) (w : World) (h : p.Ok w) (hn : p.its.length ≤ 300) (hc : chkE p.its ≠ 0) : Calls Tryd.prog 16 #[p.v] w fun e w' => e = .returned (.tuple #[.int .i64 0, .int .i64 (chkE p.its)]) ∧ Below w.heap.size w w' := by
  obtain ⟨W0, hW0⟩ : ∃ W0, w.alloc (.cells p.cs 35) = W0 := ⟨_, rfl⟩
  have hb0 : Below w.heap.size w W0 := by rw [← hW0]; exact (Below.refl _ w).alloc (Nat.le_refl _) _
  have HS := Lib.hid (secret_n p W0 (h.below hb0) hn hc)
  have hs0 : W0.heap.size = w.heap.size + 1 := by rw [← hW0]; simp
  have HB0 := Lib.hid hb0
  have hp0 : Blk W0 w.heap.size p.cs 35 := by rw [← hW0]; exact Blk.new _ _ _
  have p0 : W0.cell? ⟨w.heap.size, 0, none⟩ = some (.int .u32 p.a1) := hp0.cell rfl
  have p1 : W0.cell? ⟨w.heap.size, 1, none⟩ = some (.int .u8 p.a2) := hp0.cell rfl
  have p2 : W0.cell? ⟨w.heap.size, 2, none⟩ = some (.int .u8 p.a3) := hp0.cell rfl
  have p3 : W0.cell? ⟨w.heap.size, 3, none⟩ = some (.slice p.B p.its.length p.cap) := hp0.cell rfl
  have p4 : W0.cell? ⟨w.heap.size, 4, none⟩ = some (.slice p.ws.A p.ws.l.length p.ws.cap) := hp0.cell rfl
  have p5 : W0.cell? ⟨w.heap.size, 5, none⟩ = some (.slice p.gs.A p.gs.l.length p.gs.cap) := hp0.cell rfl
  have p6 : W0.cell? ⟨w.heap.size, 6, none⟩ = some (.slice p.ss.A p.ss.l.length p.ss.cap) := hp0.cell rfl
  obtain ⟨E, hE⟩ : ∃ E, chkE p.its = E := ⟨_, rfl⟩
  rw [hE] at HS ⊢
  clear h hb0 hp0 hc hE
  unfold Pl.v at HS ⊢
  unfold Pl.cs at HS hW0 ⊢
  go_enter Tryd.func16, Tryd.ntmps16
  go_wp2_with fail
  refine (HS.out).mono ?_
  rintro e w1 ⟨rfl, hb1⟩
  have HB1 := Lib.hid (HB0.out.trans (hb1.mono (by omega)))
  clear hb1
  go_wp2
  go_ret2
  exact ⟨rfl, HB1.out⟩

/-- an empty plan -/
def zeroP : Value := .agg #[.int .u32 0, .int .u8 0, .int .u8 0, .slice none 0 0, .slice none 0 0, .slice none 0 0, .slice none 0 0]

set_option maxRecDepth 100000 in
set_option maxHeartbeats 2000000 in
theorem plan_n (p : Pl) (z : Int) (w : World) (h : p.Ok w) (hn : p.its.length ≤ 300) (hc : chkE p.its ≠ 0) : Calls Tryd.prog 14 #[p.v, .int .i64 z] w fun e w' => e = .returned (.tuple #[zeroP, .int .i64 (chkE p.its)]) ∧ Below w.heap.size w w' := by
  obtain ⟨W0, hW0⟩ : ∃ W0, ((w.alloc (.cells p.cs 35)).alloc (.cells #[.int .i64 z] 3)).alloc (.cells #[.int .u32 0, .int .u8 0, .int .u8 0, .slice none 0 0, .slice none 0 0, .slice none 0 0, .slice none 0 0] 35) = W0 := ⟨_, rfl⟩
  have hb0 : Below w.heap.size w W0 := by rw [← hW0]; exact (((Below.refl _ w).alloc (Nat.le_refl _) _).alloc (by simp) _).alloc (by simp; omega) _
  have hs0 : W0.heap.size = w.heap.size + 3 := by rw [← hW0]; simp
  have hp0 : Blk W0 w.heap.size p.cs 35 := by rw [← hW0]; exact ((Blk.new _ _ _).alloc _).alloc _
  have hq0 : Blk W0 (w.heap.size + 2) #[.int .u32 0, .int .u8 0, .int .u8 0, .slice none 0 0, .slice none 0 0, .slice none 0 0, .slice none 0 0] 35 := by
    have := Blk.new ((w.alloc (.cells p.cs 35)).alloc (.cells #[.int .i64 z] 3)) #[.int .u32 0, .int .u8 0, .int .u8 0, .slice none 0 0, .slice none 0 0, .slice none 0 0, .slice none 0 0] 35
    rw [World.size_alloc, World.size_alloc] at this
    rw [← hW0]; exact this
  have HC := Lib.hid (check_c p W0 (h.below hb0) hn)
  obtain ⟨E, hE⟩ : ∃ E, chkE p.its = E := ⟨_, rfl⟩
  rw [hE] at HC hc ⊢
  have hc1 : (E == 0) = false := by simpa using hc
  have hc2 : (E != 0) = true := by simpa using hc
  have p0 : W0.cell? ⟨w.heap.size, 0, none⟩ = some (.int .u32 p.a1) := hp0.cell rfl
  have p1 : W0.cell? ⟨w.heap.size, 1, none⟩ = some (.int .u8 p.a2) := hp0.cell rfl
  have p2 : W0.cell? ⟨w.heap.size, 2, none⟩ = some (.int .u8 p.a3) := hp0.cell rfl
  have p3 : W0.cell? ⟨w.heap.size, 3, none⟩ = some (.slice p.B p.its.length p.cap) := hp0.cell rfl
  have p4 : W0.cell? ⟨w.heap.size, 4, none⟩ = some (.slice p.ws.A p.ws.l.length p.ws.cap) := hp0.cell rfl
  have p5 : W0.cell? ⟨w.heap.size, 5, none⟩ = some (.slice p.gs.A p.gs.l.length p.gs.cap) := hp0.cell rfl
  have p6 : W0.cell? ⟨w.heap.size, 6, none⟩ = some (.slice p.ss.A p.ss.l.length p.ss.cap) := hp0.cell rfl
  have HB0 := Lib.hid hb0
  have HQ0 := Lib.hid hq0
  clear h hp0 hb0 hc hE hq0
  unfold zeroP
  unfold Pl.v at HC ⊢
  unfold Pl.cs at HC hW0 ⊢
  refine (callsIn_wide (n := 3)).1 ?_
  refine callsIn_of_wp_marks Tryd.func14 rfl trivial ?_ rfl
  simp only [Tryd.ntmps14, List.size_toArray, List.length_cons, List.length_nil, Nat.reduceAdd, Nat.reduceSub, Array.replicate_succ, Array.replicate_zero, List.push_toArray, List.append_toArray, List.nil_append, List.cons_append]
  gi_wp2_with fail
  refine ⟨trivial, (callsIn_wide.2 HC.out).mono ?_⟩
  rintro e w2 ⟨rfl, hb2⟩
  have hs2 := hb2.size
  have hq2 := HQ0.out.but (But.of_below (S := []) hb2) (by intro h; cases h)
  have HQ2 := Lib.hid hq2
  have HB2 := Lib.hid (HB0.out.trans (hb2.mono (by omega)))
  have y0 := hq2.cell (j := 0) rfl
  have y1 := hq2.cell (j := 1) rfl
  have y2 := hq2.cell (j := 2) rfl
  have y3 := hq2.cell (j := 3) rfl
  have y4 := hq2.cell (j := 4) rfl
  have y5 := hq2.cell (j := 5) rfl
  have y6 := hq2.cell (j := 6) rfl
  have z0 := hq2.free 0
  have z1 := hq2.free 1
  have z2 := hq2.free 2
  have z3 := hq2.free 3
  have z4 := hq2.free 4
  have z5 := hq2.free 5
  have z6 := hq2.free 6
  clear p0 p1 p2 p3 p4 p5 p6 hb2 hq2
  gi_wp2
  refine ⟨_, results_cell2t rfl _ _ (w.heap.size + 2) 35 _ _ rfl (Blk.set (Blk.set (Blk.set (Blk.set (Blk.set (Blk.set (Blk.set HQ2.out 0 _) 1 _) 2 _) 3 _) 4 _) 5 _) 6 _) Tryd.underlying35 rfl (by kernel_rfl), rfl, ?_⟩
  have hbb : But [w.heap.size + 2] w2 (((((((w2.setCell ⟨w.heap.size + 2, 0, none⟩ (.int .u32 0)).setCell ⟨w.heap.size + 2, 1, none⟩ (.int .u8 0)).setCell ⟨w.heap.size + 2, 2, none⟩ (.int .u8 0)).setCell ⟨w.heap.size + 2, 3, none⟩ (.slice none 0 0)).setCell ⟨w.heap.size + 2, 4, none⟩ (.slice none 0 0)).setCell ⟨w.heap.size + 2, 5, none⟩ (.slice none 0 0)).setCell ⟨w.heap.size + 2, 6, none⟩ (.slice none 0 0)) := but_set1 (but_set1 (but_set1 (but_set1 (but_set1 (but_set1 (but_set1 (But.refl _ _) _ _) _ _) _ _) _ _) _ _) _ _) _ _
  exact HB2.out.trans (hbb.below HB2.out.size (by intro k hk; rw [List.mem_singleton] at hk; omega))

end
end Go.Proofs.YtbflcikfaoojmaaDoor.Edit

/- twin.Plan of any plan. -/
import Derived.Test.YtbflcikfaoojmaaDoorHPlA
import Derived.Test.YtbflcikfaoojmaaDoorGP3
import Derived.Test.YtbflcikfaoojmaaDoorHTwB
set_option linter.unusedVariables false
set_option linter.unusedSimpArgs false
namespace Go.Proofs.YtbflcikfaoojmaaDoor.Edit
open Go.RowKit Go.Lib Go.Shelf ChangeShapes Mem Utf UtfP

/-- how the cutting stands -/
def RLp (w12 : World) (p : Pl) (z : Int) (lw lo bx : Nat) (v1 : Value) (SB : List Nat) (i : Value) (wr : World) : Prop :=
  ∃ (j : Nat) (its' : List It) (rest : List UInt8) (Ab : Option Addr) (capb : Nat), i = .int .i64 (j : Int) ∧ j ≤ p.its.length ∧ rest.length ≤ capb ∧ Hid (its'.length = p.its.length) ∧
    Hid (cutE p.its ((ordE p.its).drop j) rest (its'.map It.core) = newC p.its z) ∧ Hid (rest.length = remL p.its ((ordE p.its).drop j)) ∧ Hid (QIts wr lo v1 its') ∧ Hid (BytesAt wr Ab rest) ∧ Hid (Ab = none → rest = [] ∧ capb = 0) ∧ Hid (∀ a, Ab = some a → a.block < bx) ∧
    Hid (Blk wr bx #[.slice Ab rest.length capb] 47) ∧ Hid (∀ x ∈ its', x.l ≠ [] → ∀ a, x.A = some a → a.block < lw ∨ w12.heap.size ≤ a.block) ∧ Hid (But SB w12 wr)
/-- the new plan, its box -/
def RQ2 (W : World) (p : Pl) (v : Value) (wx : World) : Prop := ∃ bq A1 c1 A2 c2 A3 c3 A4 c4, v = .pointer (some ⟨bq, 0, none⟩) ∧ Hid (Blk wx bq #[.int .u32 p.a1, .int .u8 p.a2, .int .u8 p.a3, .slice A1 p.its.length c1, .slice A2 p.ws.l.length c2, .slice A3 p.gs.l.length c3, .slice A4 p.ss.l.length c4] 35) ∧ W.heap.size ≤ bq ∧
  Hid (wx.ownsRow W.heap.size 49 4 (.slice A1 p.its.length c1) p.its.length (cellsI p.its)) ∧ Hid (OwnI wx W.heap.size (.slice A2 p.ws.l.length c2) p.ws.l) ∧ Hid (OwnI wx W.heap.size (.slice A3 p.gs.l.length c3) p.gs.l) ∧ Hid (OwnI wx W.heap.size (.slice A4 p.ss.l.length c4) p.ss.l) ∧
  Hid (∀ a, (A1 = some a ∨ A2 = some a ∨ A3 = some a ∨ A4 = some a) → a.block ≠ bq) ∧ Hid (∀ a1 a, A1 = some a1 → (A2 = some a ∨ A3 = some a ∨ A4 = some a) → a.block ≠ a1.block) ∧ Hid (Below W.heap.size W wx)
theorem ne_sz {a b c : Nat} (h : a < b) (h2 : b ≤ c) : ¬ c = a ∧ ¬ a = c := ⟨by omega, by omega⟩
theorem below_al {v v' : World} {o : Obj} (h : Below (v.alloc o).heap.size (v.alloc o) v') : Below v.heap.size v v' := by
  have h0 : Below v.heap.size v (v.alloc o) := (Below.refl _ v).alloc (Nat.le_refl _) _
  exact h0.trans (h.mono h0.size)
section
variable {W V : World} {p : Pl} {bq c1 c2 c3 c4 : Nat} {A1 A2 A3 A4 : Option Addr}
theorem own_lt {w : World} {B : Nat} {e : TypeId} {s n m c : Nat} {A : Option Addr} {xs : List Value} (h : w.ownsRow B e s (.slice A n c) m xs) (a : Addr) (ha : A = some a) : B ≤ a.block ∧ a.block < w.heap.size := World.ownsRow.lt h a.block (by rw [ha]; rfl)
theorem RQ2_set (hb : Below W.heap.size W V) (hq : Blk V bq #[.int .u32 0, .int .u8 0, .int .u8 0, .slice none 0 0, .slice none 0 0, .slice none 0 0, .slice none 0 0] 35) (hW : W.heap.size ≤ bq) (r1 : V.ownsRow W.heap.size 49 4 (.slice A1 p.its.length c1) p.its.length (cellsI p.its)) (r2 : OwnI V W.heap.size (.slice A2 p.ws.l.length c2) p.ws.l) (r3 : OwnI V W.heap.size (.slice A3 p.gs.l.length c3) p.gs.l) (r4 : OwnI V W.heap.size (.slice A4 p.ss.l.length c4) p.ss.l)
    (hne : ∀ a, (A1 = some a ∨ A2 = some a ∨ A3 = some a ∨ A4 = some a) → a.block ≠ bq) (hdj : ∀ a1 a, A1 = some a1 → (A2 = some a ∨ A3 = some a ∨ A4 = some a) → a.block ≠ a1.block) :
    RQ2 W p (.pointer (some ⟨bq, 0, none⟩)) (((((((V.setCell ⟨bq, 0, none⟩ (.int .u32 p.a1)).setCell ⟨bq, 1, none⟩ (.int .u8 p.a2)).setCell ⟨bq, 2, none⟩ (.int .u8 p.a3)).setCell ⟨bq, 3, none⟩ (.slice A1 p.its.length c1)).setCell ⟨bq, 4, none⟩ (.slice A2 p.ws.l.length c2)).setCell ⟨bq, 5, none⟩ (.slice A3 p.gs.l.length c3)).setCell ⟨bq, 6, none⟩ (.slice A4 p.ss.l.length c4)) := by
  have hbt : But [bq] V (((((((V.setCell ⟨bq, 0, none⟩ (.int .u32 p.a1)).setCell ⟨bq, 1, none⟩ (.int .u8 p.a2)).setCell ⟨bq, 2, none⟩ (.int .u8 p.a3)).setCell ⟨bq, 3, none⟩ (.slice A1 p.its.length c1)).setCell ⟨bq, 4, none⟩ (.slice A2 p.ws.l.length c2)).setCell ⟨bq, 5, none⟩ (.slice A3 p.gs.l.length c3)).setCell ⟨bq, 6, none⟩ (.slice A4 p.ss.l.length c4)) := but_set1 (but_set1 (but_set1 (but_set1 (but_set1 (but_set1 (but_set1 (But.refl _ _) _ _) _ _) _ _) _ _) _ _) _ _) _ _
  have hk : ∀ {A : Option Addr} {n c : Nat}, (∀ a, A = some a → a.block ≠ bq) → ∀ k, (Value.slice A n c).ownBlock = some k → k ∉ [bq] := by
    intro A n c h k hk
    cases A with
    | none => cases hk
    | some a =>
      have := h a rfl
      simp [Value.ownBlock] at hk
      simp
      omega
  refine ⟨bq, A1, c1, A2, c2, A3, c3, A4, c4, rfl, Blk.set (Blk.set (Blk.set (Blk.set (Blk.set (Blk.set (Blk.set hq 0 _) 1 _) 2 _) 3 _) 4 _) 5 _) 6 _, hW, ownsRow_but r1 hbt (hk fun a ha => hne a (.inl ha)), ownsRow_but r2 hbt (hk fun a ha => hne a (.inr (.inl ha))), ownsRow_but r3 hbt (hk fun a ha => hne a (.inr (.inr (.inl ha)))), ownsRow_but r4 hbt (hk fun a ha => hne a (.inr (.inr (.inr ha)))), hne, hdj, ?_⟩
  exact hb.trans (hbt.below hb.size (by intro k hk; rw [List.mem_singleton] at hk; omega))
theorem RQ2_new (hb : Below W.heap.size W V) (r1 : V.ownsRow W.heap.size 49 4 (.slice A1 p.its.length c1) p.its.length (cellsI p.its)) (r2 : OwnI V W.heap.size (.slice A2 p.ws.l.length c2) p.ws.l) (r3 : OwnI V W.heap.size (.slice A3 p.gs.l.length c3) p.gs.l) (r4 : OwnI V W.heap.size (.slice A4 p.ss.l.length c4) p.ss.l) (hdj : ∀ a1 a, A1 = some a1 → (A2 = some a ∨ A3 = some a ∨ A4 = some a) → a.block ≠ a1.block) :
    RQ2 W p (.pointer (some ⟨V.heap.size, 0, none⟩)) (V.alloc (.cells #[.int .u32 p.a1, .int .u8 p.a2, .int .u8 p.a3, .slice A1 p.its.length c1, .slice A2 p.ws.l.length c2, .slice A3 p.gs.l.length c3, .slice A4 p.ss.l.length c4] 35)) := by
  have h0 : Below V.heap.size V (V.alloc (.cells #[.int .u32 p.a1, .int .u8 p.a2, .int .u8 p.a3, .slice A1 p.its.length c1, .slice A2 p.ws.l.length c2, .slice A3 p.gs.l.length c3, .slice A4 p.ss.l.length c4] 35)) := (Below.refl _ _).alloc (Nat.le_refl _) _
  refine ⟨V.heap.size, A1, c1, A2, c2, A3, c3, A4, c4, rfl, Blk.new _ _ _, hb.size, ownsRow_below r1 h0, ownsRow_below r2 h0, ownsRow_below r3 h0, ownsRow_below r4 h0, ?_, hdj, hb.trans (h0.mono hb.size)⟩
  intro a ha
  rcases ha with ha | ha | ha | ha
  · exact Nat.ne_of_lt (own_lt r1 a ha).2
  · exact Nat.ne_of_lt (own_lt r2 a ha).2
  · exact Nat.ne_of_lt (own_lt r3 a ha).2
  · exact Nat.ne_of_lt (own_lt r4 a ha).2
end

section
attribute [local go_sem] Oper.semAt_some

set_option maxRecDepth 100000 in
set_option maxHeartbeats 4000000 in
theorem plan_p (p : Pl) (z : Int) (w : World) (h : p.Ok w) (hn : p.its.length ≤ 300) (hnw : p.ws.l.length ≤ 4000 ∧ p.gs.l.length ≤ 4000 ∧ p.ss.l.length ≤ 4000) (hmx : ∀ x ∈ p.its, x.l.length ≤ 4000) (hal : (allE p.its).length ≤ 4000) (hc : chkE p.its = 0) (hT : Tabs w) : Calls Tryd.prog 14 #[p.v, .int .i64 z] w fun e w' => ∃ q : Pl, e = .returned (.tuple #[q.v, .int .i64 0]) ∧ q.Ok w' ∧ NewP p z q ∧ Below w.heap.size w w' := by
  obtain ⟨l, hl⟩ : ∃ l, allE p.its = l := ⟨_, rfl⟩
  have HLE := Lib.hid hl
  rw [hl] at hal
  have hm : l.length ≤ 1000000 := by omega
  obtain ⟨W0, hW0⟩ : ∃ W0, ((w.alloc (.cells #[.int .u32 p.a1, .int .u8 p.a2, .int .u8 p.a3, .slice p.B p.its.length p.cap, .slice p.ws.A p.ws.l.length p.ws.cap, .slice p.gs.A p.gs.l.length p.gs.cap, .slice p.ss.A p.ss.l.length p.ss.cap] 35)).alloc (.cells #[.int .i64 z] 3)).alloc (.cells #[.int .u32 0, .int .u8 0, .int .u8 0, .slice none 0 0, .slice none 0 0, .slice none 0 0, .slice none 0 0] 35) = W0 := ⟨_, rfl⟩
  have hb0 : Below w.heap.size w W0 := by rw [← hW0]; exact (((Below.refl _ w).alloc (Nat.le_refl _) _).alloc (by simp) _).alloc (by simp; omega) _
  have hs0 : W0.heap.size = w.heap.size + 3 := by rw [← hW0]; simp
  have hp0 : Blk W0 w.heap.size #[.int .u32 p.a1, .int .u8 p.a2, .int .u8 p.a3, .slice p.B p.its.length p.cap, .slice p.ws.A p.ws.l.length p.ws.cap, .slice p.gs.A p.gs.l.length p.gs.cap, .slice p.ss.A p.ss.l.length p.ss.cap] 35 := by rw [← hW0]; exact ((Blk.new _ _ _).alloc _).alloc _
  have hz0 : Blk W0 (w.heap.size + 1) #[.int .i64 z] 3 := by
    have := Blk.new (w.alloc (.cells #[.int .u32 p.a1, .int .u8 p.a2, .int .u8 p.a3, .slice p.B p.its.length p.cap, .slice p.ws.A p.ws.l.length p.ws.cap, .slice p.gs.A p.gs.l.length p.gs.cap, .slice p.ss.A p.ss.l.length p.ss.cap] 35)) #[.int .i64 z] 3
    rw [World.size_alloc] at this
    rw [← hW0]; exact this.alloc _
  have hq0 : Blk W0 (w.heap.size + 2) #[.int .u32 0, .int .u8 0, .int .u8 0, .slice none 0 0, .slice none 0 0, .slice none 0 0, .slice none 0 0] 35 := by
    have := Blk.new ((w.alloc (.cells #[.int .u32 p.a1, .int .u8 p.a2, .int .u8 p.a3, .slice p.B p.its.length p.cap, .slice p.ws.A p.ws.l.length p.ws.cap, .slice p.gs.A p.gs.l.length p.gs.cap, .slice p.ss.A p.ss.l.length p.ss.cap] 35)).alloc (.cells #[.int .i64 z] 3)) #[.int .u32 0, .int .u8 0, .int .u8 0, .slice none 0 0, .slice none 0 0, .slice none 0 0, .slice none 0 0] 35
    rw [World.size_alloc, World.size_alloc] at this
    rw [← hW0]; exact this
  have HC := Lib.hid (check_c p W0 (h.below hb0) hn)
  rw [hc] at HC
  have p0 := hp0.cell (j := 0) rfl
  have p1 := hp0.cell (j := 1) rfl
  have p2 := hp0.cell (j := 2) rfl
  have p3 := hp0.cell (j := 3) rfl
  have p4 := hp0.cell (j := 4) rfl
  have p5 := hp0.cell (j := 5) rfl
  have p6 := hp0.cell (j := 6) rfl
  have H := Lib.hid h
  have HP := Lib.hid hp0
  have HZ := Lib.hid hz0
  have HQ := Lib.hid hq0
  have HB0 := Lib.hid hb0
  have HT := Lib.hid hT
  clear h hp0 hb0 hT hz0 hq0 hc
  unfold Pl.v Pl.cs at HC ⊢
  refine (callsIn_wide (n := 3)).1 ?_
  refine callsIn_of_wp_marks Tryd.func14 rfl trivial ?_ rfl
  simp only [Tryd.ntmps14, List.size_toArray, List.length_cons, List.length_nil, Nat.reduceAdd, Nat.reduceSub, Array.replicate_succ, Array.replicate_zero, List.push_toArray, List.append_toArray, List.nil_append, List.cons_append]
  gi_wp2_with fail
  refine ⟨trivial, (callsIn_wide.2 HC.out).mono ?_⟩
  rintro e w2 ⟨rfl, hb2⟩
  have hs2 := hb2.size
  have hp2 := HP.out.but (But.of_below (S := []) hb2) (by intro h; cases h)
  have HP2 := Lib.hid hp2
  have HZ2 := Lib.hid (HZ.out.but (But.of_below (S := []) hb2) (by intro h; cases h))
  have HQ2 := Lib.hid (HQ.out.but (But.of_below (S := []) hb2) (by intro h; cases h))
  have HB2 := Lib.hid (HB0.out.trans (hb2.mono (by omega)))
  have HA := Lib.hid (all_c p w2 (H.out.below HB2.out) hn hmx)
  rw [hl] at HA
  clear p0 p1 p2 p3 p4 p5 p6 hb2
  have p0 := hp2.cell (j := 0) rfl
  have p1 := hp2.cell (j := 1) rfl
  have p2 := hp2.cell (j := 2) rfl
  have p3 := hp2.cell (j := 3) rfl
  have p4 := hp2.cell (j := 4) rfl
  have p5 := hp2.cell (j := 5) rfl
  have p6 := hp2.cell (j := 6) rfl
  clear hp2
  unfold Pl.v Pl.cs at HA
  clear hl
  gi_wp2_with fail
  refine ⟨trivial, (callsIn_wide.2 HA.out).mono ?_⟩
  rintro e w4 ⟨v4, rfl, ho4, hb4⟩
  have hnil4 : (∃ A c, v4 = .slice (some A) l.length c) ∨ (v4 = .slice none 0 0 ∧ l = []) := by
    rcases ho4.2 with ⟨h1, h2⟩ | ⟨g, c, cur, h1, _⟩
    · exact .inr ⟨h1, List.eq_nil_of_length_eq_zero h2⟩
    · exact .inl ⟨_, _, h1⟩
  obtain ⟨A4, cap4, rfl, hcap4, hby4, hA4, hob4⟩ := OwnB.form ho4
  have hn4 : A4 = none → l = [] ∧ cap4 = 0 := by
    rintro rfl
    rcases hnil4 with ⟨_, _, h⟩ | ⟨h, h'⟩
    · cases h
    · injection h with _ _ h3; exact ⟨h', h3⟩
  have HP4 := Lib.hid (HP2.out.but (But.of_below (S := []) hb4) (by intro h; cases h))
  have HZ4 := Lib.hid (HZ2.out.but (But.of_below (S := []) hb4) (by intro h; cases h))
  have HQ4 := Lib.hid (HQ2.out.but (But.of_below (S := []) hb4) (by intro h; cases h))
  have HB4 := Lib.hid (HB2.out.trans (hb4.mono HB2.out.size))
  have hs4 := hb4.size
  have HO4 := Lib.hid ho4
  have HN4 := Lib.hid hn4
  obtain ⟨W5, hW5⟩ : ∃ W5, w4.alloc (.cells #[.slice A4 l.length cap4] 47) = W5 := ⟨_, rfl⟩
  have hb5 : Below w4.heap.size w4 W5 := by rw [← hW5]; exact (Below.refl _ w4).alloc (Nat.le_refl _) _
  have hs5 : W5.heap.size = w4.heap.size + 1 := by rw [← hW5]; simp
  have HBB5 : Hid (Blk W5 w4.heap.size #[.slice A4 l.length cap4] 47) := by rw [← hW5]; exact Blk.new _ _ _
  have HB5 := Lib.hid (HB4.out.trans (hb5.mono HB4.out.size))
  have HBC := Lib.hid (bclone A4 cap4 l W5 (hby4.below hb5) hcap4 hm hn4)
  have HP5 := Lib.hid (HP4.out.but (But.of_below (S := []) hb5) (by intro h; cases h))
  have HZ5 := Lib.hid (HZ4.out.but (But.of_below (S := []) hb5) (by intro h; cases h))
  have HQ5 := Lib.hid (HQ4.out.but (But.of_below (S := []) hb5) (by intro h; cases h))
  have HO5 := Lib.hid (ho4.below hb5)
  clear p0 p1 p2 p3 p4 p5 p6 hb4 ho4 hA4 hby4 hob4 hn4 hnil4 hb5
  have c7 := HBB5.out.cell (j := 0) rfl
  gi_wp2_with fail
  refine ⟨trivial, (callsIn_wide.2 HBC.out).mono ?_⟩
  rintro e w6 ⟨v6, rfl, ho6, hb6⟩
  have hlt6 := fun k hk => OwnB.lt ho6 (k := k) hk
  obtain ⟨A6, cap6, rfl, hcap6, hby6, hA6, hob6⟩ := OwnB.form ho6
  rw [hob6] at hlt6
  have HLT6 := Lib.hid hlt6
  have HP6 := Lib.hid (HP5.out.but (But.of_below (S := []) hb6) (by intro h; cases h))
  have HZ6 := Lib.hid (HZ5.out.but (But.of_below (S := []) hb6) (by intro h; cases h))
  have HQ6 := Lib.hid (HQ5.out.but (But.of_below (S := []) hb6) (by intro h; cases h))
  have HBB6 := Lib.hid (HBB5.out.but (But.of_below (S := []) hb6) (by intro h; cases h))
  have HB6 := Lib.hid (HB5.out.trans (hb6.mono HB5.out.size))
  have HO6 := Lib.hid (HO5.out.below hb6)
  have hs6 := hb6.size
  have HS := Lib.hid (secret_c (.slice A6 l.length cap6) w6 ⟨_, _, _, rfl⟩)
  have HBY6 := Lib.hid hby6
  clear hb6 ho6 hA6 hby6 hob6 hlt6 c7
  gi_wp2_with fail
  refine ⟨trivial, (callsIn_wide.2 HS.out).mono ?_⟩
  rintro e w7 ⟨rfl, rfl⟩
  gi_wp2_with fail
  obtain ⟨W7, hW7⟩ : ∃ W7, w6.alloc (.cells #[.slice A6 l.length cap6] 47) = W7 := ⟨_, rfl⟩
  have hb7 : Below w6.heap.size w6 W7 := by rw [← hW7]; exact (Below.refl _ w6).alloc (Nat.le_refl _) _
  have hc7 : W7.cell? ⟨w6.heap.size, 0, none⟩ = some (.slice A6 l.length cap6) := by rw [← hW7]; exact cell_alloc_new _ _ _ 0
  have hs7 : W7.heap.size = w6.heap.size + 1 := by rw [← hW7]; simp
  have HP7 := Lib.hid (HP6.out.but (But.of_below (S := []) hb7) (by intro h; cases h))
  have HZ7 := Lib.hid (HZ6.out.but (But.of_below (S := []) hb7) (by intro h; cases h))
  have HQ7 := Lib.hid (HQ6.out.but (But.of_below (S := []) hb7) (by intro h; cases h))
  have HBB7 := Lib.hid (HBB6.out.but (But.of_below (S := []) hb7) (by intro h; cases h))
  have HB7 := Lib.hid (HB6.out.trans (hb7.mono HB6.out.size))
  have HO7 := Lib.hid (HO6.out.below hb7)
  rw [hW7]
  obtain ⟨S, hS⟩ : ∃ S, w6.heap.size :: (A6.map (·.block)).toList = S := ⟨_, rfl⟩
  have HSM : Hid (∀ k ∈ S, W5.heap.size ≤ k ∧ k < W7.heap.size) := by
    intro k hk
    rw [← hS] at hk
    rcases List.mem_cons.1 hk with rfl | hk
    · exact ⟨by omega, by omega⟩
    · have := HLT6.out k (by simpa using hk)
      exact ⟨by omega, by omega⟩
  obtain ⟨gs, hgs⟩ : ∃ gs, (A4.map (·.block)).toList = gs := ⟨_, rfl⟩
  have HGS : Hid (∀ k ∈ gs, w2.heap.size ≤ k ∧ k < w4.heap.size) := by
    intro k hk
    rw [← hgs] at hk
    exact OwnB.lt HO4.out (k := k) (by cases A4 <;> simp [Value.ownBlock] at hk ⊢; exact hk.symm)
  refine wpIn_rangeFunc_ownG rfl (by omega) (gf := 48) (lb := #[.pointer (some ⟨w6.heap.size, 0, none⟩)]) rfl trivial (enters_of Tryd.func48 (by kernel_rfl) rfl)
    (sec_stops (3 - 1) (by omega) l A6 cap6 w6.heap.size w W7 HT.out HB7.out S (by rw [← hS]; exact List.mem_cons_self) (fun ad hA _ => by rw [← hS, hA]; simp) (fun k hk => (HSM.out k hk).2) hc7 (HBY6.out.below hb7) hcap6 hm)
    KpS.trans (kpS_b HB7.out.size (fun k hk => (HSM.out k hk).2)) (Below.refl _ _) (fun _ => rfl)
    (PI z l W7 w2.heap.size (.slice A4 l.length cap4) gs)
    (fun _ _ _ => False)
    (PI_own z l W7 w2.heap.size (.slice A4 l.length cap4) gs)
    (fun _ _ _ _ _ hs _ _ => hs)
    ⟨HO7.out, But.refl _ _⟩
    (fun x => { tmps := #[(.agg #[.int .u32 p.a1, .int .u8 p.a2, .int .u8 p.a3, .slice p.B p.its.length p.cap, .slice p.ws.A p.ws.l.length p.ws.cap, .slice p.gs.A p.gs.l.length p.gs.cap, .slice p.ss.A p.ss.l.length p.ss.cap]), .int .i64 z, .pointer (some ⟨w.heap.size, 0, none⟩), .pointer (some ⟨w.heap.size + 1, 0, none⟩), .pointer (some ⟨w.heap.size + 1 + 1, 0, none⟩), .int .i64 0, .int .i64 0, .pointer (some ⟨w4.heap.size, 0, none⟩), .int .i64 (x.1.1 : Int), .int .i64 x.1.2, undef, undef, undef, undef, undef, undef, undef, undef, (.agg #[.int .u32 p.a1, .int .u8 p.a2, .int .u8 p.a3, .slice p.B p.its.length p.cap, .slice p.ws.A p.ws.l.length p.ws.cap, .slice p.gs.A p.gs.l.length p.gs.cap, .slice p.ss.A p.ss.l.length p.ss.cap]), .int .i64 0, .int .i64 0, .bool false, undef, undef, (.agg #[.int .u32 p.a1, .int .u8 p.a2, .int .u8 p.a3, .slice p.B p.its.length p.cap, .slice p.ws.A p.ws.l.length p.ws.cap, .slice p.gs.A p.gs.l.length p.gs.cap, .slice p.ss.A p.ss.l.length p.ss.cap]), .slice A4 l.length cap4, .slice A4 l.length cap4, .slice A6 l.length cap6, .func (.func 48) #[] #[.pointer (some ⟨w6.heap.size, 0, none⟩)], .int .i64 (x.1.1 : Int), .int .i64 x.1.2, undef, undef, undef, undef, undef, undef, undef, undef, undef, undef, undef, undef, undef, undef, undef, undef, undef, undef, undef, undef, undef, undef, undef, undef, undef, undef, undef, undef, undef, undef, undef, undef, undef, undef, undef, undef, undef, undef, undef, undef, undef, undef, undef, undef, undef, undef, undef, undef, undef, undef, undef, undef, undef, undef, undef, undef, undef, undef, undef], defers := [] }) ?assign ?body ?done ?stop
  case assign =>
    intro l' x W K hK
    dsimp only [encS]
    gi_wp2
    exact hK
  case stop =>
    rintro D c pre W _ _ h _
    exact h.elim
  case body =>
    rintro l' pre x W ⟨ho, hb⟩ hlt
    clear HC HA HBC HS hW7 hW5 hb7 hc7 HP HZ HQ HP2 HZ2 HQ2 HP4 HZ4 HQ4 HP5 HZ5 HQ5 HP6 HZ6 HQ6 HP7 HQ7 HBB5 HBB6 H HB0 HB2 HB4 HB5 HB6 HO5 HO6 HO7 HN4 HBY6
    obtain ⟨⟨i, c⟩, hx⟩ := x
    have hat : i < l.length := (secE_mem hx).1
    have hpr : printC c = true := (secE_mem hx).2
    dsimp only
    obtain ⟨t, ht⟩ : ∃ t, pre.foldl (fun b x => stepE z b x.1) l = t := ⟨_, rfl⟩
    have htl : t.length = l.length := by rw [← ht]; exact fold_len z l pre l rfl
    rw [ht, ← htl] at ho
    obtain ⟨g, rfl⟩ : ∃ g, A4 = some ⟨g, 0, none⟩ := by
      rcases ho.2 with ⟨h1, h2⟩ | ⟨g, c, cur, h1, _⟩
      · omega
      · injection h1 with h1; exact ⟨g, h1⟩
    have HOW := Lib.hid ho
    have HBW := Lib.hid hb
    obtain ⟨hgb, hg1, hg2⟩ : gs = [g] ∧ w2.heap.size ≤ g ∧ g < w4.heap.size := by
      have e : gs = [g] := by rw [← hgs]; rfl
      exact ⟨e, HGS.out g (by rw [e]; simp)⟩
    subst hgb
    have HTU := Lib.hid (turn_c c z W hpr)
    have hfi := printC_fine (turnE_print z hpr).1
    have HPU := fun w8 => Lib.hid (put_ok (turnE c z) w8 hfi)
    have hz1 := (HZ7.out.but hb (by rw [List.mem_singleton]; omega)).cell (j := 0) rfl
    have HT1 := Lib.hid ((HBB7.out.but hb (by rw [List.mem_singleton]; omega)))
    clear ho hb hpr hfi
    have hs7W := HBW.out.size
    gi_wp2_with fail
    refine ⟨trivial, (CallsIn.inRound l' (callsIn_wide.2 HTU.out)).mono ?_⟩
    rintro e w8 ⟨rfl, hb8⟩
    have HB8 := Lib.hid hb8
    clear hb8
    gi_wp2_with fail
    refine ⟨trivial, (CallsIn.inRound l' (callsIn_wide.2 (HPU w8).out)).mono ?_⟩
    rintro e w9 ⟨v9, rfl, ho9, hb9⟩
    obtain ⟨A9, cap9, rfl, hcap9, hby9, hA9, hob9⟩ := OwnB.form ho9
    obtain ⟨a9, rfl⟩ : ∃ a9, A9 = some a9 := by
      obtain ⟨b, off, hA, _⟩ := hby9 (by intro e; have := (enc_length (turnE c z)).1; rw [e] at this; simp at this)
      exact ⟨_, hA⟩
    have hb89 := HB8.out.trans (hb9.mono HB8.out.size)
    have HB9 := Lib.hid hb89
    have hct := (HT1.out.but (But.of_below (S := []) hb89) (by intro h; cases h)).cell (j := 0) rfl
    have HO9 := Lib.hid (HOW.out.below hb89)
    have HBY9 := Lib.hid hby9
    clear ho9 hb9 hby9 hA9 hob9 hb89
    have k1 : (i : Int) ≤ (l.length : Int) := by omega
    have k2 : (i : Int) ≤ (cap4 : Int) := by omega
    have k3 : ¬ cap4 = i := by omega
    gi_wp2_with (refine wpListIn_copy_own rfl (.tmp 44) (.tmp 45) rfl (x := enc (turnE c z)) i _ _ _ _ _ rfl rfl (by omega) rfl HBY9.out HO9.out (by omega) ?_; intro w10 kk HO10 HB10)
    have hfold : (pre ++ [(⟨(i, c), hx⟩ : SC l)]).foldl (fun b x => stepE z b x.1) l = splice t i ((enc (turnE c z)).take (t.length - i)) := by
      rw [List.foldl_append, ht]; rfl
    have hb910 : Below w.heap.size w9 w10 := HB10.out.below (by have := HB9.out.size; omega) (by intro k hk; rw [List.mem_singleton] at hk; omega)
    have hg9 : ∃ cur, Blk w9 g cur 5 := by
      obtain ⟨_, _, cur, h, _⟩ := ownB_row HO9.out
      exact ⟨cur, h⟩
    obtain ⟨cur, hg9⟩ := hg9
    refine ⟨(keepsFrom_below HB9.out).trans (keepsFrom_but hg9 HB10.out), ⟨(HB9.out.mono (by omega)).trans hb910, fun k hk => ?_⟩, ?_, ?_⟩
    · have hk' := HSM.out k hk
      rw [HB10.out.block k (by have := HB9.out.size; omega) (by rw [List.mem_singleton]; omega)]
      exact HB9.out.block k (by omega)
    · rw [hfold, ← htl]; exact HO10.out
    · exact (HBW.out.trans (But.of_below HB9.out)).trans HB10.out
  case done =>
    rintro D ys W hD hys ⟨ho, hb⟩ hK
    clear HC HA HBC HS hW7 hW5 hb7 hc7 HP HZ HQ HP2 HZ2 HQ2 HP4 HZ4 HQ4 HP5 HZ5 HQ5 HP6 HZ6 HQ6 HBB5 HBB6 HB0 HB4 HB5 HB6 HO5 HO6 HO7 HBY6
    rename_i hK1 K2 hK2
    rw [fold_val, hys, planE_fold] at ho
    have hbB : Below w.heap.size W7 W := hb.below HB7.out.size (fun k hk => by have := (HGS.out k hk).1; omega)
    have hbW := HB7.out.trans hbB
    have HOP := Lib.hid (H.out.below hbW)
    have hp := HP7.out.but hb (fun hk => by have := (HGS.out _ hk).1; omega)
    have hq := HQ7.out.but hb (fun hk => by have := (HGS.out _ hk).1; omega)
    have hbb := HBB7.out.but hb (fun hk => by have := (HGS.out _ hk).2; omega)
    have HPW := Lib.hid hp
    have HQW := Lib.hid hq
    have HBBW := Lib.hid hbb
    have HOW := Lib.hid ho
    have HBW := Lib.hid hbW
    have HKD := Lib.hid hK
    have hs7W := hb.size
    have hltW := hp.lt
    have HA4 : Hid (∀ a, A4 = some a → a.block < w4.heap.size) := fun a ha => (OwnB.lt HO4.out (k := a.block) (by rw [ha]; rfl)).2
    clear ho hb hbB hbW hp hq hbb hK HZ7 HP7 HQ7 HBB7 HB7 HT HB2 HO4 HSM hS hgs HGS hys
    have HS : Hid (∀ V, Hid (Below W.heap.size W V) → Hid (Below W.heap.size W V) ∧ V.cell? ⟨w.heap.size, 0, none⟩ = some (.int .u32 p.a1) ∧ V.cell? ⟨w.heap.size, 1, none⟩ = some (.int .u8 p.a2) ∧ V.cell? ⟨w.heap.size, 2, none⟩ = some (.int .u8 p.a3) ∧ V.cell? ⟨w.heap.size, 3, none⟩ = some (.slice p.B p.its.length p.cap) ∧ V.cell? ⟨w.heap.size, 4, none⟩ = some (.slice p.ws.A p.ws.l.length p.ws.cap) ∧ V.cell? ⟨w.heap.size, 5, none⟩ = some (.slice p.gs.A p.gs.l.length p.gs.cap) ∧ V.cell? ⟨w.heap.size, 6, none⟩ = some (.slice p.ss.A p.ss.l.length p.ss.cap)) := fun V hV => by
      have hb := HPW.out.but (But.of_below (S := []) hV.out) (by intro h; cases h)
      exact ⟨hV, hb.cell rfl, hb.cell rfl, hb.cell rfl, hb.cell rfl, hb.cell rfl, hb.cell rfl, hb.cell rfl⟩
    have HPC : Hid (∀ V, Hid (Below W.heap.size W V) → Calls Tryd.prog 34 #[.slice p.B p.its.length p.cap] V fun e w' => ∃ A c, e = .returned (.slice A p.its.length c) ∧ Hid (w'.ownsRow W.heap.size 49 4 (.slice A p.its.length c) p.its.length (cellsI p.its)) ∧ Hid (∀ a, A = some a → V.heap.size ≤ a.block ∧ a.block < w'.heap.size) ∧ Hid (Below W.heap.size W w') ∧ Hid (Below V.heap.size V w')) := fun V hV => (pclone_c p V (HOP.out.below hV.out) hn).mono fun e w' ⟨v, h1, h2, h3⟩ => by
      obtain ⟨A, c, rfl⟩ := ownsRow_form h2
      exact ⟨A, c, h1, ownsRow_base h2 hV.out.size, fun a ha => World.ownsRow.lt h2 a.block (by rw [ha]; rfl), hV.out.trans (h3.mono hV.out.size), h3⟩
    have HIC : ∀ x : Nums, x.Ok W → x.l.length ≤ 4000 → Hid (∀ V, Hid (Below W.heap.size W V) → Calls Tryd.prog 35 #[.slice x.A x.l.length x.cap] V fun e w' => ∃ A c, e = .returned (.slice A x.l.length c) ∧ Hid (OwnI w' W.heap.size (.slice A x.l.length c) x.l) ∧ Hid (∀ a, A = some a → V.heap.size ≤ a.block ∧ a.block < w'.heap.size) ∧ Hid (Below W.heap.size W w') ∧ Hid (Below V.heap.size V w')) := fun x hx hxl V hV => (iclone_c x V (hx.below hV.out) hxl).mono fun e w' ⟨v, h1, h2, h3⟩ => by
      obtain ⟨A, c, rfl, _⟩ := h2.form
      exact ⟨A, c, h1, h2.base hV.out.size, fun a ha => World.ownsRow.lt h2 a.block (by rw [ha]; rfl), hV.out.trans (h3.mono hV.out.size), h3⟩
    have HI2 := HIC p.ws HOP.out.ws hnw.1
    have HI3 := HIC p.gs HOP.out.gs hnw.2.1
    have HI4 := HIC p.ss HOP.out.ss hnw.2.2
    clear HIC
    have cB0 : Hid (Below W.heap.size W W) := Below.refl _ _
    have c0 := HS.out W cB0
    have c0d := HS.out W.drew (hb_drew cB0)
    refine hK2 _ _ ?_
    refine wpIn_wide.2 ?_
    dsimp only
    go_upto_region 11 with fail
    go_cut [14] from 47 to 61 (fun v wx => RQ2 W p v wx)
    case first =>
      have hn1 : ¬ W.heap.size = w.heap.size := by omega
      have hn2 : ¬ w.heap.size = W.heap.size := by omega
      obtain ⟨-, s0, s1, s2, s3, s4, s5, s6⟩ := c0
      clear c0d
      go_region_held3 (fun V => V.cell? ⟨w.heap.size, 0, none⟩ = some (.int .u32 p.a1) ∧ V.cell? ⟨w.heap.size, 1, none⟩ = some (.int .u8 p.a2) ∧ V.cell? ⟨w.heap.size, 2, none⟩ = some (.int .u8 p.a3) ∧ V.cell? ⟨w.heap.size, 3, none⟩ = some (.slice p.B p.its.length p.cap) ∧ V.cell? ⟨w.heap.size, 4, none⟩ = some (.slice p.ws.A p.ws.l.length p.ws.cap) ∧ V.cell? ⟨w.heap.size, 5, none⟩ = some (.slice p.gs.A p.gs.l.length p.gs.cap) ∧ V.cell? ⟨w.heap.size, 6, none⟩ = some (.slice p.ss.A p.ss.l.length p.ss.cap))
        (first | (with_reducible assumption) | go_keep)
        (first
        | (go_at_call 34; refine (HPC.out _ ?_).mono ?_; (first | exact hb_drew cB0 | exact hb_drew (hb_alloc cB0 _)); rintro e v1 ⟨A1v, c1v, rfl, R1, HA1, hbv1, HBV1⟩; obtain ⟨hnx1, hny1⟩ := ne_sz hltW hbv1.out.size; obtain ⟨-, t0, t1, t2, t3, t4, t5, t6⟩ := HS.out _ hbv1; (try ((with_reducible have hq' := (Blk.drew (Blk.new W #[.int .u32 0, .int .u8 0, .int .u8 0, .slice none 0 0, .slice none 0 0, .slice none 0 0, .slice none 0 0] 35)).but (But.of_below (S := []) HBV1.out) List.not_mem_nil); have HQ := Lib.hid hq'; clear hq'; have hql1 := HQ.out.lt; have q0 := HQ.out.cell (j := 0) rfl; have q1 := HQ.out.cell (j := 1) rfl; have q2 := HQ.out.cell (j := 2) rfl; have q3 := HQ.out.cell (j := 3) rfl; have q4 := HQ.out.cell (j := 4) rfl; have q5 := HQ.out.cell (j := 5) rfl; have q6 := HQ.out.cell (j := 6) rfl; have r0 := HQ.out.free 0; have r1 := HQ.out.free 1; have r2 := HQ.out.free 2; have r3 := HQ.out.free 3; have r4 := HQ.out.free 4; have r5 := HQ.out.free 5; have r6 := HQ.out.free 6)))
        | (go_at_call 35; (with_reducible refine (HI2.out _ ?_).mono ?_); (first | (with_reducible exact hbv1) | (with_reducible exact hb_alloc hbv1 _)); rintro e v2 ⟨A2v, c2v, rfl, R2, HA2, hbv2, HBV2⟩; obtain ⟨hnx2, hny2⟩ := ne_sz hltW hbv2.out.size; have B2 : Hid (Below v1.heap.size v1 v2) := (by first | (with_reducible exact HBV2) | exact Lib.hid (below_al HBV2.out)); obtain ⟨-, t0, t1, t2, t3, t4, t5, t6⟩ := HS.out _ hbv2; (try (first | (have HQ' : Hid (Blk v2 _ #[.int .u32 0, .int .u8 0, .int .u8 0, .slice none 0 0, .slice none 0 0, .slice none 0 0, .slice none 0 0] 35) := Lib.hid (HQ.out.but (But.of_below (S := []) B2.out) List.not_mem_nil); clear HQ; have HQ := HQ'; clear HQ') | ((with_reducible have hq' := (Blk.new v1 #[.int .u32 0, .int .u8 0, .int .u8 0, .slice none 0 0, .slice none 0 0, .slice none 0 0, .slice none 0 0] 35).but (But.of_below (S := []) HBV2.out) List.not_mem_nil); have HQ := Lib.hid hq'; clear hq'))); (try (have hql2 := HQ.out.lt)); (try (have q0 := HQ.out.cell (j := 0) rfl; have q1 := HQ.out.cell (j := 1) rfl; have q2 := HQ.out.cell (j := 2) rfl; have q3 := HQ.out.cell (j := 3) rfl; have q4 := HQ.out.cell (j := 4) rfl; have q5 := HQ.out.cell (j := 5) rfl; have q6 := HQ.out.cell (j := 6) rfl; have r0 := HQ.out.free 0; have r1 := HQ.out.free 1; have r2 := HQ.out.free 2; have r3 := HQ.out.free 3; have r4 := HQ.out.free 4; have r5 := HQ.out.free 5; have r6 := HQ.out.free 6)))
        | (go_at_call 35; (with_reducible refine (HI3.out _ ?_).mono ?_); (first | (with_reducible exact hbv2) | (with_reducible exact hb_alloc hbv2 _)); rintro e v3 ⟨A3v, c3v, rfl, R3, HA3, hbv3, HBV3⟩; obtain ⟨hnx3, hny3⟩ := ne_sz hltW hbv3.out.size; have B3 : Hid (Below v2.heap.size v2 v3) := (by first | (with_reducible exact HBV3) | exact Lib.hid (below_al HBV3.out)); obtain ⟨-, t0, t1, t2, t3, t4, t5, t6⟩ := HS.out _ hbv3; (try (first | (have HQ' : Hid (Blk v3 _ #[.int .u32 0, .int .u8 0, .int .u8 0, .slice none 0 0, .slice none 0 0, .slice none 0 0, .slice none 0 0] 35) := Lib.hid (HQ.out.but (But.of_below (S := []) B3.out) List.not_mem_nil); clear HQ; have HQ := HQ'; clear HQ') | ((with_reducible have hq' := (Blk.new v2 #[.int .u32 0, .int .u8 0, .int .u8 0, .slice none 0 0, .slice none 0 0, .slice none 0 0, .slice none 0 0] 35).but (But.of_below (S := []) HBV3.out) List.not_mem_nil); have HQ := Lib.hid hq'; clear hq'))); (try (have hql3 := HQ.out.lt)); (try (have q0 := HQ.out.cell (j := 0) rfl; have q1 := HQ.out.cell (j := 1) rfl; have q2 := HQ.out.cell (j := 2) rfl; have q3 := HQ.out.cell (j := 3) rfl; have q4 := HQ.out.cell (j := 4) rfl; have q5 := HQ.out.cell (j := 5) rfl; have q6 := HQ.out.cell (j := 6) rfl; have r0 := HQ.out.free 0; have r1 := HQ.out.free 1; have r2 := HQ.out.free 2; have r3 := HQ.out.free 3; have r4 := HQ.out.free 4; have r5 := HQ.out.free 5; have r6 := HQ.out.free 6)))
        | (go_at_call 35; (with_reducible refine (HI4.out _ ?_).mono ?_); (first | (with_reducible exact hbv3) | (with_reducible exact hb_alloc hbv3 _)); rintro e v4 ⟨A4v, c4v, rfl, R4, HA4v, hbv4, HBV4⟩; obtain ⟨hnx4, hny4⟩ := ne_sz hltW hbv4.out.size; have B4 : Hid (Below v3.heap.size v3 v4) := (by first | (with_reducible exact HBV4) | exact Lib.hid (below_al HBV4.out)); obtain ⟨-, t0, t1, t2, t3, t4, t5, t6⟩ := HS.out _ hbv4; (try (first | (have HQ' : Hid (Blk v4 _ #[.int .u32 0, .int .u8 0, .int .u8 0, .slice none 0 0, .slice none 0 0, .slice none 0 0, .slice none 0 0] 35) := Lib.hid (HQ.out.but (But.of_below (S := []) B4.out) List.not_mem_nil); clear HQ; have HQ := HQ'; clear HQ') | ((with_reducible have hq' := (Blk.new v3 #[.int .u32 0, .int .u8 0, .int .u8 0, .slice none 0 0, .slice none 0 0, .slice none 0 0, .slice none 0 0] 35).but (But.of_below (S := []) HBV4.out) List.not_mem_nil); have HQ := Lib.hid hq'; clear hq'))); (try (have hql4 := HQ.out.lt)); (try (have q0 := HQ.out.cell (j := 0) rfl; have q1 := HQ.out.cell (j := 1) rfl; have q2 := HQ.out.cell (j := 2) rfl; have q3 := HQ.out.cell (j := 3) rfl; have q4 := HQ.out.cell (j := 4) rfl; have q5 := HQ.out.cell (j := 5) rfl; have q6 := HQ.out.cell (j := 6) rfl; have r0 := HQ.out.free 0; have r1 := HQ.out.free 1; have r2 := HQ.out.free 2; have r3 := HQ.out.free 3; have r4 := HQ.out.free 4; have r5 := HQ.out.free 5; have r6 := HQ.out.free 6))))
      all_goals
        have hz2 := B2.out.size
        have hz3 := B3.out.size
        have hz4 := B4.out.size
        have R1' := Lib.hid (ownsRow_below (ownsRow_below (ownsRow_below R1.out B2.out) B3.out) B4.out)
        have R2' := Lib.hid ((R2.out.below B3.out).below B4.out)
        have R3' := Lib.hid (R3.out.below B4.out)
        have HDJ : Hid (∀ a1 a, A1v = some a1 → (A2v = some a ∨ A3v = some a ∨ A4v = some a) → a.block ≠ a1.block) := by
          intro a1 a h1 ha
          have k1 := (HA1.out a1 h1).2
          rcases ha with ha | ha | ha
          · have h := HA2.out a ha; (try simp at h); omega
          · have h := HA3.out a ha; (try simp at h); omega
          · have h := HA4v.out a ha; (try simp at h); omega
        go_wp2_with fail
        go_meet
        first
        | (with_reducible refine RQ2_set hbv4.out HQ.out ?_ R1'.out R2'.out R3'.out R4.out ?_ HDJ.out
           · first | exact Nat.le_refl _ | exact hbv1.out.size | exact hbv2.out.size | exact hbv3.out.size
           · intro a ha; rcases ha with ha | ha | ha | ha
             · have h := HA1.out a ha; (try simp at h); omega
             · have h := HA2.out a ha; (try simp at h); omega
             · have h := HA3.out a ha; (try simp at h); omega
             · have h := HA4v.out a ha; (try simp at h); omega)
        | (with_reducible exact RQ2_new hbv4.out R1'.out R2'.out R3'.out R4.out HDJ.out)
    case rest =>
      obtain ⟨bq, A1, c1, A2, c2, A3, c3, A4v, c4, rfl, HQB, hbq, R1, R2, R3, R4, HNE, HDJ, HBC⟩ := hcut
      have hcs := HS.out wc HBC
      obtain ⟨-, p0, p1, p2, p3, p4, p5, p6⟩ := hcs
      have HOR := Lib.hid (order_c p wc (HOP.out.below HBC.out) hn)
      have hswc := HBC.out.size
      have HQWc := Lib.hid (HQW.out.but (But.of_below (S := []) HBC.out) List.not_mem_nil)
      have HPWc := Lib.hid (HPW.out.but (But.of_below (S := []) HBC.out) List.not_mem_nil)
      have HBBc := Lib.hid (HBBW.out.but (But.of_below (S := []) HBC.out) List.not_mem_nil)
      have HOWc := Lib.hid (HOW.out.below HBC.out)
      have HBWc := Lib.hid (HBW.out.trans (HBC.out.mono HBW.out.size))
      have hltD : D < W.heap.size := (Array.getElem?_eq_some_iff.1 HKD.out).1
      have HKc : Hid (wc.heap[D]? = some (.deferred (some []))) := (HBC.out.block D hltD).trans HKD.out
      have hql : bq < wc.heap.size := HQB.out.lt
      have hlw2 := HQW.out.lt
      have hlw4 := HBBW.out.lt
      have HBL : Hid (∀ k, (Value.slice A1 p.its.length c1).ownBlock = some k → W.heap.size ≤ k ∧ k < wc.heap.size ∧ k ≠ bq) := fun k hk => by
        have h1 := World.ownsRow.lt R1.out k hk
        refine ⟨h1.1, h1.2, ?_⟩
        cases A1 with
        | none => cases hk
        | some a => simp [Value.ownBlock] at hk; rw [← hk]; exact HNE.out a (.inl rfl)
      clear HQW HPW HBBW HOP HOW HBW HKD c0 c0d cB0 HS HBC HPC HI2 HI3 HI4
      unfold Pl.v Pl.cs at HOR
      go_wp2_with fail
      refine (HOR.out).mono ?_
      rintro e w12 ⟨go, F, rfl, hgo, hir, hsg, hb12⟩
      have hs12 := hb12.size
      have HIR := Lib.hid hir
      have HSG := Lib.hid hsg
      have hgol := hir.lt
      have HQB2 := Lib.hid (HQB.out.but (But.of_below (S := []) hb12) List.not_mem_nil)
      have HQW2 := Lib.hid (HQWc.out.but (But.of_below (S := []) hb12) List.not_mem_nil)
      have HPW2 := Lib.hid (HPWc.out.but (But.of_below (S := []) hb12) List.not_mem_nil)
      have HBB2 := Lib.hid (HBBc.out.but (But.of_below (S := []) hb12) List.not_mem_nil)
      have HOW2 := Lib.hid (HOWc.out.below hb12)
      have HBW2 := Lib.hid (HBWc.out.trans (hb12.mono HBWc.out.size))
      have HK2 : Hid (w12.heap[D]? = some (.deferred (some []))) := (hb12.block D (by omega)).trans HKc.out
      have R1' := Lib.hid (ownsRow_below R1.out hb12)
      have R2' := Lib.hid (R2.out.below hb12)
      have R3' := Lib.hid (R3.out.below hb12)
      have R4' := Lib.hid (R4.out.below hb12)
      clear p0 p1 p2 p3 p4 p5 p6 HQB HQWc HPWc HBBc HOWc HBWc HKc hb12 HOR hir hsg R1 R2 R3 R4
      have HSB : Hid (∀ k, k ∈ (w4.heap.size :: (Value.slice A1 p.its.length c1).ownBlock.toList) → w4.heap.size = k ∨ (W.heap.size ≤ k ∧ k < wc.heap.size ∧ k ≠ bq)) := by
        intro k hk
        rcases List.mem_cons.1 hk with rfl | hk
        · exact .inl rfl
        · exact .inr (HBL.out k (by simpa using hk))
      obtain ⟨SB, hSB⟩ : ∃ SB, w4.heap.size :: (Value.slice A1 p.its.length c1).ownBlock.toList = SB := ⟨_, rfl⟩
      rw [hSB] at HSB
      have HBX : Hid (w4.heap.size ∈ SB) := by rw [← hSB]; exact List.mem_cons_self
      have HOB1 : Hid (∀ k, (Value.slice A1 p.its.length c1).ownBlock = some k → k ∈ SB) := fun k hk => by rw [← hSB, hk]; simp
      have HSBE := Lib.hid hSB
      clear hSB
      go_wp2_with fail
      go_loopw [65] (fun i wr => RLp w12 p z w.heap.size W.heap.size w4.heap.size (.slice A1 p.its.length c1) SB i wr) (fun i _ => p.its.length - (RowKit.intOf i).toNat)
      case atStart =>
        have hdat : ∀ x ∈ p.its, x.l ≠ [] → ∀ a, x.A = some a → a.block < w.heap.size := by
          intro x hx hl a ha
          obtain ⟨b, off, hA, hl2, _⟩ := (H.out.its.ok x hx).bytes hl
          rw [ha] at hA
          cases hA
          exact hl2
        refine ⟨0, p.its, planE z l, A4, cap4, rfl, by omega, ?_, ?_, ?_, ?_, ⟨R1'.out, fun x hx => (H.out.its.ok x hx).below HBW2.out, fun x hx hl a ha e => ?_⟩, ?_, ?_, HA4.out, ?_, ?_, But.refl _ _⟩
        · rw [planE_len]; exact hcap4
        · exact rfl
        · show cutE p.its (ordE p.its) (planE z l) (p.its.map It.core) = _
          unfold newC
          rw [HLE.out]
        · show (planE z l).length = remL p.its (ordE p.its)
          rw [planE_len, remL_all, HLE.out]
        · have h1 := hdat x hx hl a ha
          have h2 := (HBL.out _ e).1
          omega
        · obtain ⟨A', cap', hv', hc', hb', _⟩ := OwnB.form HOW2.out
          injection hv' with e1 e2 e3
          subst e1
          exact hb'
        · intro e
          have h1 := HN4.out e
          exact ⟨List.eq_nil_of_length_eq_zero (by rw [planE_len, h1.1]; rfl), h1.2⟩
        · show Blk w12 w4.heap.size #[.slice A4 (planE z l).length cap4] 47
          rw [planE_len]
          exact HBB2.out
        · intro x hx hl a ha
          exact .inl (hdat x hx hl a ha)
      case round =>
        obtain ⟨j, its', rest, Ab, capb, rfl, hj, hrc, HLI, HC, HR, HQI, HBY, HNIL, HAB, HBKX, HOX, HBT⟩ := hrel
        have hsr := HBT.out.size
        have hbw : Below w.heap.size w wr := HBW2.out.trans (HBT.out.below HBW2.out.size (fun k hk => by rcases HSB.out k hk with h | h <;> omega))
        have HBWR := Lib.hid hbw
        have hqb := HQB2.out.but HBT.out (fun hk => by rcases HSB.out _ hk with h | h <;> omega)
        have HQBR := Lib.hid hqb
        by_cases hlt : j < p.its.length
        · have q1 : (j : Int) < (p.its.length : Int) := by omega
          have c0 := (But.cell HBT.out (p := ⟨go, j, none⟩) hgol (fun hk => by rcases HSB.out go hk with h | h <;> omega)).trans (HIR.out.cell hlt)
          have hoj : (ordE p.its)[j]? = some (F j) := by rw [← HSG.out]; exact sg_get F _ _ hlt
          obtain ⟨k, x, hk, hkx, _⟩ := (ordE_mem.1 (List.mem_of_getElem? hoj)).get
          obtain ⟨b, off, hb, hbl, _, _, _, ci⟩ := H.out.its.at hkx
          have hkl : k < p.its.length := (List.getElem?_eq_some_iff.1 hkx).1
          have q2 : (k : Int) < (p.its.length : Int) := by omega
          have d1 : wr.cell? ⟨w.heap.size, 3, none⟩ = some (.slice (some ⟨b, off, none⟩) p.its.length p.cap) := by
            rw [← hb]
            exact (HPW2.out.but HBT.out (fun hk => by rcases HSB.out _ hk with h | h <;> omega)).cell (j := 3) rfl
          have d2 := (hbw.cell (p := ⟨b, off + k * 4 + 3, none⟩) hbl).trans ci
          rw [hk] at c0
          obtain ⟨y, hy⟩ : ∃ y, its'[k]? = some y := ⟨_, List.getElem?_eq_getElem (by rw [HLI.out]; exact hkl)⟩
          obtain ⟨g, cg, hv, hgW, hgl, g3, g4⟩ := HQI.out.at hy
          rw [HLI.out] at hv
          injection hv with hv1 hv2 hv3
          subst hv1 hv3
          obtain ⟨hn0, hrem⟩ := rem_step HR.out hoj hk hkx
          have HREM := Lib.hid hrem
          have HCS := Lib.hid (fun (A9 : Option Addr) (cap9 : Nat) => cut_step HC.out hoj hk hkx hy A9 cap9)
          have e2 : wr.cell? ⟨bq, 3, none⟩ = some (.slice (some ⟨g, 0, none⟩) p.its.length c1) := hqb.cell rfl
          have e3 := HBKX.out.cell (j := 0) rfl
          have hgq := (HBL.out g rfl).2.2
          have hgw4 : g ≠ w4.heap.size := by have := (HBL.out g rfl).1; omega
          obtain ⟨n0, hn00⟩ : ∃ n0, x.l.length = n0 := ⟨_, rfl⟩
          rw [hn00] at d2 hn0 HREM HCS
          obtain ⟨R, hRR⟩ : ∃ R, rest.length = R := ⟨_, rfl⟩
          rw [hRR] at hn0 hrc HR HBKX e3
          have k1 : (n0 : Int) ≤ (R : Int) := by omega
          have k2 : (n0 : Int) ≤ (capb : Int) := by omega
          have k3 : n0 ≤ capb := by omega
          have HXT : Hid ((rest.take n0).length = n0) := by
            unfold Hid
            rw [List.length_take]
            omega
          have HRD : Hid ((rest.drop n0).length = R - n0) := by
            unfold Hid
            rw [List.length_drop, hRR]
          have HRR := Lib.hid hRR
          have HY := Lib.hid hy
          have hle4 : n0 ≤ 1000000 := by have := hmx x (List.mem_of_getElem? hkx); omega
          have hBCL : Hid (∀ V, Hid (Below wr.heap.size wr V) → Calls Tryd.prog 33 #[.slice Ab n0 capb] V fun e w' => ∃ A9 cap9, e = .returned (.slice A9 n0 cap9) ∧ n0 ≤ cap9 ∧ Hid (BytesAt w' A9 (rest.take n0)) ∧ Hid (∀ a, A9 = some a → wr.heap.size ≤ a.block ∧ a.block < w'.heap.size) ∧ Hid (A9 = none → rest.take n0 = [] ∧ cap9 = 0) ∧ Hid (But [g] wr w') ∧ Hid (Below wr.heap.size wr w') ∧ Hid (w'.cell? ⟨g, k * 4 + 3, none⟩ = some (.slice y.A y.l.length y.cap) ∧ w'.frozen? ⟨g, k * 4 + 3, none⟩ = false)) := by
            intro V hV
            have h1 := bclone Ab capb (rest.take n0) V ((HBY.out.take n0).below hV.out) (by rw [HXT.out]; omega) (by rw [HXT.out]; omega) (fun e => by obtain ⟨h1, h2⟩ := HNIL.out e; rw [h1]; exact ⟨by simp, h2⟩)
            rw [HXT.out] at h1
            refine h1.mono ?_
            rintro e w' ⟨v, rfl, ho, hb⟩
            have hlt := fun k hk => OwnB.lt ho (k := k) hk
            have hnn : ∀ A n c, v = .slice A n c → A = none → rest.take n0 = [] ∧ c = 0 := by
              rintro A n c rfl rfl
              rcases ho.2 with ⟨h1, h2⟩ | ⟨_, _, _, h1, _⟩
              · injection h1 with _ _ h3
                exact ⟨List.eq_nil_of_length_eq_zero h2, h3⟩
              · cases h1
            obtain ⟨A9, cap9, rfl, h2, h3, h4, h5⟩ := OwnB.form ho
            rw [HXT.out] at h2 hlt h5
            rw [h5] at hlt
            have hvw := hV.out.trans (hb.mono hV.out.size)
            refine ⟨A9, cap9, by rw [HXT.out], h2, h3, ?_, hnn _ _ _ rfl, But.of_below hvw, hvw, (hvw.cell (p := ⟨g, k * 4 + 3, none⟩) hgl).trans g3, (hvw.frozen (p := ⟨g, k * 4 + 3, none⟩) hgl).trans g4⟩
            intro a ha
            have h6 := hlt a.block (by rw [ha]; rfl)
            exact ⟨Nat.le_trans hV.out.size h6.1, h6.2⟩
          have hS16 : Hid (∀ V, Hid (But [g] wr V) → Hid (But [g] wr V) ∧ V.cell? ⟨bq, 3, none⟩ = some (.slice (some ⟨g, 0, none⟩) p.its.length c1) ∧ V.cell? ⟨w4.heap.size, 0, none⟩ = some (.slice Ab R capb)) := fun V hV =>
            ⟨hV, (HQBR.out.but hV.out (by rw [List.mem_singleton]; omega)).cell rfl, (HBKX.out.but hV.out (by rw [List.mem_singleton]; omega)).cell rfl⟩
          have cB0 : Hid (Below wr.heap.size wr wr) := Below.refl _ _
          have cU0 : Hid (But [g] wr wr) := But.refl _ _
          have s0 := hS16.out _ cU0
          have s0d := hS16.out _ (hu_drew cU0)
          clear hoj hk hkx hb ci hy hv2 hrem hn00 hRR hbw hqb g3 g4
          go_wp2_with fail
          go_region_held3 (fun V => Hid (But [g] wr V) ∧ V.cell? ⟨bq, 3, none⟩ = some (.slice (some ⟨g, 0, none⟩) p.its.length c1) ∧ V.cell? ⟨w4.heap.size, 0, none⟩ = some (.slice Ab R capb))
            (first | (with_reducible assumption) | (with_reducible exact hS16.out _ (by assumption)) | (with_reducible exact hS16.out _ (hu_drew (by assumption))) | (with_reducible exact hS16.out _ (hu_set (by assumption))) | (with_reducible exact hS16.out _ (hu_drew (hu_set (by assumption)))))
            (first
            | (go_at_call 33; refine (hBCL.out _ ?_).mono ?_; (first | (with_reducible assumption) | (with_reducible exact hb_drew (by assumption))); rintro e v1 ⟨A9, cap9, rfl, hcap9, HBY9, HA9, HNL9, hbu, hbv, HGv⟩; obtain ⟨g3, g4⟩ := HGv.out))
          obtain ⟨w14, hw14⟩ : ∃ w14, v1.setCell ⟨g, k * 4 + 3, none⟩ (.slice A9 n0 cap9) = w14 := ⟨_, rfl⟩
          rw [hw14]
          have hu14 : But [g] wr w14 := by rw [← hw14]; exact (hu_set hbu).out
          have hq14 : QIts w14 W.heap.size (.slice (some ⟨g, 0, none⟩) p.its.length c1) (its'.set k { y with l := rest.take n0, A := A9, cap := cap9 }) := by
            have hq := HQI.out.below hbv.out
            rw [← HLI.out] at hq
            have h := hq.set (c := c1) HY.out (rest.take n0) A9 cap9 HBY9.out (by rw [HXT.out]; exact hcap9) HNL9.out (fun _ a ha => by have := (HA9.out a ha).1; omega)
            rw [HXT.out, hw14, HLI.out] at h
            exact h
          have hs14 : v1.heap.size = w14.heap.size := by rw [← hw14]; simp [World.setCell]
          have hb14 : BytesAt w14 Ab rest := bytes_same HBY.out hu14.size (fun ad hA _ => hu14.block _ (by have := HAB.out ad hA; omega) (by have := HAB.out ad hA; rw [List.mem_singleton]; omega))
          have hbx14 := HBKX.out.but hu14 (by rw [List.mem_singleton]; omega)
          have c5 := hbx14.cell (j := 0) rfl
          have f5 := hbx14.free 0
          have HU14 := Lib.hid hu14
          have HQ14 := Lib.hid hq14
          have HB14 := Lib.hid hb14
          have HBX14 := Lib.hid hbx14
          have hwg : wr.heap.size ≤ w14.heap.size := hu14.size
          clear hu14 hq14 hb14 hbx14 hw14 d1 d2 e2 e3 c0 s0 s0d g3 g4
          go_wp2_with fail
          go_roundw
          case rel =>
            obtain ⟨u7, hu7⟩ : ∃ u7, Value.slice (if capb = n0 then Ab else Option.map (fun x => x.add n0) Ab) (R - n0) (capb - n0) = u7 := ⟨_, rfl⟩
            rw [hu7]
            have hF : But SB wr (w14.setCell ⟨w4.heap.size, 0, none⟩ u7) := But.set (p := ⟨w4.heap.size, 0, none⟩) (HU14.out.mono (by intro k hk _; rw [List.mem_singleton] at hk; rw [hk]; exact HOB1.out g rfl)) (.inl HBX.out) _
            have hF1 : But [w4.heap.size] w14 (w14.setCell ⟨w4.heap.size, 0, none⟩ u7) := (But.refl _ _).set (.inl (by simp)) _
            have hox : ∀ x ∈ its'.set k { y with l := rest.take n0, A := A9, cap := cap9 }, x.l ≠ [] → ∀ a, x.A = some a → a.block < w.heap.size ∨ w12.heap.size ≤ a.block := by
              intro x' hx' hl a ha
              rcases List.mem_or_eq_of_mem_set hx' with hx' | rfl
              · exact HOX.out x' hx' hl a ha
              · have := (HA9.out a ha).1; right; omega
            refine ⟨j + 1, its'.set k { y with l := rest.take n0, A := A9, cap := cap9 }, rest.drop n0, (if capb = n0 then Ab else Ab.map (·.add n0)), capb - n0, by go_num, by omega, by rw [HRD.out]; omega, ?_, HCS.out A9 cap9, HREM.out, HQ14.out.but hF1 ?_ ?_, ?_, opt_none HNIL.out, opt_block HAB.out, ?_, hox, HBT.out.trans hF⟩
            · show (its'.set k _).length = _
              rw [List.length_set]; exact HLI.out
            · intro k' hk'
              simp [Value.ownBlock] at hk'
              simp
              omega
            · intro x' hx' hl a ha
              have := hox x' hx' hl a ha
              rw [List.mem_singleton]
              omega
            · have hcut := HB14.out.cut (k := n0) (cap := capb) (by rw [HRR.out]; exact hrc)
              exact bytes_same hcut (by simp [World.setCell]) (fun ad hA _ => heap_setCell_other _ _ _ _ (by have := opt_block HAB.out ad hA; show ad.block ≠ w4.heap.size; omega))
            · have := HBX14.out.set 0 u7
              rw [HRD.out]
              show Blk _ _ #[Value.slice (if capb = n0 then Ab else Option.map (fun x => x.add n0) Ab) (R - n0) (capb - n0)] _
              rw [hu7]
              exact this
          case measure => simp [RowKit.intOf]; omega
        · have hje : j = p.its.length := by omega
          have q1 : ¬ (j : Int) < (p.its.length : Int) := by omega
          have HIT := Lib.hid (cut_end HC.out hje)
          have hzq := HQW2.out.but HBT.out (fun hk => by rcases HSB.out _ hk with h | h <;> omega)
          have HZ9 := Lib.hid hzq
          have q0 := hqb.cell (j := 0) rfl
          have q1' := hqb.cell (j := 1) rfl
          have q2 := hqb.cell (j := 2) rfl
          have q3 := hqb.cell (j := 3) rfl
          have q4 := hqb.cell (j := 4) rfl
          have q5 := hqb.cell (j := 5) rfl
          have q6 := hqb.cell (j := 6) rfl
          have z0 := hzq.cell (j := 0) rfl
          have z1 := hzq.cell (j := 1) rfl
          have z2 := hzq.cell (j := 2) rfl
          have z3 := hzq.cell (j := 3) rfl
          have z4 := hzq.cell (j := 4) rfl
          have z5 := hzq.cell (j := 5) rfl
          have z6 := hzq.cell (j := 6) rfl
          have y0 := hzq.free 0
          have y1 := hzq.free 1
          have y2 := hzq.free 2
          have y3 := hzq.free 3
          have y4 := hzq.free 4
          have y5 := hzq.free 5
          have y6 := hzq.free 6
          have hkD : wr.heap[D]? = some (.deferred (some [])) := (HBT.out.block D (by omega) (fun hk => by rcases HSB.out _ hk with h | h <;> omega)).trans HK2.out
          have HKD := Lib.hid hkD
          clear hje hzq hqb hbw hkD hlt
          go_wp2_with fail
          obtain ⟨WE, hWE⟩ : ∃ WE, ((((((wr.setCell ⟨w.heap.size + 1 + 1, 0, none⟩ (.int .u32 p.a1)).setCell ⟨w.heap.size + 1 + 1, 1, none⟩ (.int .u8 p.a2)).setCell ⟨w.heap.size + 1 + 1, 2, none⟩ (.int .u8 p.a3)).setCell ⟨w.heap.size + 1 + 1, 3, none⟩ (.slice A1 p.its.length c1)).setCell ⟨w.heap.size + 1 + 1, 4, none⟩ (.slice A2 p.ws.l.length c2)).setCell ⟨w.heap.size + 1 + 1, 5, none⟩ (.slice A3 p.gs.l.length c3)).setCell ⟨w.heap.size + 1 + 1, 6, none⟩ (.slice A4v p.ss.l.length c4) = WE := ⟨_, rfl⟩
          have hWB : Blk WE (w.heap.size + 2) #[.int .u32 p.a1, .int .u8 p.a2, .int .u8 p.a3, .slice A1 p.its.length c1, .slice A2 p.ws.l.length c2, .slice A3 p.gs.l.length c3, .slice A4v p.ss.l.length c4] 35 := by
            rw [← hWE]; exact Blk.set (Blk.set (Blk.set (Blk.set (Blk.set (Blk.set (Blk.set HZ9.out 0 _) 1 _) 2 _) 3 _) 4 _) 5 _) 6 _
          have hWbut : But [w.heap.size + 1 + 1] wr WE := by
            rw [← hWE]
            exact but_set1 (but_set1 (but_set1 (but_set1 (but_set1 (but_set1 (but_set1 (But.refl _ _) _ _) _ _) _ _) _ _) _ _) _ _) _ _
          rw [hWE]
          have hlD : D < wr.heap.size := (Array.getElem?_eq_some_iff.1 HKD.out).1
          have hKE : WE.heap[D]? = some (.deferred (some [])) := (hWbut.block D hlD (by rw [List.mem_singleton]; omega)).trans HKD.out
          refine ⟨by simp, .inl ⟨_, _, rfl, run_takeDeferred hKE, ?_⟩⟩
          have hgp := grownBy_putObj' WE D (.deferred none)
          have hWB' : Blk (WE.putObj D (.deferred none)) (w.heap.size + 2) #[.int .u32 p.a1, .int .u8 p.a2, .int .u8 p.a3, .slice A1 p.its.length c1, .slice A2 p.ws.l.length c2, .slice A3 p.gs.l.length c3, .slice A4v p.ss.l.length c4] 35 := (hgp.block _ hWB.lt (by intro e; have := Option.some.inj e; omega)).trans hWB
          have hF : But [w.heap.size + 2, D] wr (WE.putObj D (.deferred none)) := ⟨hgp.os.trans hWbut.os, hgp.tape.trans hWbut.tape, hgp.output.trans hWbut.output, Nat.le_trans hWbut.size hgp.size, fun k hk hs => (hgp.block k (Nat.lt_of_lt_of_le hk hWbut.size) (by intro e; have := Option.some.inj e; simp at hs; omega)).trans (hWbut.block k hk (by simp at hs ⊢; omega))⟩
          have hrow : ∀ {A : Option Addr} {l : List Int} {c : Nat}, OwnI w12 W.heap.size (.slice A l.length c) l → (∀ a, A = some a → ∀ a1, A1 = some a1 → a.block ≠ a1.block) → OwnI (WE.putObj D (.deferred none)) W.heap.size (.slice A l.length c) l := by
            intro A l c hr hd
            have hk : ∀ k, (Value.slice A l.length c).ownBlock = some k → ∃ a, A = some a ∧ a.block = k ∧ W.heap.size ≤ k ∧ k < w12.heap.size := by
              intro k hk
              cases A with
              | none => cases hk
              | some a =>
                have := own_lt hr a rfl
                simp [Value.ownBlock] at hk
                exact ⟨a, rfl, hk, by omega, by omega⟩
            have h1 : OwnI wr W.heap.size (.slice A l.length c) l := ownsRow_but hr HBT.out (fun k hk' hm => by
              obtain ⟨a, ha, hak, hk1, hk2⟩ := hk k hk'
              rw [← HSBE.out] at hm
              rcases List.mem_cons.1 hm with rfl | hm
              · omega
              · cases hA1 : A1 with
                | none => rw [hA1] at hm; simp [Value.ownBlock] at hm
                | some a1 =>
                  rw [hA1] at hm
                  simp [Value.ownBlock] at hm
                  exact hd a ha a1 hA1 (by omega))
            exact ownsRow_but h1 hF (fun k hk' hm => by
              obtain ⟨a, ha, hak, hk1, hk2⟩ := hk k hk'
              simp at hm
              omega)
          have hQF := HQI.out.but hF (fun k hk hm => by have := HBL.out k hk; simp at hm; omega) (fun x hx hl a ha hm => by have := HOX.out x hx hl a ha; simp at hm; omega)
          refine ⟨_, results_cell2t rfl _ _ (w.heap.size + 2) 35 _ _ rfl hWB' Tryd.underlying35 rfl (by kernel_rfl), ⟨p.a1, p.a2, p.a3, its', A1, c1, ⟨p.ws.l, A2, c2⟩, ⟨p.gs.l, A3, c3⟩, ⟨p.ss.l, A4v, c4⟩⟩, ?_, newP_ok hQF HLI.out _ _ _ ((hrow R2'.out (fun a ha a1 h1 => HDJ.out a1 a h1 (.inl ha))).nums H.out.ws.wrap) ((hrow R3'.out (fun a ha a1 h1 => HDJ.out a1 a h1 (.inr (.inl ha)))).nums H.out.gs.wrap) ((hrow R4'.out (fun a ha a1 h1 => HDJ.out a1 a h1 (.inr (.inr ha)))).nums H.out.ss.wrap) H.out.a1 H.out.a2 H.out.a3, ⟨rfl, rfl, rfl, HIT.out, rfl, rfl, rfl⟩, HBWR.out.trans (hF.below HBWR.out.size (by intro k hk; simp at hk; omega))⟩
          dsimp only
          rw [HLI.out]
          rfl

end
end Go.Proofs.YtbflcikfaoojmaaDoor.Edit

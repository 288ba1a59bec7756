/- whispererref20.all. -/
import Derived.Test.YtbflcikfaoojmaaDoorGP2
import Derived.Test.YtbflcikfaoojmaaDoorGS3
import Derived.Deep.RegionHeldLaw
set_option linter.unusedVariables false
set_option linter.unusedSimpArgs false
namespace Go.Proofs.YtbflcikfaoojmaaDoor.Edit
open Go.RowKit Go.Lib Go.Shelf ChangeShapes Mem Utf UtfP

theorem step_append_bytes {w : World} {ops : Array Oper} {o : Oper} {a : Act} {K : Act → World → Prop} {Q : Exit → Act → World → Prop} {E : Prop} (hgd : o.guard = none) (s x : Operand) (d : Option Tmp) (hdst : o.dst = d)
    (ho : o.op = .call { callee := .builtin .append, args := #[s, x], argTypes := #[47, 47] })
    {B : Nat} {v : Value} {l : List UInt8} (hs : a.eval s = v) (hown : OwnB w B v l) {A : Option Addr} {src : List UInt8} {n c : Nat} (hx : a.eval x = .slice A n c) (hn : src.length = n) (hsrc : BytesAt w A src)
    (hb : l.length + src.length ≤ 17592186044416) (hbase : B ≤ w.heap.size)
    (h : ∀ v' w', OwnB w' B v' (l ++ src) → w.grownBy w' v.ownBlock → K (a.put d v') w') :
    if Region.wanted o (yielded ops a.tmps) = true then Oper.wp Tryd.prog o a w K Q else E := by
  have hw : Region.wanted o (yielded ops a.tmps) = true := by simp [Region.wanted, hgd]
  rw [if_pos hw]
  subst hdst
  subst hn
  refine wp_append_cells s x ho Tryd.underlying47 infoU8 rfl (by decide) hs hown hx (by rw [cellsU_length, Nat.mul_one]) hsrc.cells ?_ ?_ ?_ hbase ?_
  · intro u hu
    obtain ⟨c, _, rfl⟩ := List.mem_map.1 hu
    rfl
  · unfold maxLen; omega
  · omega
  · intro v' w' h2 h3
    refine h v' w' ?_ h3
    unfold OwnB
    rw [List.length_append, cellsU_append]
    exact h2

set_option maxRecDepth 100000 in
set_option maxHeartbeats 4000000 in
theorem rall_c (p : Pl) (w : World) (h : p.Ok w) (hn : p.its.length ≤ 300) (hm : ∀ x ∈ p.its, x.l.length ≤ 4000) : Calls Tryd.prog 39 #[p.v] w fun e w' => ∃ v, e = .returned v ∧ OwnB w' w.heap.size v (allE p.its) ∧ Below w.heap.size w w' := by
  obtain ⟨W0, hW0⟩ : ∃ W0, w.alloc (.cells p.cs 35) = W0 := ⟨_, rfl⟩
  have hb0 : Below w.heap.size w W0 := by rw [← hW0]; exact (Below.refl _ w).alloc (Nat.le_refl _) _
  have hp0 : Blk W0 w.heap.size p.cs 35 := by rw [← hW0]; exact Blk.new _ _ _
  have HO := Lib.hid (rorder_c p W0 (h.below hb0) hn)
  have HOK0 := Lib.hid (h.below hb0)
  have HP := Lib.hid hp0
  have hs0 : W0.heap.size = w.heap.size + 1 := by rw [← hW0]; simp
  have HB0 := Lib.hid hb0
  have HMM := Lib.hid hm
  have p0 : W0.cell? ⟨w.heap.size, 0, none⟩ = some (.int .u32 p.a1) := hp0.cell rfl
  have p1 : W0.cell? ⟨w.heap.size, 1, none⟩ = some (.int .u8 p.a2) := hp0.cell rfl
  have p2 : W0.cell? ⟨w.heap.size, 2, none⟩ = some (.int .u8 p.a3) := hp0.cell rfl
  have p3 : W0.cell? ⟨w.heap.size, 3, none⟩ = some (.slice p.B p.its.length p.cap) := hp0.cell rfl
  have p4 : W0.cell? ⟨w.heap.size, 4, none⟩ = some (.slice p.ws.A p.ws.l.length p.ws.cap) := hp0.cell rfl
  have p5 : W0.cell? ⟨w.heap.size, 5, none⟩ = some (.slice p.gs.A p.gs.l.length p.gs.cap) := hp0.cell rfl
  have p6 : W0.cell? ⟨w.heap.size, 6, none⟩ = some (.slice p.ss.A p.ss.l.length p.ss.cap) := hp0.cell rfl
  clear h hp0 hb0 hm
  unfold Pl.v at HO ⊢
  unfold Pl.cs at HO hW0 ⊢
  go_enter Tryd.func39, Tryd.ntmps39
  go_wp2_with fail
  refine (HO.out).mono ?_
  rintro e w1 ⟨v, rfl, hov, hb1⟩
  obtain ⟨A1, c1, rfl, hc1⟩ := hov.form
  have hlen := ordE_len p.its
  rw [hlen] at hov hc1 ⊢
  have HB1 := Lib.hid (HB0.out.trans (hb1.mono (by omega)))
  have HOV := Lib.hid hov
  have HOK := Lib.hid (HOK0.out.below hb1)
  have HBX := Lib.hid (HP.out.but (But.of_below (S := []) hb1) (by intro h; cases h))
  have hs1 := HB1.out.size
  have HLE := Lib.hid hlen
  clear hb1 hov p0 p1 p2 p3 p4 p5 p6 HO HP hW0 hlen
  go_wp2_with fail
  go_loopw [3, 5] (fun b i wr => ∃ j : Nat, i = .int .i64 (j : Int) ∧ j ≤ p.its.length ∧ Hid (OwnB wr w1.heap.size b (allP p.its j)) ∧ Hid (Below w1.heap.size w1 wr)) (fun _ i _ => p.its.length - (RowKit.intOf i).toNat)
  case atStart => exact ⟨0, rfl, by omega, OwnB.nil _ _, Below.refl _ _⟩
  case round =>
    obtain ⟨j, rfl, hj, HO2, HB2⟩ := hrel
    by_cases hlt : j < p.its.length
    · have q1 : (j : Int) < (p.its.length : Int) := by omega
      obtain ⟨i, hoj⟩ : ∃ i, (ordE p.its)[j]? = some i := ⟨_, List.getElem?_eq_getElem (by rw [HLE.out]; exact hlt)⟩
      obtain ⟨k, x, hk, hkx, _⟩ := (ordE_mem.1 (List.mem_of_getElem? hoj)).get
      obtain ⟨g, c', hv, hgB, _, hrow⟩ := HOV.out.row (by intro e; rw [e] at hoj; cases hoj)
      injection hv with hv1 hv2 hv3
      rw [hv1]
      have c0 := (HB2.out.cell (p := ⟨g, j, none⟩) hrow.lt).trans (hrow.cell (t := j) (by rw [HLE.out]; exact hlt))
      rw [List.getD_eq_getElem?_getD, hoj] at c0
      obtain ⟨b, off, hb, hbl, _, _, _, ci⟩ := HOK.out.its.at hkx
      have hkl : k < p.its.length := (List.getElem?_eq_some_iff.1 hkx).1
      have q2 : (k : Int) < (p.its.length : Int) := by omega
      have c1 : wr.cell? ⟨w.heap.size, 1 + 2, none⟩ = some (.slice (some ⟨b, off, none⟩) p.its.length p.cap) := by
        rw [HB2.out.cell (p := ⟨w.heap.size, 1 + 2, none⟩) HBX.out.lt, ← hb]
        exact HBX.out.cell (j := 3) rfl
      have c2 := (HB2.out.cell (p := ⟨b, off + k * 4 + 3, none⟩) hbl).trans ci
      rw [hk] at c0
      replace c0 : wr.cell? ⟨g, j, none⟩ = some (.int .i64 (k : Int)) := c0
      have hxo := HOK.out.its.ok x (List.mem_of_getElem? hkx)
      have HXB := Lib.hid (hxo.bytes.below HB2.out)
      have HAP := Lib.hid (allP_succ hoj)
      rw [hk, dat_of hkx] at HAP
      have hxl := HMM.out x (List.mem_of_getElem? hkx)
      have hxc := hxo.cap
      have hpl := allP_le HMM.out j
      have hs2 := HB2.out.size
      obtain ⟨P, hP⟩ : ∃ P, allP p.its j = P := ⟨_, rfl⟩
      rw [hP] at HO2 HAP hpl
      clear hoj hk ci hxo hb hP hrow hv3 hv1 hv2
      go_wp2_with fail
      go_region_law (refine step_append_bytes (l := P) (src := x.l) rfl (.tmp 14) (.tmp 23) (some 24) rfl rfl rfl HO2.out rfl rfl HXB.out (by omega) hs2 ?_; intro v' w2 ho2 hg2)
      all_goals
        have HO3 := Lib.hid ho2
        have hb2 : Below w1.heap.size w1 w2 := Below.of_grown HB2.out.drew hg2 hs2 (fun k hk => (HO2.out.lt hk).1)
        have HB3 := Lib.hid hb2
        clear ho2 hg2 hb2
        go_wp2_with fail
        go_roundw
        case rel => exact ⟨j + 1, by go_num, by omega, by rw [HAP.out]; exact HO3.out, HB3.out⟩
        case measure => simp [RowKit.intOf]; omega
    · have hje : j = p.its.length := by omega
      rw [hje, allP_all] at HO2
      have q1 : ¬ (j : Int) < (p.its.length : Int) := by omega
      have hs1 := HB1.out.size
      clear hje
      go_wp2_with fail
      go_ret
      exact ⟨_, rfl, HO2.out.base hs1, HB1.out.trans (HB2.out.mono hs1)⟩

end Go.Proofs.YtbflcikfaoojmaaDoor.Edit

/- whispererlaw20.same, of plans that are the same. -/
import Derived.Test.YtbflcikfaoojmaaDoorGP1
import Derived.Test.YtbflcikfaoojmaaDoorGP2
import Derived.Test.YtbflcikfaoojmaaDoorGB
set_option linter.unusedVariables false
set_option linter.unusedSimpArgs false
namespace Go.Proofs.YtbflcikfaoojmaaDoor.Edit
open Go.RowKit Go.Lib Go.Shelf ChangeShapes Mem Utf UtfP

attribute [local go_sem] run_store_float

/-- what an item holds, wherever it lies -/
def It.core (x : It) : Nat × Int × Int × List UInt8 := (x.t, x.k, x.n, x.l)
structure SameP (p q : Pl) : Prop where
  a1 : p.a1 = q.a1
  a2 : p.a2 = q.a2
  a3 : p.a3 = q.a3
  its : p.its.map It.core = q.its.map It.core
  ws : p.ws.l = q.ws.l
  gs : p.gs.l = q.gs.l
  ss : p.ss.l = q.ss.l
theorem SameP.symm {p q : Pl} (h : SameP p q) : SameP q p := ⟨h.a1.symm, h.a2.symm, h.a3.symm, h.its.symm, h.ws.symm, h.gs.symm, h.ss.symm⟩
theorem SameP.trans {p q r : Pl} (h : SameP p q) (h' : SameP q r) : SameP p r := ⟨h.a1.trans h'.a1, h.a2.trans h'.a2, h.a3.trans h'.a3, h.its.trans h'.its, h.ws.trans h'.ws, h.gs.trans h'.gs, h.ss.trans h'.ss⟩
theorem Nums.Ok.at {w : World} {x : Nums} (h : x.Ok w) {j : Nat} {i : Int} (hj : x.l[j]? = some i) : ∃ b off, x.A = some ⟨b, off, none⟩ ∧ b < w.heap.size ∧ w.cell? ⟨b, off + j, none⟩ = some (.int .i64 i) := by
  have h0 : (x.l.map fun i => Value.int .i64 i)[j]? = some (.int .i64 i) := by rw [List.getElem?_map, hj]; rfl
  obtain ⟨b, off, hb, hl, hc⟩ := h.row (by intro e; rw [e] at h0; cases h0)
  exact ⟨b, off, hb, hl, hc _ _ h0⟩

set_option maxRecDepth 100000 in
set_option maxHeartbeats 8000000 in
theorem same_c (p q : Pl) (w : World) (hp : p.Ok w) (hq : q.Ok w) (hs : SameP p q) (hn : p.its.length ≤ 300) (hw : p.ws.l.length + p.gs.l.length + p.ss.l.length ≤ 4000) : Calls Tryd.prog 18 #[p.v, q.v] w fun e w' => e = .returned (.bool true) ∧ Below w.heap.size w w' := by
  obtain ⟨W0, hW0⟩ : ∃ W0, (w.alloc (.cells p.cs 35)).alloc (.cells q.cs 35) = W0 := ⟨_, rfl⟩
  have hb0 : Below w.heap.size w W0 := by rw [← hW0]; exact ((Below.refl _ w).alloc (Nat.le_refl _) _).alloc (by simp) _
  have hp0 : Blk W0 w.heap.size p.cs 35 := by rw [← hW0]; exact (Blk.new _ _ _).alloc _
  have hq0 : Blk W0 (w.heap.size + 1) q.cs 35 := by
    have := Blk.new (w.alloc (.cells p.cs 35)) q.cs 35
    rw [World.size_alloc] at this
    rw [← hW0]; exact this
  have hs0 : W0.heap.size = w.heap.size + 2 := by rw [← hW0]; simp
  have hlen : q.its.length = p.its.length := by have := congrArg List.length hs.its; simpa using this.symm
  have e1 := hs.a1
  have e2 := hs.a2
  have e3 := hs.a3
  have e4 := hs.ws
  have e5 := hs.gs
  have e6 := hs.ss
  have H := Lib.hid (hp.below hb0)
  have H' := Lib.hid (hq.below hb0)
  have HB0 := Lib.hid hb0
  have HS := Lib.hid hs
  have c0 : W0.cell? ⟨w.heap.size, 0, none⟩ = some (.int .u32 p.a1) := hp0.cell rfl
  have c1 : W0.cell? ⟨w.heap.size, 1, none⟩ = some (.int .u8 p.a2) := hp0.cell rfl
  have c2 : W0.cell? ⟨w.heap.size, 2, none⟩ = some (.int .u8 p.a3) := hp0.cell rfl
  have c3 : W0.cell? ⟨w.heap.size, 3, none⟩ = some (.slice p.B p.its.length p.cap) := hp0.cell rfl
  have c4 : W0.cell? ⟨w.heap.size, 4, none⟩ = some (.slice p.ws.A p.ws.l.length p.ws.cap) := hp0.cell rfl
  have c5 : W0.cell? ⟨w.heap.size, 5, none⟩ = some (.slice p.gs.A p.gs.l.length p.gs.cap) := hp0.cell rfl
  have c6 : W0.cell? ⟨w.heap.size, 6, none⟩ = some (.slice p.ss.A p.ss.l.length p.ss.cap) := hp0.cell rfl
  have d0 : W0.cell? ⟨w.heap.size + 1, 0, none⟩ = some (.int .u32 p.a1) := hq0.cell (by rw [e1]; rfl)
  have d1 : W0.cell? ⟨w.heap.size + 1, 1, none⟩ = some (.int .u8 p.a2) := hq0.cell (by rw [e2]; rfl)
  have d2 : W0.cell? ⟨w.heap.size + 1, 2, none⟩ = some (.int .u8 p.a3) := hq0.cell (by rw [e3]; rfl)
  have d3 : W0.cell? ⟨w.heap.size + 1, 3, none⟩ = some (.slice q.B p.its.length q.cap) := hq0.cell (by rw [← hlen]; rfl)
  have d4 : W0.cell? ⟨w.heap.size + 1, 4, none⟩ = some (.slice q.ws.A p.ws.l.length q.ws.cap) := hq0.cell (by rw [e4]; rfl)
  have d5 : W0.cell? ⟨w.heap.size + 1, 5, none⟩ = some (.slice q.gs.A p.gs.l.length q.gs.cap) := hq0.cell (by rw [e5]; rfl)
  have d6 : W0.cell? ⟨w.heap.size + 1, 6, none⟩ = some (.slice q.ss.A p.ss.l.length q.ss.cap) := hq0.cell (by rw [e6]; rfl)
  have HX : Hid (∀ V, Below W0.heap.size W0 V → V.cell? ⟨w.heap.size, 3, none⟩ = some (.slice p.B p.its.length p.cap) ∧ V.cell? ⟨w.heap.size, 4, none⟩ = some (.slice p.ws.A p.ws.l.length p.ws.cap) ∧ V.cell? ⟨w.heap.size, 5, none⟩ = some (.slice p.gs.A p.gs.l.length p.gs.cap) ∧ V.cell? ⟨w.heap.size, 6, none⟩ = some (.slice p.ss.A p.ss.l.length p.ss.cap) ∧ V.cell? ⟨w.heap.size + 1, 3, none⟩ = some (.slice q.B p.its.length q.cap) ∧ V.cell? ⟨w.heap.size + 1, 4, none⟩ = some (.slice q.ws.A p.ws.l.length q.ws.cap) ∧ V.cell? ⟨w.heap.size + 1, 5, none⟩ = some (.slice q.gs.A p.gs.l.length q.gs.cap) ∧ V.cell? ⟨w.heap.size + 1, 6, none⟩ = some (.slice q.ss.A p.ss.l.length q.ss.cap)) := fun V hV =>
    ⟨(hV.cell (p := ⟨w.heap.size, 3, none⟩) hp0.lt).trans c3, (hV.cell (p := ⟨w.heap.size, 4, none⟩) hp0.lt).trans c4, (hV.cell (p := ⟨w.heap.size, 5, none⟩) hp0.lt).trans c5, (hV.cell (p := ⟨w.heap.size, 6, none⟩) hp0.lt).trans c6, (hV.cell (p := ⟨w.heap.size + 1, 3, none⟩) hq0.lt).trans d3, (hV.cell (p := ⟨w.heap.size + 1, 4, none⟩) hq0.lt).trans d4, (hV.cell (p := ⟨w.heap.size + 1, 5, none⟩) hq0.lt).trans d5, (hV.cell (p := ⟨w.heap.size + 1, 6, none⟩) hq0.lt).trans d6⟩
  have HLEN := Lib.hid hlen
  clear hp hq hs hp0 hq0 hb0 e1 e2 e3 e4 e5 e6 hlen
  unfold Pl.v
  unfold Pl.cs at hW0 ⊢
  go_enter Tryd.func18, Tryd.ntmps18
  go_wp2_with fail
  (try rw [hW0])
  clear hW0
  go_loopw [55] (fun i wr => ∃ j : Nat, i = .int .i64 (j : Int) ∧ j ≤ p.its.length ∧ Hid (Below W0.heap.size W0 wr)) (fun i _ => p.its.length - (RowKit.intOf i).toNat)
  case atStart => exact ⟨0, rfl, by omega, Below.refl _ _⟩
  case round =>
    obtain ⟨j, rfl, hj, HB⟩ := hrel
    have hsr := HB.out.size
    obtain ⟨x3, x4, x5, x6, y3, y4, y5, y6⟩ := HX.out _ HB.out
    by_cases hlt : j < p.its.length
    · obtain ⟨x, hx⟩ : ∃ x, p.its[j]? = some x := ⟨_, List.getElem?_eq_getElem hlt⟩
      obtain ⟨y, hy⟩ : ∃ y, q.its[j]? = some y := ⟨_, List.getElem?_eq_getElem (by rw [HLEN.out]; exact hlt)⟩
      have hxy : x.core = y.core := by
        have h1 : (p.its.map It.core)[j]? = some x.core := by rw [List.getElem?_map, hx]; rfl
        have h2 : (q.its.map It.core)[j]? = some y.core := by rw [List.getElem?_map, hy]; rfl
        rw [HS.out.its, h2] at h1
        exact (Option.some.inj h1).symm
      obtain ⟨b, off, hb, hbl, k0, k1, k2, k3⟩ := H.out.its.at hx
      obtain ⟨b2, off2, hb2, hbl2, m0, m1, m2, m3⟩ := H'.out.its.at hy
      have hby1 := (H.out.its.ok x (List.mem_of_getElem? hx)).bytes
      have hby2 := (H'.out.its.ok y (List.mem_of_getElem? hy)).bytes
      obtain ⟨t, k, n, l, A, cap⟩ := x
      obtain ⟨t2, kk2, n2, l2, A2, cap2⟩ := y
      have hxy' : (t, k, n, l) = (t2, kk2, n2, l2) := hxy
      obtain ⟨rfl, rfl, rfl, rfl⟩ : t = t2 ∧ k = kk2 ∧ n = n2 ∧ l = l2 := by simpa using hxy'
      dsimp only at k0 k1 k2 k3 m0 m1 m2 m3 hby1 hby2
      replace k0 := (HB.out.cell (p := ⟨b, off + j * 4, none⟩) hbl).trans k0
      replace k1 := (HB.out.cell (p := ⟨b, off + j * 4 + 1, none⟩) hbl).trans k1
      replace k2 := (HB.out.cell (p := ⟨b, off + j * 4 + 2, none⟩) hbl).trans k2
      replace k3 := (HB.out.cell (p := ⟨b, off + j * 4 + 3, none⟩) hbl).trans k3
      replace m0 := (HB.out.cell (p := ⟨b2, off2 + j * 4, none⟩) hbl2).trans m0
      replace m1 := (HB.out.cell (p := ⟨b2, off2 + j * 4 + 1, none⟩) hbl2).trans m1
      replace m2 := (HB.out.cell (p := ⟨b2, off2 + j * 4 + 2, none⟩) hbl2).trans m2
      replace m3 := (HB.out.cell (p := ⟨b2, off2 + j * 4 + 3, none⟩) hbl2).trans m3
      have q1 : (j : Int) < (p.its.length : Int) := by omega
      rw [hb] at x3
      rw [hb2] at y3
      rw [hb]
      have hbits := fun W => fl_bits t W
      have hb1l : b < wr.heap.size := by omega
      have hb2l : b2 < wr.heap.size := by omega
      have hll : p.its.length = p.its.length := rfl
      have HBY1 := Lib.hid (hby1.below HB.out)
      have HBY2 := Lib.hid (hby2.below HB.out)
      clear hx hy hxy hxy' hb hb2 hby1 hby2 hll
      go_upto_region 6 with fail
      obtain ⟨wk, hwk⟩ : ∃ wk, wr.alloc (.cells #[.float .f64 t, .int .i64 k, .int .i64 n, .slice A l.length cap] 49) = wk := ⟨_, rfl⟩
      have hbk : Below wr.heap.size wr wk := by rw [← hwk]; exact (Below.refl _ _).alloc (Nat.le_refl _) _
      have hBk : Blk wk wr.heap.size #[.float .f64 t, .int .i64 k, .int .i64 n, .slice A l.length cap] 49 := by rw [← hwk]; exact Blk.new _ _ _
      have y3' := (hbk.cell (p := ⟨w.heap.size + 1, 3, none⟩) (by show w.heap.size + 1 < _; omega)).trans y3
      have m0' := (hbk.cell (p := ⟨b2, off2 + j * 4, none⟩) (by show b2 < _; omega)).trans m0
      have m1' := (hbk.cell (p := ⟨b2, off2 + j * 4 + 1, none⟩) (by show b2 < _; omega)).trans m1
      have m2' := (hbk.cell (p := ⟨b2, off2 + j * 4 + 2, none⟩) (by show b2 < _; omega)).trans m2
      have m3' := (hbk.cell (p := ⟨b2, off2 + j * 4 + 3, none⟩) (by show b2 < _; omega)).trans m3
      have HBK := Lib.hid hbk
      have HKK := Lib.hid hBk
      have hskl := hBk.lt
      rw [hwk]
      clear hwk hbk hBk k0 k1 k2 k3 m0 m1 m2 m3 x3 x4 x5 x6 y3 y4 y5 y6
      go_upto_region 7 with fail
      obtain ⟨wl, hwl⟩ : ∃ wl, wk.alloc (.cells #[.float .f64 t, .int .i64 k, .int .i64 n, .slice A2 l.length cap2] 49) = wl := ⟨_, rfl⟩
      have hbl3 : Below wk.heap.size wk wl := by rw [← hwl]; exact (Below.refl _ _).alloc (Nat.le_refl _) _
      have hBl : Blk wl wk.heap.size #[.float .f64 t, .int .i64 k, .int .i64 n, .slice A2 l.length cap2] 49 := by rw [← hwl]; exact Blk.new _ _ _
      have hBk := HKK.out.but (But.of_below (S := []) hbl3) List.not_mem_nil
      have u0 := hBk.cell (j := 0) rfl
      have u1 := hBk.cell (j := 1) rfl
      have u2 := hBk.cell (j := 2) rfl
      have u3 := hBk.cell (j := 3) rfl
      have v0 := hBl.cell (j := 0) rfl
      have v1 := hBl.cell (j := 1) rfl
      have v2 := hBl.cell (j := 2) rfl
      have v3 := hBl.cell (j := 3) rfl
      have hbrl := HBK.out.trans (hbl3.mono HBK.out.size)
      have z1 := fun m => conv_str (w := wl.drewN m) (cap := cap) (HBY1.out.below (below_drews hbrl m))
      have z2 := fun m => conv_str (w := wl.drewN m) (cap := cap2) (HBY2.out.below (below_drews hbrl m))
      have HBL := Lib.hid (HB.out.trans (hbrl.mono hsr))
      rw [hwl]
      clear hwl hbl3 hBl hBk hbrl y3' m0' m1' m2' m3'
      go_quiet (fail)
      go_wp2_with fail
      go_roundw
      case rel => exact ⟨j + 1, by go_num, by omega, below_drews HBL.out _⟩
      case measure => simp [RowKit.intOf]; omega
    · have q1 : ¬ (j : Int) < (p.its.length : Int) := by omega
      clear hlt
      go_wp2_with fail
      have HBA := HB
      clear x3 x4 x5 x6 y3 y4 y5 y6
      go_loopw [99] (fun i wr => ∃ j : Nat, i = .int .i64 (j : Int) ∧ j ≤ p.ws.l.length ∧ Hid (Below W0.heap.size W0 wr)) (fun i _ => p.ws.l.length - (RowKit.intOf i).toNat)
      case atStart => exact ⟨0, rfl, by omega, HBA.out⟩
      case round =>
        obtain ⟨j, rfl, hj, HB⟩ := hrel
        obtain ⟨x3, x4, x5, x6, y3, y4, y5, y6⟩ := HX.out _ HB.out
        by_cases hlt : j < p.ws.l.length
        · obtain ⟨z, hz⟩ : ∃ z, p.ws.l[j]? = some z := ⟨_, List.getElem?_eq_getElem hlt⟩
          obtain ⟨b, off, hb, hbl, k0⟩ := H.out.ws.at hz
          obtain ⟨b2, off2, hb2, hbl2, k1⟩ := H'.out.ws.at (by rw [← HS.out.ws]; exact hz)
          replace k0 := (HB.out.cell (p := ⟨b, off + j, none⟩) hbl).trans k0
          replace k1 := (HB.out.cell (p := ⟨b2, off2 + j, none⟩) hbl2).trans k1
          have q1 : (j : Int) < (p.ws.l.length : Int) := by omega
          rw [hb] at x4
          rw [hb2] at y4
          clear hz hb hb2
          go_wp2_with fail
          go_quiet (fail)
          go_wp2_with fail
          go_roundw
          case rel => exact ⟨j + 1, by go_num, by omega, below_drews HB.out _⟩
          case measure => simp [RowKit.intOf]; omega
        · have q1 : ¬ (j : Int) < (p.ws.l.length : Int) := by omega
          clear hlt
          go_wp2_with fail
          have HBA := HB
          clear x3 x4 x5 x6 y3 y4 y5 y6
          go_loopw [117] (fun i wr => ∃ j : Nat, i = .int .i64 (j : Int) ∧ j ≤ p.gs.l.length ∧ Hid (Below W0.heap.size W0 wr)) (fun i _ => p.gs.l.length - (RowKit.intOf i).toNat)
          case atStart => exact ⟨0, rfl, by omega, HBA.out⟩
          case round =>
            obtain ⟨j, rfl, hj, HB⟩ := hrel
            obtain ⟨x3, x4, x5, x6, y3, y4, y5, y6⟩ := HX.out _ HB.out
            by_cases hlt : j < p.gs.l.length
            · obtain ⟨z, hz⟩ : ∃ z, p.gs.l[j]? = some z := ⟨_, List.getElem?_eq_getElem hlt⟩
              obtain ⟨b, off, hb, hbl, k0⟩ := H.out.gs.at hz
              obtain ⟨b2, off2, hb2, hbl2, k1⟩ := H'.out.gs.at (by rw [← HS.out.gs]; exact hz)
              replace k0 := (HB.out.cell (p := ⟨b, off + j, none⟩) hbl).trans k0
              replace k1 := (HB.out.cell (p := ⟨b2, off2 + j, none⟩) hbl2).trans k1
              have q1 : (j : Int) < (p.gs.l.length : Int) := by omega
              rw [hb] at x5
              rw [hb2] at y5
              clear hz hb hb2
              go_wp2_with fail
              go_quiet (fail)
              go_wp2_with fail
              go_roundw
              case rel => exact ⟨j + 1, by go_num, by omega, below_drews HB.out _⟩
              case measure => simp [RowKit.intOf]; omega
            · have q1 : ¬ (j : Int) < (p.gs.l.length : Int) := by omega
              clear hlt
              go_wp2_with fail
              have HBA := HB
              clear x3 x4 x5 x6 y3 y4 y5 y6
              go_loopw [135] (fun i wr => ∃ j : Nat, i = .int .i64 (j : Int) ∧ j ≤ p.ss.l.length ∧ Hid (Below W0.heap.size W0 wr)) (fun i _ => p.ss.l.length - (RowKit.intOf i).toNat)
              case atStart => exact ⟨0, rfl, by omega, HBA.out⟩
              case round =>
                obtain ⟨j, rfl, hj, HB⟩ := hrel
                obtain ⟨x3, x4, x5, x6, y3, y4, y5, y6⟩ := HX.out _ HB.out
                by_cases hlt : j < p.ss.l.length
                · obtain ⟨z, hz⟩ : ∃ z, p.ss.l[j]? = some z := ⟨_, List.getElem?_eq_getElem hlt⟩
                  obtain ⟨b, off, hb, hbl, k0⟩ := H.out.ss.at hz
                  obtain ⟨b2, off2, hb2, hbl2, k1⟩ := H'.out.ss.at (by rw [← HS.out.ss]; exact hz)
                  replace k0 := (HB.out.cell (p := ⟨b, off + j, none⟩) hbl).trans k0
                  replace k1 := (HB.out.cell (p := ⟨b2, off2 + j, none⟩) hbl2).trans k1
                  have q1 : (j : Int) < (p.ss.l.length : Int) := by omega
                  rw [hb] at x6
                  rw [hb2] at y6
                  clear hz hb hb2
                  go_wp2_with fail
                  go_quiet (fail)
                  go_wp2_with fail
                  go_roundw
                  case rel => exact ⟨j + 1, by go_num, by omega, below_drews HB.out _⟩
                  case measure => simp [RowKit.intOf]; omega
                · have q1 : ¬ (j : Int) < (p.ss.l.length : Int) := by omega
                  clear hlt
                  go_wp2_with fail
                  have HBA := HB
                  clear x3 x4 x5 x6 y3 y4 y5 y6
                  go_ret
                  exact ⟨rfl, HB0.out.trans (HB.out.mono (by omega))⟩

end Go.Proofs.YtbflcikfaoojmaaDoor.Edit

/- All bytes of a plan of one item; copies; the iterator's maker. -/
import Derived.Test.YtbflcikfaoojmaaDoorTw7
set_option linter.unusedVariables false
set_option linter.unusedSimpArgs false
namespace Go.Proofs.YtbflcikfaoojmaaDoor.Edit
open Go.RowKit Go.Lib Go.Shelf ChangeShapes Mem Utf UtfP

set_option maxRecDepth 100000 in
set_option maxHeartbeats 1000000 in
theorem all1 (bi : Nat) (A : Option Addr) (cap : Nat) (l : List UInt8) (w : World) (h : OneP w bi A cap l) (hm : l.length ≤ 1000000) : Calls Tryd.prog 31 #[planV bi 1] w fun e w' => ∃ v, e = .returned v ∧ OwnB w' w.heap.size v l ∧ Below w.heap.size w w' := by
  have hlt := h.lt
  obtain ⟨W0, hW0⟩ : ∃ W0, w.alloc (.cells #[.int .u32 0, .int .u8 0, .int .u8 0, .slice (some ⟨bi, 0, none⟩) 1 1, .slice none 0 0, .slice none 0 0, .slice none 0 0] 35) = W0 := ⟨_, rfl⟩
  have hb0 : Below w.heap.size w W0 := by rw [← hW0]; exact (Below.refl _ w).alloc (Nat.le_refl _) _
  have hp0 : Blk W0 w.heap.size #[.int .u32 0, .int .u8 0, .int .u8 0, .slice (some ⟨bi, 0, none⟩) 1 1, .slice none 0 0, .slice none 0 0, .slice none 0 0] 35 := by rw [← hW0]; exact Blk.new _ _ _
  have HO := Lib.hid (order1 bi A cap l W0 (h.below hb0))
  have H := Lib.hid h
  have HP := Lib.hid hp0
  have hs0 : W0.heap.size = w.heap.size + 1 := by rw [← hW0]; simp
  have HB0 := Lib.hid hb0
  have p0 := hp0.cell (j := 0) rfl
  have p1 := hp0.cell (j := 1) rfl
  have p2 := hp0.cell (j := 2) rfl
  have p3 := hp0.cell (j := 3) rfl
  have p4 := hp0.cell (j := 4) rfl
  have p5 := hp0.cell (j := 5) rfl
  have p6 := hp0.cell (j := 6) rfl
  clear h hp0 hb0
  unfold planV at HO ⊢
  go_enter Tryd.func31, Tryd.ntmps31
  go_wp2_with fail
  refine (HO.out).mono ?_
  rintro e w1 ⟨g, rfl, hg, hb1⟩
  have HB1 := Lib.hid (HB0.out.trans (hb1.mono (by omega)))
  have HB1' := Lib.hid hb1
  have hs1 := hb1.size
  clear hb1 p0 p1 p2 p3 p4 p5 p6
  go_wp2
  go_loopw [3, 9] (fun b i wr => ∃ j : Nat, i = .int .i64 (j : Int) ∧ j ≤ 1 ∧ Hid (OwnB wr w.heap.size b (if j = 0 then [] else l)) ∧ Hid (Below w.heap.size w wr) ∧ (j = 0 → wr = w1)) (fun _ i _ => 1 - (RowKit.intOf i).toNat)
  case atStart => exact ⟨0, rfl, by omega, OwnB.nil _ _, HB1.out, fun _ => rfl⟩
  case round =>
    obtain ⟨j, rfl, hj, HO2, HB2, hw⟩ := hrel
    by_cases hj0 : j = 0
    · subst hj0
      obtain rfl := hw rfl
      rw [if_pos rfl] at HO2
      have H1 := H.out.below HB1.out
      have q3 := (H1.row.cell (j := 3) rfl)
      have p3 := (HP.out.but (But.of_below (S := []) HB1'.out) (by intro h; cases h)).cell (j := 3) rfl
      have HBY := Lib.hid H1.bytes
      have hcap := H1.cap
      clear H1 hw
      go_wp2_with (at_builtin; (refine wpList_append_bytes (l := []) (src := l) rfl _ _ rfl rfl HO2.out rfl rfl HBY.out ?_ ?_ ?_))
      · show 0 + l.length ≤ _; omega
      · omega
      intro v' w2 ho2 hg2
      have HO3 := Lib.hid ho2
      have hb2 : Below w.heap.size w w2 := Below.of_grown HB2.out hg2 (by omega) (fun k hk => (HO2.out.lt hk).1)
      have HB3 := Lib.hid hb2
      clear ho2 hg2 hb2
      go_wp2
      go_roundw
      case rel => exact ⟨1, rfl, by omega, by rw [if_neg (by decide)]; exact HO3.out, HB3.out, fun h => by cases h⟩
      case measure => simp [RowKit.intOf]
    · have hj1 : j = 1 := by omega
      subst hj1
      rw [if_neg (by decide)] at HO2
      clear hj0 hw
      go_wp2
      go_ret
      exact ⟨_, rfl, HO2.out, HB2.out⟩

theorem nilB (w : World) (a : Option Addr) (n c n' c' : Nat) : (binOp .eql 47 (.slice a n c) (.slice none n' c')).run Tryd.prog w = .ok (.bool a.isNone) w := Lib.run_eql_slice_nil w 47 _ a n c n' c' Tryd.underlying47
theorem nilI (w : World) (a : Option Addr) (n c n' c' : Nat) : (binOp .eql 33 (.slice a n c) (.slice none n' c')).run Tryd.prog w = .ok (.bool a.isNone) w := Lib.run_eql_slice_nil w 33 _ a n c n' c' Tryd.underlying33
theorem nilP (w : World) (a : Option Addr) (n c n' c' : Nat) : (binOp .eql 32 (.slice a n c) (.slice none n' c')).run Tryd.prog w = .ok (.bool a.isNone) w := Lib.run_eql_slice_nil w 32 _ a n c n' c' Tryd.underlying32
attribute [local go_sem] nilB nilI nilP

set_option maxRecDepth 100000 in
set_option maxHeartbeats 1000000 in
theorem bclone (A : Option Addr) (cap : Nat) (l : List UInt8) (w : World) (hA : BytesAt w A l) (hcap : l.length ≤ cap) (hm : l.length ≤ 1000000) (hn : A = none → l = [] ∧ cap = 0) : Calls Tryd.prog 33 #[.slice A l.length cap] w fun e w' => ∃ v, e = .returned v ∧ OwnB w' w.heap.size v l ∧ Below w.heap.size w w' := by
  rcases A with _ | ad
  · obtain ⟨rfl, rfl⟩ := hn rfl
    clear hA hcap hm hn
    go_enter Tryd.func33, Tryd.ntmps33
    go_wp2
    go_ret
    exact ⟨_, rfl, OwnB.nil _ _, Below.refl _ _⟩
  · have HA := Lib.hid hA
    clear hA hn
    go_enter Tryd.func33, Tryd.ntmps33
    go_wp2_with (at_builtin; (refine wpList_append_bytes (B := w.heap.size) (l := []) (src := l) rfl _ _ rfl rfl (OwnB.new w w.heap.size #[] [] rfl (Nat.le_refl _) (by decide)) rfl rfl (HA.out.below ((Below.refl _ w).alloc (Nat.le_refl _) _)) ?_ ?_ ?_))
    · show 0 + l.length ≤ _; omega
    · simp
    intro v' w2 ho2 hg2
    have HO3 := Lib.hid ho2
    have hb2 : Below w.heap.size w w2 := Below.of_grown ((Below.refl _ w).alloc (Nat.le_refl _) (.cells #[] 5)) hg2 (by simp) (fun k hk => by simp [Value.ownBlock] at hk; omega)
    have HB3 := Lib.hid hb2
    clear ho2 hg2 hb2
    go_wp2
    go_ret
    exact ⟨_, rfl, HO3.out, HB3.out⟩

set_option maxRecDepth 100000 in
set_option maxHeartbeats 1000000 in
theorem iclone (w : World) : Calls Tryd.prog 35 #[.slice none 0 0] w fun e w' => e = .returned (.slice none 0 0) ∧ w' = w := by
  go_enter Tryd.func35, Tryd.ntmps35
  go_wp2
  go_ret
  exact ⟨rfl, rfl⟩

theorem infoItem : (Tryd.prog.info? 49).map (fun i => (i.zero, i.size, i.bytes)) = some (some (.agg #[.float .f64 0, .int .i64 0, .int .i64 0, .slice none 0 0]), 4, 48) := by kernel_rfl

set_option maxRecDepth 100000 in
set_option maxHeartbeats 1000000 in
theorem pclone (bi : Nat) (A : Option Addr) (cap : Nat) (l : List UInt8) (w : World) (h : OneP w bi A cap l) : Calls Tryd.prog 34 #[.slice (some ⟨bi, 0, none⟩) 1 1] w fun e w' => ∃ g c cur, e = .returned (.slice (some ⟨g, 0, none⟩) 1 c) ∧ w.heap.size ≤ g ∧ Blk w' g cur 49 ∧ 4 ≤ cur.size ∧ cur.toList.take 4 = [.float .f64 0, .int .i64 0, .int .i64 0, .slice A l.length cap] ∧ Below w.heap.size w w' := by
  have hlt := h.lt
  have HC : Hid (CellsAt (w.alloc (.cells #[] 49)) (some ⟨bi, 0, none⟩) [.float .f64 0, .int .i64 0, .int .i64 0, .slice A l.length cap]) := by
    intro _
    refine ⟨bi, 0, rfl, by simp; omega, fun j u hu => ?_⟩
    rw [Nat.zero_add]
    exact (h.row.alloc _).cell (by rw [← Array.getElem?_toList]; exact hu)
  have HOW : Hid ((w.alloc (.cells #[] 49)).ownsRow w.heap.size 49 4 (.slice (some ⟨w.heap.size, 0, none⟩) 0 0) 0 []) := ⟨rfl, .inr ⟨w.heap.size, 0, #[], rfl, Nat.le_refl _, heap_alloc_new w _, Nat.le_refl _, by decide, rfl, rfl⟩⟩
  clear h
  go_enter Tryd.func34, Tryd.ntmps34
  go_wp2_with (at_builtin; (refine wpList_append_cells rfl _ _ rfl Tryd.underlying32 infoItem rfl (by decide) rfl HOW.out rfl (m := 1) rfl HC.out (by intro u hu; simp at hu; rcases hu with rfl | rfl | rfl | rfl <;> rfl) (by decide) (by decide) (by simp) ?_))
  intro v' w2 ho2 hg2
  obtain ⟨g, c, rfl⟩ := ownsRow_succ ho2
  have hb2 : Below w.heap.size w w2 := Below.of_grown ((Below.refl _ w).alloc (Nat.le_refl _) (.cells #[] 49)) hg2 (by simp) (fun k hk => by simp [Value.ownBlock] at hk; omega)
  have HO3 := Lib.hid ho2
  have HB3 := Lib.hid hb2
  clear ho2 hg2 hb2
  go_wp2
  go_ret
  rcases HO3.out.2 with ⟨h, _⟩ | ⟨g', c', cur, hv, hB, hg, hn, hm, hsz, htake⟩
  · cases h
  · cases hv
    exact ⟨_, _, cur, rfl, hB, hg, by omega, htake, HB3.out⟩

set_option maxRecDepth 100000 in
set_option maxHeartbeats 1000000 in
theorem secret_c (v : Value) (w : World) (hv : ∃ A n c, v = .slice A n c) : Calls Tryd.prog 32 #[v] w fun e w' => e = .returned (.func (.func 48) #[] #[.pointer (some ⟨w.heap.size, 0, none⟩)]) ∧ w' = w.alloc (.cells #[v] 47) := by
  obtain ⟨A, n, c, rfl⟩ := hv
  go_enter Tryd.func32, Tryd.ntmps32
  go_wp2
  go_ret
  exact ⟨rfl, rfl⟩

end Go.Proofs.YtbflcikfaoojmaaDoor.Edit

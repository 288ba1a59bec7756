/- whispererref20.Chars. -/
import Derived.Test.YtbflcikfaoojmaaDoorHPl7
import Derived.Test.YtbflcikfaoojmaaDoorHPl8
set_option linter.unusedVariables false
set_option linter.unusedSimpArgs false
namespace Go.Proofs.YtbflcikfaoojmaaDoor.Edit
open Go.RowKit Go.Lib Go.Shelf ChangeShapes Mem Utf UtfP

/-- the characters of places -/
def chE (l : List (Nat × Int)) : List Int := l.map (·.2)
theorem chE_take {l : List (Nat × Int)} {j : Nat} {x : Nat × Int} (h : l[j]? = some x) : chE (l.take (j + 1)) = chE (l.take j) ++ [x.2] := by
  unfold chE
  rw [List.take_add_one, h, List.map_append]
  rfl
theorem chE_len (l : List (Nat × Int)) : (chE l).length = l.length := by simp [chE]

set_option maxRecDepth 100000 in
set_option maxHeartbeats 4000000 in
theorem rchars_c (p : Pl) (w : World) (h : p.Ok w) (hn : p.its.length ≤ 300) (hm : ∀ x ∈ p.its, x.l.length ≤ 4000) (hal : (allE p.its).length ≤ 4000) : Calls Tryd.prog 19 #[p.v] w fun e w' => ∃ v, e = .returned v ∧ OwnI w' w.heap.size v (chE (secE (allE p.its))) ∧ Below w.heap.size w w' := by
  obtain ⟨i0, hi, hz0, hz1, hz2⟩ := info_parts infoI
  obtain ⟨W0, hW0⟩ : ∃ W0, w.alloc (.cells p.cs 35) = W0 := ⟨_, rfl⟩
  have hb0 : Below w.heap.size w W0 := by rw [← hW0]; exact (Below.refl _ w).alloc (Nat.le_refl _) _
  have hp0 : Blk W0 w.heap.size p.cs 35 := by rw [← hW0]; exact Blk.new _ _ _
  have HO := Lib.hid (rall_c p W0 (h.below hb0) hn hm)
  have hs0 : W0.heap.size = w.heap.size + 1 := by rw [← hW0]; simp
  have HB0 := Lib.hid hb0
  have p0 : W0.cell? ⟨w.heap.size, 0, none⟩ = some (.int .u32 p.a1) := hp0.cell rfl
  have p1 : W0.cell? ⟨w.heap.size, 1, none⟩ = some (.int .u8 p.a2) := hp0.cell rfl
  have p2 : W0.cell? ⟨w.heap.size, 2, none⟩ = some (.int .u8 p.a3) := hp0.cell rfl
  have p3 : W0.cell? ⟨w.heap.size, 3, none⟩ = some (.slice p.B p.its.length p.cap) := hp0.cell rfl
  have p4 : W0.cell? ⟨w.heap.size, 4, none⟩ = some (.slice p.ws.A p.ws.l.length p.ws.cap) := hp0.cell rfl
  have p5 : W0.cell? ⟨w.heap.size, 5, none⟩ = some (.slice p.gs.A p.gs.l.length p.gs.cap) := hp0.cell rfl
  have p6 : W0.cell? ⟨w.heap.size, 6, none⟩ = some (.slice p.ss.A p.ss.l.length p.ss.cap) := hp0.cell rfl
  clear h hp0 hb0 hm
  unfold Pl.v at HO ⊢
  unfold Pl.cs at HO hW0 ⊢
  go_enter Tryd.func19, Tryd.ntmps19
  go_wp2_with fail
  refine (HO.out).mono ?_
  rintro e w1 ⟨v, rfl, hov, hb1⟩
  obtain ⟨A1, c1, rfl, hc1, hby1, _, _⟩ := OwnB.form hov
  obtain ⟨b, hbb⟩ : ∃ b, allE p.its = b := ⟨_, rfl⟩
  rw [hbb] at hby1 hc1 hal ⊢
  have HB1 := Lib.hid (HB0.out.trans (hb1.mono (by omega)))
  have HS := Lib.hid (rsecret_c b A1 c1 w1 hby1 hc1 (by omega))
  have HBB := Lib.hid hbb
  have hs1 := HB1.out.size
  have HSL := Lib.hid (secE_len b)
  clear hb1 hov p0 p1 p2 p3 p4 p5 p6 HO hW0 hby1 hbb
  go_wp2_with fail
  refine (HS.out).mono ?_
  rintro e w2 ⟨v, rfl, hop, hb2⟩
  obtain ⟨A2, c2, rfl, hc2⟩ := hop.form
  have HB2 := Lib.hid (HB1.out.trans (hb2.mono hs1))
  have HOP := Lib.hid hop
  have hs2 := HB2.out.size
  obtain ⟨L, hL⟩ : ∃ L, secE b = L := ⟨_, rfl⟩
  rw [hL] at HOP HSL hc2 ⊢
  obtain ⟨n, hn2⟩ : ∃ n, L.length = n := ⟨_, rfl⟩
  rw [hn2] at HSL hc2 ⊢
  have HN := Lib.hid hn2
  have HL := Lib.hid hL
  have hsl := HSL.out
  have hn4 : n ≤ 4000 := by omega
  clear hb2 hop HS hL hn2 hsl
  go_wp2_with fail
  go_loopw [3, 5] (fun v i wr => ∃ j : Nat, i = .int .i64 (j : Int) ∧ j ≤ n ∧ Hid (OwnI wr w2.heap.size v (chE (L.take j))) ∧ Hid (Below w2.heap.size w2 wr)) (fun _ i _ => n - (RowKit.intOf i).toNat)
  case atStart => exact ⟨0, rfl, by omega, OwnI.nil _ _, Below.refl _ _⟩
  case round =>
    obtain ⟨j, rfl, hj, HO2, HB3⟩ := hrel
    have hs3 := HB3.out.size
    by_cases hlt : j < n
    · have q1 : (j : Int) < (n : Int) := by omega
      obtain ⟨x, hx⟩ : ∃ x, L[j]? = some x := ⟨_, List.getElem?_eq_getElem (by rw [HN.out]; exact hlt)⟩
      obtain ⟨g, c', hv, hgB, hgl, _, d0, d1⟩ := HOP.out.at hx
      injection hv with hv1 hv2 hv3
      rw [hv1]
      replace d1 := (HB3.out.cell (p := ⟨g, j * 2 + 1, none⟩) hgl).trans d1
      have HCH := Lib.hid (chE_take hx)
      have hcl : (chE (L.take j)).length = j := by rw [chE_len, List.length_take, HN.out]; omega
      have HCL := Lib.hid hcl
      clear hx hv1 hv2 hv3 d0 hcl
      go_wp2_with (at_builtin; go_loud (refine wpList_append_own _ rfl _ _ 33 rfl w2.heap.size 3 i0 (.int .i64 0) 1 8 Tryd.underlying33 hi hz0 hz1 hz2 rfl (by decide) _ _ _ rfl (HO2.out.alloc _) ⟨wr.heap.size, 0, none⟩ 1 1 [.int .i64 x.2] rfl rfl (cell_one_new _ _ _) (by simp [Value.oneCell']) (by rw [HCL.out]; unfold maxLen; omega) (by rw [HCL.out]; omega) (by simp; omega) ?_); intro v' w3 hown' hgrow hnil; clear hnil; obtain ⟨g3, c3, N, rfl, HN', HO3, _, _, _⟩ := app_own hown')
      have hb3 : Below w2.heap.size w2 w3 := Below.of_grown (HB3.out.alloc hs3 _) hgrow (by simp; omega) (fun k hk => ownsRow_blk HO2.out k hk)
      have HB4 := Lib.hid hb3
      clear hown' hgrow hb3
      go_wp2_with fail
      go_roundw
      case rel => exact ⟨j + 1, by go_num, by omega, by rw [HCH.out]; exact HO3.out, HB4.out⟩
      case measure => simp [RowKit.intOf]; omega
    · have hje : j = n := by omega
      have q1 : ¬ (j : Int) < (n : Int) := by omega
      have ho := HO2.out
      rw [hje, ← HN.out, List.take_length] at ho
      have ho2 := ho.base hs2
      have HOE := Lib.hid ho2
      clear hje ho ho2
      go_wp2_with fail
      go_ret
      exact ⟨_, rfl, by rw [HBB.out, HL.out]; exact HOE.out, HB2.out.trans (HB3.out.mono hs2)⟩

end Go.Proofs.YtbflcikfaoojmaaDoor.Edit

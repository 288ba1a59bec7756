/- whispererlaw20.TwinPlain, walked. -/
import Derived.Test.YtbflcikfaoojmaaDoorTwD
import Derived.Test.YtbflcikfaoojmaaDoorTwF
import Derived.Test.YtbflcikfaoojmaaDoorLaw
set_option linter.unusedVariables false
set_option linter.unusedSimpArgs false
namespace Go.Proofs.YtbflcikfaoojmaaDoor.TwinPlain
open Go.RowKit Go.Lib Go.Shelf ChangeShapes Mem Utf UtfP Edit

theorem ownsRow_cell {W : World} {n m : Nat} {e : TypeId} {v : Value} {xs : List Value} (h : W.ownsRow n e 1 v m xs) {j : Nat} {u : Value} (hj : xs[j]? = some u) : ∃ g cap, v = .slice (some ⟨g, 0, none⟩) m cap ∧ g < W.heap.size ∧ W.cell? ⟨g, j, none⟩ = some u := by
  rcases h.2 with ⟨rfl, h0⟩ | ⟨g, cap, cur, rfl, hb, hg, hn, hm, hsz, htake⟩
  · have := (List.getElem?_eq_some_iff.1 hj).1
    have := h.1
    omega
  · have hlt := (Array.getElem?_eq_some_iff.1 hg).1
    refine ⟨g, cap, rfl, hlt, ?_⟩
    rw [← htake] at hj
    have hj2 : j < m * 1 := by
      have := (List.getElem?_eq_some_iff.1 hj).1
      rw [List.length_take] at this
      omega
    rw [List.getElem?_take_of_lt hj2] at hj
    rw [cell_of_row W g j cur e (0, 0) hg, ← Array.getElem?_toList]
    exact hj

/-- the loop that leaves ESC out -/
def RO (l : List UInt8) (w : World) (v i : Value) (wr : World) : Prop := ∃ j : Nat, i = .int .i64 (j : Int) ∧ j ≤ l.length ∧ Hid (OwnB wr w.heap.size v (noEsc (l.take j))) ∧ Hid (Below w.heap.size w wr)
/-- the loop that compares -/
def RP (z : Int) (o : List UInt8) (w : World) (s13 s14 : Value) (wr : World) : Prop := ∃ k i K : Nat, s13 = .int .i64 (k : Int) ∧ s14 = .int .i64 (i : Int) ∧ i ≤ o.length ∧ o.length ≤ i + K ∧ Hid (RPs z o k i K) ∧ Hid (Below w.heap.size w wr)

set_option maxRecDepth 200000 in
set_option maxHeartbeats 2000000 in
theorem walk_long (n : Nat) (z : Int) (A : Option Addr) (cap : Nat) (w : World) (hT : Tabs w) (hn : 1500 < n) :
    Calls Tryd.prog 7 #[.slice A n cap, .int .i64 z] w fun e w' => e = .returned (.bool true) ∧ Below w.heap.size w w' := by
  have HA := Lib.hid (alive_c w hT)
  have HT := Lib.hid hT
  have k1 : decide ((1500 : Int) < (n : Int)) = true := by simp; omega
  clear hT
  go_enter Tryd.func7, Tryd.ntmps7
  go_wp2_with fail
  refine (HA.out).mono ?_
  rintro e w1 ⟨rfl, hb1⟩
  have HB1 := Lib.hid hb1
  have HA1 := Lib.hid (alive_c w1 (HT.out.below hb1))
  clear hb1 HA
  go_wp2_with fail
  refine (HA1.out).mono ?_
  rintro e w2 ⟨rfl, hb2⟩
  go_wp2_with fail
  go_ret
  exact ⟨rfl, HB1.out.trans (hb2.mono HB1.out.size)⟩

set_option maxRecDepth 200000 in
set_option maxHeartbeats 4000000 in
theorem walk_short (l : List UInt8) (z : Int) (A : Option Addr) (cap : Nat) (w : World) (hT : Tabs w) (hA : BytesAt w A l) (hcap : l.length ≤ cap) (hm : l.length ≤ 1500) :
    Calls Tryd.prog 7 #[.slice A l.length cap, .int .i64 z] w fun e w' => e = .returned (.bool true) ∧ Below w.heap.size w w' := by
  have HA := Lib.hid (alive_c w hT)
  have HT := Lib.hid hT
  have HBA := Lib.hid hA
  have k1 : decide ((1500 : Int) < (l.length : Int)) = false := by simp; omega
  clear hT hA
  go_enter Tryd.func7, Tryd.ntmps7
  go_wp2_with fail
  refine (HA.out).mono ?_
  rintro e w1 ⟨rfl, hb1⟩
  have HB1 := Lib.hid hb1
  clear hb1 HA
  go_wp2_with fail
  go_loopw [5, 33] (fun v i wr => RO l w v i wr) (fun _ i _ => l.length - (RowKit.intOf i).toNat)
  case atStart => exact ⟨0, rfl, Nat.zero_le _, OwnB.nil _ _, HB1.out⟩
  case round =>
    obtain ⟨j, rfl, hj, HO, HB⟩ := hrel
    by_cases hlt : j < l.length
    · have hne : l ≠ [] := by intro e; rw [e] at hlt; simp at hlt
      obtain ⟨B, off, rfl, hBlt, hcx⟩ := (HBA.out.below HB.out) hne
      have e0 := hcx j hlt
      have hsn := noEsc_snoc hlt
      have hbx : bt l j = l[j].toNat := by unfold bt; rw [List.getD_eq_getElem?_getD, List.getElem?_eq_getElem hlt]; rfl
      have hnl := noEsc_len (l.take j)
      rw [List.length_take] at hnl
      have HOx := fun o => Lib.hid (HO.out.below ((Below.refl _ _).alloc (Nat.le_refl _) o))
      clear hcx
      by_cases h27 : l[j] = 27
      · rw [if_pos h27, List.append_nil] at hsn
        rw [hbx, h27] at e0
        go_wp2_with fail
        go_roundw
        case rel => exact ⟨j + 1, by go_num, by omega, by rw [hsn]; exact HO.out, HB.out⟩
        case measure => simp [RowKit.intOf]; omega
      · rw [if_neg h27] at hsn
        rw [hbx] at e0
        have h27' : ((l[j].toNat : Int) != 27) = true := by
          simp
          intro e
          exact h27 (UInt8.toNat_inj.1 (by rw [show (27 : UInt8).toNat = 27 from rfl]; omega))
        go_wp2_with (at_builtin; (refine wpList_append_bytes (src := [l[j]]) rfl _ _ rfl rfl (HOx _).out rfl rfl (bytes_new _ _ _ _ rfl) ?_ ?_ ?_))
        · rw [List.length_singleton]; omega
        · have := HB.out.size; simp; omega
        intro v' w2 ho2 hg2
        have HO2 := Lib.hid ho2
        have hb2 : Below w.heap.size w w2 := Below.of_grown (HB.out.alloc HB.out.size _) hg2 (by have := HB.out.size; simp; omega) (fun k hk => (HO.out.lt hk).1)
        have HB2 := Lib.hid hb2
        clear ho2 hg2 hb2
        go_wp2_with fail
        go_roundw
        case rel => exact ⟨j + 1, by go_num, by omega, by rw [hsn]; exact HO2.out, HB2.out⟩
        case measure => simp [RowKit.intOf]; omega
    · have hj' : j = l.length := by omega
      subst hj'
      obtain ⟨o, ho⟩ : ∃ o, noEsc l = o := ⟨_, rfl⟩
      have hol : o.length ≤ 1500 := by rw [← ho]; have := noEsc_len l; omega
      have hh27 : ∀ i, i < o.length → bt (o.drop i) 0 ≠ 27 := by rw [← ho]; intro i hi; exact noEsc_bt hi
      have HH27 := Lib.hid hh27
      have ho5 := HO.out
      rw [List.take_length, ho] at ho5
      obtain ⟨A5, cap5, rfl, hcap5, hby5, _, _⟩ := OwnB.form ho5
      have HBY5 := Lib.hid hby5
      have y0 := conv_str (cap := cap5) hby5
      have HO1 := Lib.hid (one_c o wr)
      clear hh27 ho5 hby5 HO hlt ho
      go_wp2_with fail
      refine (HO1.out).mono ?_
      rintro e w2 ⟨bi, Ao, capo, rfl, hone, hb2⟩
      have HS := Lib.hid (secret1 bi Ao capo o w2 hone (by omega) (HT.out.below (HB.out.trans (hb2.mono HB.out.size))))
      have HB2 := Lib.hid hb2
      clear hone hb2 HO1 y0
      unfold planV at *
      go_wp2_with fail
      refine (HS.out).mono ?_
      rintro e w3 ⟨v8, rfl, hown8, hb3⟩
      obtain ⟨A8, cap8, rfl⟩ := ownsRow_form hown8
      have HW8 := Lib.hid hown8
      have hb23 := HB2.out.trans (hb3.mono HB2.out.size)
      have y3 := conv_str (cap := cap5) (HBY5.out.below hb23)
      have HB3 := Lib.hid hb23
      have HO3 := Lib.hid (one_c o w3)
      clear hown8 hb3 hb23 HB2 HS
      go_wp2_with fail
      refine (HO3.out).mono ?_
      rintro e w4 ⟨bi4, Ao4, capo4, rfl, hone4, hb4⟩
      have hb34 := HB3.out.trans (hb4.mono HB3.out.size)
      have HPL := Lib.hid (plan1 bi4 Ao4 capo4 o z w4 hone4 (by omega) (HT.out.below (HB.out.trans (hb34.mono HB.out.size))))
      have HB34 := Lib.hid hb34
      have HB4 := Lib.hid hb4
      clear hone4 hb4 hb34 HO3 y3
      unfold planV at *
      go_wp2_with fail
      refine (HPL.out).mono ?_
      rintro e w5 ⟨g, c0, A12, cap12, rfl, hcell, hcap12, hby12, hb5⟩
      go_upto_region 12 with fail
      obtain ⟨W2, hW2⟩ : ∃ W2, w5.alloc (.cells #[.int .u32 0, .int .u8 0, .int .u8 0, .slice (some ⟨g, 0, none⟩) 1 c0, .slice none 0 0, .slice none 0 0, .slice none 0 0] 35) = W2 := ⟨_, rfl⟩
      have hw5 : Below w5.heap.size w5 W2 := by rw [← hW2]; exact (Below.refl _ _).alloc (Nat.le_refl _) _
      have hq5 : Blk W2 w5.heap.size #[.int .u32 0, .int .u8 0, .int .u8 0, .slice (some ⟨g, 0, none⟩) 1 c0, .slice none 0 0, .slice none 0 0, .slice none 0 0] 35 := by rw [← hW2]; exact Blk.new _ _ _
      have hgl : g < w5.heap.size := by
        apply Classical.byContradiction
        intro hh
        unfold World.cell? at hcell
        rw [Array.getElem?_eq_none (by show w5.heap.size ≤ g; omega)] at hcell
        cases hcell
      have x1 := (hw5.cell (p := ⟨g, 3, none⟩) hgl).trans hcell
      have x2 := hq5.cell (j := 3) rfl
      have hb45 := HB4.out.trans (hb5.mono HB4.out.size)
      have hb35 := hb45.trans (hw5.mono hb45.size)
      have hbr5 := HB3.out.trans (hb35.mono HB3.out.size)
      have HBY5' := Lib.hid (HBY5.out.below hbr5)
      have HBY12 := Lib.hid (hby12.below hw5)
      have HWW := Lib.hid (HB.out.trans (hbr5.mono HB.out.size))
      have HCL : Hid (∀ j u, ((secE o).map fun x => Value.int .i64 x.2)[j]? = some u → ∃ g8, A8 = some ⟨g8, 0, none⟩ ∧ g8 < W2.heap.size ∧ W2.cell? ⟨g8, j, none⟩ = some u) := by
        intro j u hj
        obtain ⟨g8, cp8, e8, hl8, hc8⟩ := ownsRow_cell HW8.out hj
        injection e8 with e8
        exact ⟨g8, e8, Nat.lt_of_lt_of_le hl8 hb35.size, (hb35.cell (p := ⟨g8, j, none⟩) hl8).trans hc8⟩
      have hbp : Below w.heap.size w W2 := HWW.out
      clear hcell hby12 hb5 hw5 hq5 hb45 hb35 hbr5 HBY5 HW8 HB3 HB34 HB4 HPL hbp
      rw [hW2]
      clear hW2
      go_wp2_with fail
      go_loopw [13, 14] (fun s13 s14 wr => RP z o W2 s13 s14 wr) (fun _ i _ => o.length - (RowKit.intOf i).toNat)
      case atStart => exact ⟨0, 0, o.length, rfl, rfl, Nat.zero_le _, by omega, rps_start z o, Below.refl _ _⟩
      case round =>
        obtain ⟨k, i, K, rfl, rfl, hi, hK, HR, HBx⟩ := hrel
        by_cases hlt : i < o.length
        · obtain ⟨K, rfl⟩ : ∃ K', K = K' + 1 := ⟨K - 1, by omega⟩
          have hone : o ≠ [] := by intro e; rw [e] at hlt; simp at hlt
          have h27 := HH27.out i hlt
          obtain ⟨B5, off5, rfl, hB5, _⟩ := HBY5'.out hone
          have hpl : (planE z o).length = o.length := planE_len z o
          obtain ⟨B12, off12, rfl, hB12, _⟩ := HBY12.out (by intro e; rw [e] at hpl; simp at hpl; omega)
          have hdl : (o.drop i).length = o.length - i := List.length_drop
          have hdne : o.drop i ≠ [] := by intro e; rw [e] at hdl; simp at hdl; omega
          have hcut5 : BytesAt wr (some ⟨B5, off5 + i, none⟩) (o.drop i) := by
            have := BytesAt.cut (HBY5'.out.below HBx.out) hcap5 (k := i)
            rw [if_neg (by omega)] at this
            simpa [addr_add] using this
          have hcut12 : BytesAt wr (some ⟨B12, off12 + i, none⟩) ((planE z o).drop i) := by
            have := BytesAt.cut (HBY12.out.below HBx.out) (by rw [hpl]; exact hcap12) (k := i)
            rw [if_neg (by omega)] at this
            simpa [addr_add] using this
          have hnx := nextGo (o.drop i) (some ⟨B5, off5 + i, none⟩) (cap5 - i) wr (HT.out.below (HWW.out.trans (HBx.out.mono HWW.out.size))) hcut5 (by rw [hdl]; omega) (by rw [hdl]; omega)
          obtain ⟨c, n, e, hR⟩ : ∃ c n e, next (o.drop i) = (c, n, e) := ⟨_, _, _, rfl⟩
          have hf := next_facts hdne
          rw [hR, hdl] at hf
          rw [hR] at hnx
          obtain ⟨f1, f2, f3, _, f5, _⟩ := hf
          simp only at f1 f2 f3 f5
          have hYG : Hid (∀ V, Below wr.heap.size wr V → (convert 47 9 (.slice (some ⟨B12, off12 + i, none⟩) n (cap12 - i))).run Tryd.prog V = .ok (.string (strOf (((planE z o).drop i).take n))) V) := fun V hV => by
            have := conv_str (cap := cap12 - i) ((hcut12.below hV).take n)
            rwa [List.length_take, List.length_drop, hpl, Nat.min_eq_left (by omega)] at this
          have hYO : Hid (∀ V, Below wr.heap.size wr V → (convert 47 9 (.slice (some ⟨B5, off5 + i, none⟩) n (cap5 - i))).run Tryd.prog V = .ok (.string (strOf ((o.drop i).take n))) V) := fun V hV => by
            have := conv_str (cap := cap5 - i) ((hcut5.below hV).take n)
            rwa [List.length_take, List.length_drop, Nat.min_eq_left (by omega)] at this
          rw [hdl] at hnx
          have HN := Lib.hid hnx
          have hsum : IntKind.i64.wrap ((i : Int) + (n : Int)) = (i : Int) + (n : Int) := IntWalk.i64_in _ (by omega)
          have k1 : (i : Int) ≤ (cap5 : Int) := by omega
          have k2 : (i : Int) ≤ (o.length : Int) := by omega
          have k3 : ¬ cap5 = i := by omega
          have k4 : ¬ cap12 = i := by omega
          have k5 : (i : Int) + (n : Int) ≤ (o.length : Int) := by omega
          have k6 : (i : Int) + (n : Int) ≤ (cap5 : Int) := by omega
          have k7 : (i : Int) + (n : Int) ≤ (cap12 : Int) := by omega
          have hmin : (min ((i : Int) + (n : Int)) (o.length : Int)).toNat - i = n := by omega
          have k8 : (i : Int) ≤ (i : Int) + (n : Int) := by omega
          have k9 : ((n : Int) < 1) = False := by simp; omega
          clear hnx hcut5 hcut12
          go_wp2_with fail
          refine (HN.out).mono ?_
          rintro ee w6 ⟨rfl, hb6⟩
          have yg6 := hYG.out w6 hb6
          have yo6 := hYO.out w6 hb6
          have HB6 := Lib.hid hb6
          clear hb6
          simp only [res3]
          have hgo : (e = 0 ∧ printC (c : Int) = true) ∨ (e ≠ 0 ∨ printC (c : Int) = false) := by
            by_cases h : e = 0
            · cases hp : printC (c : Int)
              · exact .inr (.inr rfl)
              · exact .inl ⟨h, rfl⟩
            · exact .inr (.inl h)
          rcases hgo with ⟨he0, hp⟩ | hmiss
          · subst he0
            obtain ⟨HR2, ⟨x, hx1, hx2⟩, hpart, hel⟩ := rps_hit HR.out hlt h27 hR hp
            have hxc : ((secE o).map fun x => Value.int .i64 x.2)[k]? = some (.int .i64 (c : Int)) := by rw [List.getElem?_map, hx1]; simp [hx2]
            obtain ⟨g8, rfl, hg8, hc8⟩ := HCL.out k _ hxc
            have hkl : k < (secE o).length := (List.getElem?_eq_some_iff.1 hx1).1
            have hkl' : (k : Int) < ((secE o).length : Int) := by omega
            have htp := turnE_print z hp
            have HPR := Lib.hid (printable (c : Int) w6)
            rw [hp] at HPR
            have HTU := Lib.hid (fun V => turn_c (c : Int) z V hp)
            have HPU := Lib.hid (fun V => put_ok (turnE (c : Int) z) V (printC_fine htp.1))
            obtain ⟨tc, htc⟩ : ∃ tc, turnE (c : Int) z = tc := ⟨_, rfl⟩
            rw [htc] at hpart hel HTU HPU
            rw [hpart] at yg6
            obtain ⟨sE, hsE⟩ : ∃ sE, strOf (enc tc) = sE := ⟨_, rfl⟩
            rw [hsE] at yg6
            have HR2' := Lib.hid HR2
            have hsum2 : IntKind.i64.wrap ((k : Int) + 1) = (k : Int) + 1 := IntWalk.i64_in _ (by have := secE_len o; omega)
            clear hx1 hx2 hxc HR2 hR htp htc HR hpart h27
            go_wp2_with fail
            refine (HPR.out).mono ?_
            rintro ee w7 ⟨rfl, hb7⟩
            have HB7 := Lib.hid (HB6.out.trans (hb7.mono HB6.out.size))
            have HTU7 := Lib.hid (HTU.out w7)
            clear hb7 HPR yo6
            go_wp2_with fail
            refine (HTU7.out).mono ?_
            rintro ee w8 ⟨rfl, hb8⟩
            have HB8 := Lib.hid (HB7.out.trans (hb8.mono HB7.out.size))
            have HPU8 := Lib.hid (HPU.out w8)
            clear hb8 HTU7
            go_wp2_with fail
            refine (HPU8.out).mono ?_
            rintro ee w9 ⟨v9, rfl, ho9, hb9⟩
            obtain ⟨A9, cap9, rfl, hcap9, hby9, _, _⟩ := OwnB.form ho9
            have y9 := conv_str (cap := cap9) hby9
            rw [hel, hsE] at y9
            have hb9' := HB8.out.trans (hb9.mono HB8.out.size)
            have c9 := ((HBx.out.trans (hb9'.mono HBx.out.size)).cell (p := ⟨g8, k, none⟩) hg8).trans hc8
            have HB9 := Lib.hid (HBx.out.trans (hb9'.mono HBx.out.size))
            clear ho9 hb9 hby9 hb9' HPU8 yg6
            go_wp2_with fail
            go_roundw
            case rel => exact ⟨k + 1, i + n, K, by go_num, by go_num, by omega, by omega, HR2'.out, HB9.out⟩
            case measure => simp [RowKit.intOf]; omega
          · obtain ⟨HR2, hpart⟩ := rps_miss HR.out hlt h27 hR hmiss
            have HR2' := Lib.hid HR2
            rw [hpart] at yg6
            obtain ⟨sE, hsE⟩ : ∃ sE, strOf ((o.drop i).take n) = sE := ⟨_, rfl⟩
            rw [hsE] at yg6 yo6
            have HYO := Lib.hid hYO.out
            rw [hsE] at HYO
            have HB6x := Lib.hid (HBx.out.trans (HB6.out.mono HBx.out.size))
            by_cases he0 : e = 0
            · subst he0
              have hp : printC (c : Int) = false := by rcases hmiss with h | h; exact absurd rfl h; exact h
              have HPR := Lib.hid (printable (c : Int) w6)
              rw [hp] at HPR
              clear HR2 hR HR hpart h27 hmiss hp hYO
              go_wp2_with fail
              refine (HPR.out).mono ?_
              rintro ee w7 ⟨rfl, hb7⟩
              have HB7 := Lib.hid (HB6x.out.trans (hb7.mono HB6x.out.size))
              have yo7 := HYO.out w7 (HB6.out.trans (hb7.mono HB6.out.size))
              clear hb7 HPR yo6 yg6
              go_wp2_with fail
              go_roundw
              case rel => exact ⟨k, i + n, K, rfl, by go_num, by omega, by omega, HR2'.out, HB7.out⟩
              case measure => simp [RowKit.intOf]; omega
            · have he1 : ((e : Int) == 0) = false := by simp; omega
              clear HR2 hR HR hpart h27 hmiss hYO
              go_wp2_with fail
              go_roundw
              case rel => exact ⟨k, i + n, K, rfl, by go_num, by omega, by omega, HR2'.out, HB6x.out⟩
              case measure => simp [RowKit.intOf]; omega
        · have hend := rps_end HR.out (by omega)
          have hii : i = o.length := by omega
          subst hii
          subst hend
          clear HR hlt
          go_wp2_with fail
          go_ret
          exact ⟨rfl, HWW.out.trans (HBx.out.mono HWW.out.size)⟩

theorem walk (l : List UInt8) (A : Option Addr) (cap : Nat) (z : Int) (w : World) (hT : Tabs w) (hA : BytesAt w A l) (hcap : l.length ≤ cap) (_ : l.length ≤ 140737488355328) (_ : (Lit.int .i64 z).wf = true) :
    Calls Tryd.prog 7 #[.slice A l.length cap, .int .i64 z] w fun e w' => e = .returned (.bool true) ∧ Below w.heap.size w w' := by
  by_cases h : 1500 < l.length
  · exact walk_long l.length z A cap w hT h
  · exact walk_short l z A cap w hT hA hcap (by omega)

end Go.Proofs.YtbflcikfaoojmaaDoor.TwinPlain

/- PasteDrops, the walk: a paste that is dropped leaves nothing; the next one is its own. -/
import Derived.Test.YtbkpnffgihjikaaDoorGA
import Derived.Test.YtbkpnffgihjikaaDoorPsW
set_option linter.unusedVariables false
set_option linter.unusedSimpArgs false
namespace Go.Proofs.YtbkpnffgihjikaaDoor.PasteDrops
open Go.RowKit Go.Lib Go.Shelf ChangeShapes Mem Utf UtfP Edit Law

attribute [local go_sem] strOf_toList strOf_append strOf_size
attribute [local go_sem ↓] conv_str
theorem str_nil : (ByteArray.mk #[]) = strOf [] := rfl

def R1 (w : World) (s a c b a2 c2 n : Nat) (i : Value) (wr : World) : Prop :=
  ∃ (j : Nat) (L : List Int) (ov : Bool), i = .int .i64 (j : Int) ∧ j ≤ n ∧ Pb wr s a c 100 L true ov b a2 c2 200 [] [] ∧ Below w.heap.size w wr
def R2 (w : World) (s a c b a2 c2 n : Nat) (want i : Value) (wr : World) : Prop :=
  ∃ (j : Nat) (L : List Int) (ov : Bool), want = .string (strOf (encs L)) ∧ i = .int .i64 (j : Int) ∧ j ≤ n ∧ Pb wr s a c 100 L true ov b a2 c2 200 [] [] ∧ Below w.heap.size w wr

set_option maxRecDepth 200000 in
set_option maxHeartbeats 4000000 in
theorem walk (zs : List Int) (Q : Option Addr) (cap : Nat) (ys : List Int) (Q2 : Option Addr) (cap2 : Nat) (w : World) (hT : Tabs w) (hA : RowsAt w 1 (fun z => [Value.int .i64 z]) Q zs) (hcap : zs.length ≤ cap) (hm : zs.length ≤ 17592186044416) (_ : ∀ z ∈ zs, (Lit.int .i64 z).wf = true) (hA2 : RowsAt w 1 (fun z => [Value.int .i64 z]) Q2 ys) (hcap2 : ys.length ≤ cap2) (hm2 : ys.length ≤ 17592186044416) (_ : ∀ z ∈ ys, (Lit.int .i64 z).wf = true) :
    Calls Tryd.prog 4 #[.slice Q zs.length cap, .slice Q2 ys.length cap2] w fun e w' => e = .returned (.bool true) ∧ Below w.heap.size w w' := by
  have HT := Lib.hid hT
  have HA := Lib.hid hA
  have HA2 := Lib.hid hA2
  clear hT hA hA2
  have H0 := Lib.hid (beginP_c 100 200 (by decide) (by decide) (by decide) (by decide) w)
  go_enter Tryd.func4, Tryd.ntmps4
  go_wp2_with fail
  refine (H0.out).mono ?_
  rintro e w1 ⟨s, a, c, b, a2, c2, rfl, hl, hpb, hb1⟩
  have HL := Lib.hid hl
  have HP1 := Lib.hid hpb
  have HW1 := Lib.hid hb1
  clear hl hpb hb1
  go_wp2_with fail
  refine (aliveP w1 (HT.out.below HW1.out)).mono ?_
  rintro e w2 ⟨rfl, hb2⟩
  have HP2 := Lib.hid (HP1.out.below hb2)
  have HW2 : Hid (Below w.heap.size w w2) := HW1.out.trans (hb2.mono HW1.out.size)
  clear hb2
  have hend : ∀ W, Below w.heap.size w W → Calls Tryd.prog 23 #[] W fun e w' => e = .returned (.bool true) ∧ Below w.heap.size w w' := fun W hW => (aliveP W (HT.out.below hW)).mono fun e w' ⟨he, hb⟩ => ⟨he, hW.trans (hb.mono hW.size)⟩
  have HEND := Lib.hid hend
  clear hend
  by_cases hl1 : zs.length ≤ 100
  · have k1 : decide (100 < (zs.length : Int)) = false := by simp; omega
    by_cases hl2 : ys.length ≤ 100
    · have k2 : decide (100 < (ys.length : Int)) = false := by simp; omega
      go_wp2_with fail
      refine (start_any w2 HP2.out.sg).mono ?_
      rintro e w3 ⟨rfl, hsg, hb⟩
      have HP3 : Hid (Pb w3 s a c 100 [] true false b a2 c2 200 [] []) := HP2.out.stage hsg hb
      have HW3 : Hid (Below w.heap.size w w3) := HW2.out.trans (hb.below HW2.out.size (by have := HL.out; simp; omega))
      clear hsg hb
      go_wp2_with fail
      go_loopw [48] (fun i wr => R1 w s a c b a2 c2 zs.length i wr) (fun i _ => zs.length - (RowKit.intOf i).toNat)
      case atStart => exact ⟨0, [], false, rfl, by omega, HP3.out, HW3.out⟩
      case round =>
        obtain ⟨j, L, ov, rfl, hj, hpb, hbw⟩ := hrel
        have HPJ := Lib.hid hpb
        have HBW := Lib.hid hbw
        clear hpb hbw
        by_cases hlt : j < zs.length
        · have k0 : (j : Int) < (zs.length : Int) := by omega
          obtain ⟨z, hz⟩ : ∃ z, zs[j]? = some z := ⟨_, List.getElem?_eq_getElem hlt⟩
          obtain ⟨g, off, rfl, hgl, hcell⟩ := HA.out (List.length_pos_iff.1 (by omega : 0 < zs.length))
          have q0 : wr.cell? ⟨g, off + j, none⟩ = some (.int .i64 z) := by rw [HBW.out.cell hgl]; exact num_cell hcell hz
          clear hz hgl hcell
          go_wp2_with fail
          refine (add_any z wr HPJ.out.sg).mono ?_
          rintro e w4 ⟨rfl, hsg, hb⟩
          have HP4 := Lib.hid (HPJ.out.stage hsg hb)
          have HW4 : Hid (Below w.heap.size w w4) := HBW.out.trans (hb.below HBW.out.size (by have := HL.out; simp; omega))
          clear hsg hb
          go_wp2
          go_roundw
          case rel => exact ⟨j + 1, _, _, by go_num, by omega, HP4.out, HW4.out⟩
          case measure => simp [RowKit.intOf]; omega
        · have hge : decide ((j : Int) < (zs.length : Int)) = false := by simp; omega
          have hge' : decide (j < zs.length) = false := by simp; omega
          clear hlt
          go_wp2_with fail
          refine (drop_any wr HPJ.out.sg).mono ?_
          rintro e w4 ⟨rfl, hsg, hb⟩
          have HP4 : Hid (Pb w4 s a c 100 [] false false b a2 c2 200 [] []) := HPJ.out.stage hsg hb
          have HW4 : Hid (Below w.heap.size w w4) := HBW.out.trans (hb.below HBW.out.size (by have := HL.out; simp; omega))
          have hz := zeroA w4 HP4.out.sg.st.ar
          rw [show allZ (encs []) = true from by decide] at hz
          have hlp := lenP w4 HP4.out.sg.st
          rw [show (encs []).length = 0 from rfl] at hlp
          have hlb := lenB w4 HP4.out.ed.buf
          rw [show (encs [] ++ encs []).length = 0 from rfl] at hlb
          have HZ := Lib.hid hz
          have HLP := Lib.hid hlp
          have HLB := Lib.hid hlb
          clear hsg hb hz hlp hlb
          go_wp2_with (first
            | (go_at_call 25; refine (HZ.out).mono ?_; rintro e w7 ⟨rfl, hq⟩; obtain rfl := hq.symm)
            | (go_at_call 18; refine (begun_c _ HP4.out.sg.st).mono ?_; rintro e w7 ⟨rfl, hq⟩; obtain rfl := hq.symm)
            | (go_at_call 19; refine (over_c _ HP4.out.sg.st).mono ?_; rintro e w7 ⟨rfl, hq⟩; obtain rfl := hq.symm)
            | (go_at_call 20; refine (HLP.out).mono ?_; rintro e w7 ⟨rfl, hq⟩; obtain rfl := hq.symm)
            | (go_at_call 27; refine (HLB.out).mono ?_; rintro e w7 ⟨rfl, hq⟩; obtain rfl := hq.symm)
            | (go_at_call 16; refine (add_state 97 _ HP4.out.sg.st).mono ?_; rintro e w7 ⟨rfl, hq⟩; obtain rfl := hq.symm)
            | fail)
          refine (start_any w4 HP4.out.sg).mono ?_
          rintro e w5 ⟨rfl, hsg, hb⟩
          have HP5 : Hid (Pb w5 s a c 100 [] true false b a2 c2 200 [] []) := HP4.out.stage hsg hb
          have HW5 : Hid (Below w.heap.size w w5) := HW4.out.trans (hb.below HW4.out.size (by have := HL.out; simp; omega))
          clear hsg hb
          go_wp2_with fail
          refine (start_any w5 HP5.out.sg).mono ?_
          rintro e w6 ⟨rfl, hsg, hb⟩
          have HP6 : Hid (Pb w6 s a c 100 [] true false b a2 c2 200 [] []) := HP5.out.stage hsg hb
          have HW6 : Hid (Below w.heap.size w w6) := HW5.out.trans (hb.below HW5.out.size (by have := HL.out; simp; omega))
          clear hsg hb
          go_wp2_with fail
          rw [str_nil]
          go_loopw [10, 96] (fun want i wr => R2 w s a c b a2 c2 ys.length want i wr) (fun _ i _ => ys.length - (RowKit.intOf i).toNat)
          case atStart => exact ⟨0, [], false, rfl, rfl, by omega, HP6.out, HW6.out⟩
          case round =>
            obtain ⟨j2, L2, ov2, rfl, rfl, hj2, hpb, hbw⟩ := hrel
            have HPK := Lib.hid hpb
            have HBW2 := Lib.hid hbw
            clear hpb hbw
            obtain ⟨t2, ht2⟩ : ∃ t, encs L2 = t := ⟨_, rfl⟩
            rw [ht2]
            have htl : t2.length ≤ 100 := by rw [← ht2]; exact HPK.out.sg.st.ar.fit
            have HT2 := Lib.hid ht2
            clear ht2
            by_cases hlt2 : j2 < ys.length
            · have k3 : (j2 : Int) < (ys.length : Int) := by omega
              obtain ⟨z, hz⟩ : ∃ z, ys[j2]? = some z := ⟨_, List.getElem?_eq_getElem hlt2⟩
              obtain ⟨g, off, rfl, hgl, hcell⟩ := HA2.out (List.length_pos_iff.1 (by omega : 0 < ys.length))
              have q0 : wr.cell? ⟨g, off + j2, none⟩ = some (.int .i64 z) := by
                first
                  | (rw [HBW2.out.cell hgl]; exact num_cell hcell hz)
                  | exact num_cell hcell hz
              clear hz hgl hcell
              by_cases h0 : (addE 100 z L2 true ov2).1 = 0
              · obtain ⟨hp, rfl, hfit, hae⟩ := addE_zero h0
                have HAE := Lib.hid hae
                have HPR := Lib.hid hp
                have hel := (enc_length z).2
                clear h0 hfit hae hp
                go_wp2_with fail
                refine (add_any z _ HPK.out.sg).mono ?_
                rw [HAE.out]
                rintro e w7 ⟨rfl, hsg, hb⟩
                have HP7 := Lib.hid (HPK.out.stage hsg hb)
                have HW7 : Hid (Below w.heap.size w w7) := HBW2.out.trans (hb.below HBW2.out.size (by have := HL.out; simp; omega))
                clear hsg hb
                obtain ⟨ez, hez⟩ : ∃ l, enc z = l := ⟨_, rfl⟩
                have hrp := refPut_s z w7 HPR.out
                rw [hez] at hrp hel
                have HRP := Lib.hid hrp
                have HEZ := Lib.hid hez
                clear hrp hez
                go_wp2_with fail
                refine (HRP.out).mono ?_
                rintro e w8 ⟨A8, cap8, rfl, hA8, hb8⟩
                have HP8 := Lib.hid (HP7.out.below hb8)
                have HW8 : Hid (Below w.heap.size w w8) := HW7.out.trans (hb8.mono HW7.out.size)
                clear hb8
                go_wp2
                go_roundw
                case rel =>
                  refine ⟨j2 + 1, L2 ++ [z], false, ?_, by go_num, by omega, HP8.out, HW8.out⟩
                  rw [encs_append, encs_one, HT2.out, HEZ.out]
                case measure => simp [RowKit.intOf]; omega
              · have hL2 := addE_fail h0
                obtain ⟨er, her⟩ : ∃ er, (addE 100 z L2 true ov2).1 = er := ⟨_, rfl⟩
                obtain ⟨ov3, hov3⟩ : ∃ o, (addE 100 z L2 true ov2).2.2 = o := ⟨_, rfl⟩
                have hadd := add_any z wr HPK.out.sg
                rw [hL2, her, hov3] at hadd
                rw [her] at h0
                have k4 : (er == 0) = false := by simpa using h0
                have HADD := Lib.hid hadd
                clear hL2 her hov3 hadd h0
                go_wp2_with fail
                refine (HADD.out).mono ?_
                rintro e w7 ⟨rfl, hsg, hb⟩
                have HP7 := Lib.hid (HPK.out.stage hsg hb)
                have HW7 : Hid (Below w.heap.size w w7) := HBW2.out.trans (hb.below HBW2.out.size (by have := HL.out; simp; omega))
                clear hsg hb
                go_wp2
                go_roundw
                case rel => exact ⟨j2 + 1, L2, ov3, by rw [HT2.out], by go_num, by omega, HP7.out, HW7.out⟩
                case measure => simp [RowKit.intOf]; omega
            · have hge2 : decide ((j2 : Int) < (ys.length : Int)) = false := by simp; omega
              have hge2' : decide (j2 < ys.length) = false := by simp; omega
              clear hlt2
              go_wp2_with (go_at_call 19; refine (over_c _ HPK.out.sg.st).mono ?_; rintro e w7 ⟨rfl, hq⟩; obtain rfl := hq.symm)
              refine (end_any _ (HT.out.below HBW2.out) HPK.out).mono ?_
              cases ov2
              · rw [show endE 200 L2 true false [] [] = (0, L2) from by
                  unfold endE
                  rw [if_pos rfl, if_neg (by simp), if_pos (by rw [HT2.out]; simp [encs_nil]; omega)]
                  rfl]
                rintro e w7 ⟨rfl, hpb, hb⟩
                have HP7 : Hid (Pb w7 s a c 100 [] false false b a2 c2 200 L2 []) := hpb
                have HW7 : Hid (Below w.heap.size w w7) := HBW2.out.trans (hb.below HBW2.out.size (by have := HL.out; simp; omega))
                have hz := zeroA w7 HP7.out.sg.st.ar
                rw [show allZ (encs []) = true from by decide] at hz
                have HZ := Lib.hid hz
                have htx := textP_c w7 HP7.out.ed.buf
                rw [encs_nil, List.append_nil, HT2.out] at htx
                have HTX := Lib.hid htx
                clear hpb hb hz htx
                go_wp2_with (first
                  | (go_at_call 25; refine (HZ.out).mono ?_; rintro e w8 ⟨rfl, hq⟩; obtain rfl := hq.symm)
                  | (go_at_call 29; refine (HTX.out).mono ?_; rintro e w8 ⟨rfl, hb8⟩))
                go_ret
                exact ⟨rfl, HW7.out.trans (hb8.mono HW7.out.size)⟩
              · rw [show endE 200 L2 true true [] [] = (4, []) from rfl]
                rintro e w7 ⟨rfl, hpb, hb⟩
                have HP7 : Hid (Pb w7 s a c 100 [] false false b a2 c2 200 [] []) := hpb
                have HW7 : Hid (Below w.heap.size w w7) := HBW2.out.trans (hb.below HBW2.out.size (by have := HL.out; simp; omega))
                have hz := zeroA w7 HP7.out.sg.st.ar
                rw [show allZ (encs []) = true from by decide] at hz
                have HZ := Lib.hid hz
                have hlb := lenB w7 HP7.out.ed.buf
                rw [show (encs [] ++ encs []).length = 0 from rfl] at hlb
                have HLB2 := Lib.hid hlb
                clear hpb hb hz hlb
                go_wp2_with (first
                  | (go_at_call 25; refine (HZ.out).mono ?_; rintro e w8 ⟨rfl, hq⟩; obtain rfl := hq.symm)
                  | (go_at_call 27; refine (HLB2.out).mono ?_; rintro e w8 ⟨rfl, hq⟩; obtain rfl := hq.symm))
                go_ret
                exact ⟨rfl, HW7.out⟩
    · have k2 : decide (100 < (ys.length : Int)) = true := by simp; omega
      go_wp2_with fail
      refine (HEND.out _ HW2.out).mono ?_
      rintro e w5 ⟨rfl, hb5⟩
      go_wp2
      go_ret
      exact ⟨rfl, hb5⟩
  · have k1 : decide (100 < (zs.length : Int)) = true := by simp; omega
    go_wp2_with fail
    refine (HEND.out _ HW2.out).mono ?_
    rintro e w5 ⟨rfl, hb5⟩
    go_wp2
    go_ret
    exact ⟨rfl, hb5⟩

end Go.Proofs.YtbkpnffgihjikaaDoor.PasteDrops

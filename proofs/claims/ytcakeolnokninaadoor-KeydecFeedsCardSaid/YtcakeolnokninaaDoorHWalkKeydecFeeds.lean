/- KeydecFeeds, the walk: of any bytes, in any pieces, the keys are the document's, and what is held, at the end too. -/
import Derived.Test.YtcakeolnokninaaDoorGA
import Derived.Test.YtcakeolnokninaaDoorGK6
import Derived.Test.YtcakeolnokninaaDoorGK4
import Derived.Test.YtcakeolnokninaaDoorGF
import Derived.Deep.CutBlock
import Derived.Deep.DeepCutAuto
set_option linter.unusedVariables false
set_option linter.unusedSimpArgs false
namespace Go.Proofs.YtcakeolnokninaaDoor.KeydecFeeds
open Go.RowKit Go.Lib Go.Shelf ChangeShapes Mem Utf UtfP Edit Law

attribute [local go_sem] strOf_toList strOf_append strOf_size
attribute [local go_sem ↓] conv_str

theorem cellsK_drop (l : List (Int × Int)) (k : Nat) (hk : k ≤ l.length) : cellsK (l.drop k) = (cellsK l).drop (k * 2) := by
  have h := cellsK_append (l.take k) (l.drop k)
  rw [List.take_append_drop] at h
  rw [h, List.drop_left']
  rw [cellsK_length, List.length_take, Nat.min_eq_left hk]
theorem KeysAt.cut {w : World} {A : Option Addr} {l : List (Int × Int)} {k cap : Nat} (h : KeysAt w A l) (hcap : l.length ≤ cap) :
    KeysAt w (if cap = k then A else A.map (·.add (k * 2))) (l.drop k) := by
  intro hne
  have hk : k < l.length := by
    rcases Nat.lt_or_ge k l.length with h' | h'
    · exact h'
    · rw [List.drop_of_length_le h'] at hne; exact absurd rfl hne
  rw [cellsK_drop l k (Nat.le_of_lt hk)] at hne ⊢
  obtain ⟨b, off, rfl, hlt, hc⟩ := h (fun e => by rw [e] at hne; simp at hne)
  rw [if_neg (by omega)]
  refine ⟨b, off + k * 2, by simp [addr_add], hlt, fun j u hj => ?_⟩
  rw [List.getElem?_drop] at hj
  have := hc _ u hj
  rw [← Nat.add_assoc] at this
  exact this

theorem KeysAt.below {w w' : World} {A : Option Addr} {l : List (Int × Int)} (h : KeysAt w A l) (hb : Below w.heap.size w w') : KeysAt w' A l := KeysAt.but h (But.of_below (S := []) hb) (by simp)

/-- the loop over the pieces -/
def RF (w : World) (tb d a c : Nat) (rs : List ByteRow) (s5 s6 s35 : Value) (wr : World) : Prop :=
  ∃ (i : Nat) (L : List UInt8) (K : List (Int × Int)) (T : List UInt8) (P : Bool) (v hv : Value), s35 = .int .i64 (i : Int) ∧ s6 = .int .i64 (K.length : Int) ∧ i ≤ rs.length ∧ Hid (L.length = sumB (rs.take i)) ∧ Hid (Edit.drain L false = (K, T, P)) ∧
    Hid (OwnB wr (tb + 1) s5 L) ∧ Hid (OwnK wr (tb + 1) v K) ∧ Hid (OwnB wr (tb + 1) hv T) ∧ Hid (Blk wr tb #[v, hv, .bool P] 62) ∧ Hid (Dw w wr d a c 40 T P) ∧ Hid (Below w.heap.size w wr)

set_option maxRecDepth 200000 in
set_option maxHeartbeats 4000000 in
theorem walk (rs : List ByteRow) (Q : Option Addr) (cap : Nat) (w : World) (hT : Tabs w) (hA : RowsAt w 1 ByteRow.cells Q rs) (hcap : rs.length ≤ cap) (hm : rs.length ≤ 17592186044416) (hfit : ∀ r ∈ rs, r.Fits w) :
    Calls Tryd.prog 10 #[.slice Q rs.length cap] w fun e w' => e = .returned (.bool true) ∧ Below w.heap.size w w' := by
  have HA := Lib.hid hA
  have HT := Lib.hid hT
  have HFIT := Lib.hid hfit
  have H1 := Lib.hid (begin_c w hT)
  clear hT hA hfit
  go_enter Tryd.func10, Tryd.ntmps10
  go_wp2_with fail
  refine (H1.out).mono ?_
  rintro e w1 ⟨a, c, d, rfl, hd1, hb1⟩
  have HB1 := Lib.hid hb1
  have HD1 := Lib.hid hd1
  have HAL := Lib.hid (alive_c w1 hd1.tab)
  clear hd1 hb1
  go_wp2_with fail
  refine (HAL.out).mono ?_
  rintro e w2 ⟨rfl, hb2⟩
  have HD2 := Lib.hid (HD1.out.below hb2)
  have HB2 : Hid (Below w.heap.size w w2) := HB1.out.trans (hb2.mono HB1.out.size)
  have HG := Lib.hid (great_c rs Q cap w2 (HA.out.below HB2.out) (by omega) (fun r hr => by obtain ⟨_, h1, h2⟩ := HFIT.out r hr; omega))
  clear hb2
  go_wp2_with fail
  refine (HG.out).mono ?_
  rintro e w3 ⟨gb, rfl, hg, hq⟩
  obtain rfl := hq.symm
  cases gb
  · have hgg := hg rfl
    have HGG := Lib.hid hgg
    clear hg hgg
    have hlt2 := HD2.out.lt
    have hlow2 := HD2.out.low
    obtain ⟨tb, htb⟩ : ∃ tb, w2.heap.size = tb := ⟨_, rfl⟩
    have HTB := Lib.hid htb
    rw [htb] at hlt2
    have hwtb : w.heap.size ≤ tb := by have := HB2.out.size; omega
    clear htb
    go_wp2
    rw [HTB.out]
    go_loopw [5, 6, 35] (fun s5 s6 s35 wr => RF w tb d a c rs s5 s6 s35 wr) (fun _ _ i _ => rs.length - (RowKit.intOf i).toNat)
    case atStart =>
      have hal : Below w2.heap.size w2 (w2.alloc (.cells #[.slice none 0 0, .slice none 0 0, .bool false] 62)) := (Below.refl _ _).alloc (Nat.le_refl _) _
      have hbk : Blk (w2.alloc (.cells #[.slice none 0 0, .slice none 0 0, .bool false] 62)) tb #[.slice none 0 0, .slice none 0 0, .bool false] 62 := by rw [← HTB.out]; exact Blk.new _ _ _
      exact ⟨0, [], [], [], false, _, _, rfl, rfl, Nat.zero_le _, rfl, by unfold Hid; rfl, Lib.hid (OwnB.nil _ _), Lib.hid (OwnK.nil _ _), Lib.hid (OwnB.nil _ _), hbk, Lib.hid (HD2.out.below hal), Lib.hid (HB2.out.trans (hal.mono HB2.out.size))⟩
    case round =>
      obtain ⟨i, L, K, T, P, v, hv, rfl, rfl, hi, HL, HDR, HO, HK, HH, HBK, HD, HB⟩ := hrel
      have hlTn : nxE T P = none := by
        have := drain_left L false
        rw [HDR.out] at this
        exact this
      have HNX := Lib.hid hlTn
      have h34 := nxE_none hlTn
      clear hlTn
      by_cases hlt : i < rs.length
      · have k0 : (i : Int) < (rs.length : Int) := by omega
        obtain ⟨r, hr⟩ : ∃ r, rs[i]? = some r := ⟨_, List.getElem?_eq_getElem hlt⟩
        obtain ⟨hfa, hfc, hfm⟩ := HFIT.out r (List.mem_of_getElem? hr)
        obtain ⟨g, off, rfl, hgl, hcell⟩ := HA.out (List.length_pos_iff.1 (by omega : 0 < rs.length))
        have q0 := hcell i r hr 0 _ rfl
        rw [Nat.mul_one, Nat.add_zero] at q0
        have e0 := (HB.out.cell (p := ⟨g, off + i, none⟩) hgl).trans q0
        have hs1 := sumB_snoc hr
        have hs2 := sumB_take rs (i + 1)
        rw [hs1, ← HL.out] at hs2
        obtain ⟨A0, l, cap0⟩ := r
        simp only at e0 hfa hfc hfm hs1 hs2
        have hsum : L.length + l.length ≤ 2000 := by have := HGG.out.2; omega
        have HS1 : Hid ((L ++ l).length = sumB (rs.take (i + 1))) := by unfold Hid; rw [List.length_append, hs1, HL.out]
        have hfd := feed_w l A0 cap0 wr HD.out HNX.out hfa hfc (by omega)
        have hda := drain_append l L false
        rw [HDR.out] at hda
        rw [feed_drain l T P HNX.out] at hfd
        have hcnt := drain_count (T ++ l) P
        have hleft := drain_left (T ++ l) P
        obtain ⟨K6, T6, P6, hR6⟩ : ∃ K6 T6 P6 , Edit.drain (T ++ l) P = (K6, T6, P6) := ⟨_, _, _, rfl⟩
        simp only at hda
        rw [hR6] at hfd hcnt hda hleft
        simp only [List.length_append] at hcnt hda hleft hfd
        have h346 := nxE_none hleft
        have HFD := Lib.hid hfd
        have HDA := Lib.hid hda
        have HFA := Lib.hid hfa
        have htlt := HBK.out.lt
        clear hr hcell q0 hs1 hs2 hfd hda hR6 hleft hgl HL hfa
        go_wp2_with fail
        refine (HFD.out).mono ?_
        rintro e w6 ⟨v6, rfl, ho6, hd6, hb6⟩
        have HO6 := Lib.hid (OwnB.butR HO.out hb6 (by simp; omega))
        have HBK6 := Lib.hid (HBK.out.but hb6 (by simp; omega))
        have HKN6 := Lib.hid ho6
        have HD6 := Lib.hid hd6
        have HB6 : Hid (Below w.heap.size w w6) := HB.out.trans (hb6.below HB.out.size (by have := hlow2; simp; omega))
        have HFA6 : Hid (BytesAt w6 A0 l) := HFA.out.below HB6.out
        have hsz6 := hb6.size
        have hbase : tb + 1 ≤ w6.heap.size := by omega
        have HBASE := Lib.hid hbase
        have hbd : L.length + l.length ≤ 140737488355328 := by omega
        have HBD := Lib.hid hbd
        clear ho6 hd6 hb6 hbase hbd
        go_wp2_with (at_builtin; (refine wpList_append_bytes (B := tb + 1) (l := L) (src := l) rfl _ _ rfl rfl HO6.out rfl rfl HFA6.out HBD.out HBASE.out ?_))
        intro v7 w7 hown7 hg7
        have hltk : ∀ k, u5.ownBlock = some k → tb + 1 ≤ k ∧ k < wr.heap.size := fun k hk => OwnB.lt HO.out hk
        have HBK7 := Lib.hid (Blk.grown HBK6.out hg7 (fun k hk => by have := (hltk k hk).1; omega))
        have HD7 := Lib.hid (HD6.out.grown hg7 (B := tb + 1) (fun k hk => (hltk k hk).1) (by omega) (by omega))
        have hbk7 : But (u5.ownBlock.toList) w6 w7 := But.of_grown (But.refl _ _) hg7 (fun k hk => Or.inl (by rw [hk]; simp))
        have HKN7 := Lib.hid (HKN6.out.but hbk7 (by intro k hk; have := (hltk k (by simpa using hk)).2; omega))
        have HB7 : Hid (Below w.heap.size w w7) := HB6.out.trans (hbk7.below HB6.out.size (by intro k hk; have := (hltk k (by simpa using hk)).1; omega))
        have hsz7 := hbk7.size
        obtain ⟨A7, c7, rfl, hc7, hby7, _, _⟩ := hown7.form
        have hrd := read_c (L ++ l) A7 c7 w7 hby7 hc7 (by rw [List.length_append]; omega)
        rw [HDA.out] at hrd
        have HRD := Lib.hid hrd
        have HO7 := Lib.hid hown7
        have hn7 : (L ++ l).length = L.length + l.length := List.length_append
        clear hltk hbk7 hown7 hg7 hby7 hrd HO6 HBK6 HKN6 HD6 HBASE HBD HFA6 HFD
        rw [hn7] at HRD
        go_wp2_with fail
        refine (HRD.out).mono ?_
        rintro e w8 ⟨v8, hv8, rfl, hk8, hh8, hb8⟩
        obtain ⟨A8, c8, rfl, hc8, hka8, _, _⟩ := hk8.form
        obtain ⟨Ah, ch, rfl, hch, hba8, _, _⟩ := hh8.form
        have hsz8 := hb8.size
        have HBK8 := Lib.hid (HBK7.out.but (But.of_below (S := []) hb8) (by simp))
        have HD8 := Lib.hid (HD7.out.below hb8)
        have HB8 : Hid (Below w.heap.size w w8) := HB7.out.trans (hb8.mono HB7.out.size)
        have HKN8 := Lib.hid (HKN7.out.below hb8)
        have HO8 := Lib.hid (OwnB.below HO7.out hb8)
        have HK8 := Lib.hid (hk8.base (B' := tb + 1) (by omega))
        have HH8 := Lib.hid (OwnB.baseR hh8 (B' := tb + 1) (by omega))
        have z0 := HBK8.out.cell (j := 0) (v := _) rfl
        have z1 := HBK8.out.cell (j := 1) (v := _) rfl
        have z2 := HBK8.out.cell (j := 2) (v := .bool P) rfl
        have zf0 := HBK8.out.free 0
        have zf1 := HBK8.out.free 1
        have zf2 := HBK8.out.free 2
        have ztl := HBK8.out.lt
        have hKL : (K ++ K6).length = K.length + K6.length := List.length_append
        rw [hKL]
        have kgt : decide (((K.length + K6.length : Nat) : Int) < (K.length : Int)) = false := by rw [decide_eq_false_iff_not]; omega
        clear hk8 hh8 hb8 hka8 hba8 HBK7 HD7 HKN7 HO7 HRD
        go_wp2_with fail
        · have hcc : c8 = K.length := by assumption
          subst hcc
          obtain ⟨w9, hw9⟩ : ∃ w9, ((w8.setCell ⟨tb, 0, none⟩ (.slice A8 (K.length + K6.length) K.length)).setCell ⟨tb, 1, none⟩ (.slice Ah T6.length ch)).setCell ⟨tb, 2, none⟩ (.bool P6) = w9 := ⟨_, rfl⟩
          have hbt9 : But [tb] w8 w9 := by rw [← hw9]; exact (((But.refl _ _).set (Or.inl (by simp)) _).set (Or.inl (by simp)) _).set (Or.inl (by simp)) _
          have hbk9 : Blk w9 tb #[.slice A8 (K.length + K6.length) K.length, .slice Ah T6.length ch, .bool P6] 62 := by rw [← hw9]; exact Blk.set (Blk.set (Blk.set HBK8.out 0 _) 1 _) 2 _
          rw [hw9]
          have hltd := HD8.out.lt
          have HD9 : Hid (Dw w w9 d a c 40 T6 P6) := HD8.out.but hbt9 (by simp; omega) (by simp; omega) (by simp; omega) (by simp; omega)
          have HB9 : Hid (Below w.heap.size w w9) := HB8.out.trans (hbt9.below HB8.out.size (by simp; omega))
          have HO9 := Lib.hid (OwnB.butR HO8.out hbt9 (by simp))
          have hk9 := HK8.out.but hbt9 (by simp)
          have HH9 := Lib.hid (OwnB.butR HH8.out hbt9 (by simp))
          have hkn9 := HKN8.out.but hbt9 (by simp; omega)
          obtain ⟨A6, c6, rfl, _, hk6, _, _⟩ := hkn9.form
          obtain ⟨A8', c8', he8, _, hka9, _, _⟩ := hk9.form
          cases he8
          have hcut := KeysAt.cut hka9 hc8 (k := K.length)
          rw [List.drop_left] at hcut
          have HSM := fun A' c' (hk' : KeysAt w9 A' K6) => (same_c K6 K6 A6 A' c6 c' w9 hk6 hk' (by omega)).mono (R' := fun e w' => e = .returned (.bool true) ∧ Below w9.heap.size w9 w') (fun e w' ⟨he, hb⟩ => ⟨by rw [he]; simp, hb⟩)
          have HK9 := Lib.hid hk9
          have HBK9 := Lib.hid hbk9
          rw [if_pos rfl] at hcut
          refine (HSM _ _ hcut).mono ?_
          rintro e w10 ⟨rfl, hb10⟩
          have HB10 : Hid (Below w.heap.size w w10) := HB9.out.trans (hb10.mono HB9.out.size)
          have HD10 := Lib.hid (HD9.out.below hb10)
          have HO10 := Lib.hid (OwnB.below HO9.out hb10)
          have HK10 := Lib.hid (HK9.out.below hb10)
          have HH10 := Lib.hid (OwnB.below HH9.out hb10)
          have HBK10 := Lib.hid (HBK9.out.but (But.of_below (S := []) hb10) (by simp))
          have y0 := HBK10.out.cell (j := 0) (v := _) rfl
          have y1 := HBK10.out.cell (j := 1) (v := _) rfl
          have y2 := HBK10.out.cell (j := 2) (v := _) rfl
          have hyt := HBK10.out.lt
          obtain ⟨Ah', ch', heh, _, hby10, _, _⟩ := HH10.out.form
          cases heh
          have HS : Hid (∀ W, Below w10.heap.size w10 W → Below w10.heap.size w10 W ∧ W.cell? ⟨tb, 1, none⟩ = some (.slice Ah T6.length ch) ∧ W.cell? ⟨tb, 2, none⟩ = some (.bool P6) ∧ BytesAt W Ah T6) := fun W hW => ⟨hW, (hW.cell (p := ⟨tb, 1, none⟩) hyt).trans y1, (hW.cell (p := ⟨tb, 2, none⟩) hyt).trans y2, hby10.below hW⟩
          have hdw : ∀ W, Below w10.heap.size w10 W → Dw w W d a c 40 T6 P6 := fun W hW => HD10.out.below hW
          have K1 : Hid (∀ W, Below w10.heap.size w10 W → Calls Tryd.prog 25 #[.pointer (some ⟨d, 0, none⟩)] W fun e w' => e = .returned (.int .i64 (T6.length : Int)) ∧ Below w10.heap.size w10 w') := fun W hW => (held_w W (hdw W hW)).mono fun e w' ⟨he, hb⟩ => ⟨he, by rw [hb]; exact hW⟩
          have K2 : Hid (∀ W, Below w10.heap.size w10 W → Calls Tryd.prog 23 #[.pointer (some ⟨a, 0, none⟩)] W fun e w' => e = .returned (.string (strOf T6)) ∧ Below w10.heap.size w10 w' ∧ Below W.heap.size W w') := fun W hW => (text_k W (hdw W hW).dc.ar (by omega)).mono fun e w' ⟨he, hb⟩ => ⟨he, hW.trans (hb.mono hW.size), hb⟩
          have K3 : Hid (∀ W, Below w10.heap.size w10 W → Calls Tryd.prog 24 #[.pointer (some ⟨d, 0, none⟩)] W fun e w' => e = .returned (.bool P6) ∧ Below w10.heap.size w10 w') := fun W hW => (pastes_w W (hdw W hW)).mono fun e w' ⟨he, hb⟩ => ⟨he, by rw [hb]; exact hW⟩
          have K4 : Hid (∀ W, Below w10.heap.size w10 W → Calls Tryd.prog 35 #[.pointer (some ⟨a, 0, none⟩)] W fun e w' => e = .returned (.bool true) ∧ Below w10.heap.size w10 w') := fun W hW => (cleanA W (hdw W hW).dc.ar).mono fun e w' ⟨he, n, hb⟩ => ⟨he, by rw [hb]; exact Utf.below_drewN hW n⟩
          have hd0 : Below w10.heap.size w10 w10.drew := (Below.refl _ _).drew
          have t1 : ((T6.length : Int) != (T6.length : Int)) = false := by simp
          have t5 : (P6 != P6) = false := by simp
          obtain ⟨_, z1, z2, z3⟩ := HS.out _ hd0
          clear hcut HSM hk6 hka9 hk9 hbk9 hkn9 hw9 hbt9 HBK9 HD9 HO9 HH9 HK9 hb10 y1 y2 hdw HBK8 HD8 HKN8 HO8 HK8 HH8 HB8 HBK HD HO HK HH
          go_wp2_with fail
          go_region_held_law (fun W => Below w10.heap.size w10 W ∧ W.cell? ⟨tb, 1, none⟩ = some (.slice Ah T6.length ch) ∧ W.cell? ⟨tb, 2, none⟩ = some (.bool P6) ∧ BytesAt W Ah T6)
            (exact HS.out _ (by assumption)) (first
            | (go_at_call 25; (with_reducible refine (K1.out _ ?_).mono ?_); (go_split_ands; assumption); rintro e w11 ⟨rfl, hb11⟩)
            | (go_at_call 23; (with_reducible refine (K2.out _ ?_).mono ?_); (go_split_ands; assumption); rintro e w13 ⟨rfl, hb13, hl13⟩)
            | (go_at_call 24; (with_reducible refine (K3.out _ ?_).mono ?_); (go_split_ands; assumption); rintro e w14 ⟨rfl, hb14⟩)
            | (go_at_call 35; (with_reducible refine (K4.out _ ?_).mono ?_); (go_split_ands; assumption); rintro e w12 ⟨rfl, hb12⟩))
          all_goals
            have HB12 : Hid (Below w.heap.size w w12) := HB10.out.trans (hb12.mono HB10.out.size)
            have HD12 := Lib.hid (HD10.out.below hb12)
            have HO12 := Lib.hid (OwnB.below HO10.out hb12)
            have HK12 := Lib.hid (HK10.out.below hb12)
            have HH12 := Lib.hid (OwnB.below HH10.out hb12)
            have HBK12 := Lib.hid (HBK10.out.but (But.of_below (S := []) hb12) (by simp))
            clear hb12
            go_wp2
            go_roundw
            case rel => exact ⟨i + 1, L ++ l, K ++ K6, T6, P6, _, _, by go_num, by rw [List.length_append, Int.natCast_add], by omega, HS1, HDA, by rw [List.length_append] at HO12; exact HO12, HK12, HH12, by rw [List.length_append]; exact HBK12, HD12, HB12⟩
            case measure => simp [RowKit.intOf]; omega
        · have hcc : ¬ c8 = K.length := by assumption
          obtain ⟨w9, hw9⟩ : ∃ w9, ((w8.setCell ⟨tb, 0, none⟩ (.slice A8 (K.length + K6.length) c8)).setCell ⟨tb, 1, none⟩ (.slice Ah T6.length ch)).setCell ⟨tb, 2, none⟩ (.bool P6) = w9 := ⟨_, rfl⟩
          have hbt9 : But [tb] w8 w9 := by rw [← hw9]; exact (((But.refl _ _).set (Or.inl (by simp)) _).set (Or.inl (by simp)) _).set (Or.inl (by simp)) _
          have hbk9 : Blk w9 tb #[.slice A8 (K.length + K6.length) c8, .slice Ah T6.length ch, .bool P6] 62 := by rw [← hw9]; exact Blk.set (Blk.set (Blk.set HBK8.out 0 _) 1 _) 2 _
          rw [hw9]
          have hltd := HD8.out.lt
          have HD9 : Hid (Dw w w9 d a c 40 T6 P6) := HD8.out.but hbt9 (by simp; omega) (by simp; omega) (by simp; omega) (by simp; omega)
          have HB9 : Hid (Below w.heap.size w w9) := HB8.out.trans (hbt9.below HB8.out.size (by simp; omega))
          have HO9 := Lib.hid (OwnB.butR HO8.out hbt9 (by simp))
          have hk9 := HK8.out.but hbt9 (by simp)
          have HH9 := Lib.hid (OwnB.butR HH8.out hbt9 (by simp))
          have hkn9 := HKN8.out.but hbt9 (by simp; omega)
          obtain ⟨A6, c6, rfl, _, hk6, _, _⟩ := hkn9.form
          obtain ⟨A8', c8', he8, _, hka9, _, _⟩ := hk9.form
          cases he8
          have hcut := KeysAt.cut hka9 hc8 (k := K.length)
          rw [List.drop_left] at hcut
          have HSM := fun A' c' (hk' : KeysAt w9 A' K6) => (same_c K6 K6 A6 A' c6 c' w9 hk6 hk' (by omega)).mono (R' := fun e w' => e = .returned (.bool true) ∧ Below w9.heap.size w9 w') (fun e w' ⟨he, hb⟩ => ⟨by rw [he]; simp, hb⟩)
          have HK9 := Lib.hid hk9
          have HBK9 := Lib.hid hbk9
          rw [if_neg hcc] at hcut
          refine (HSM _ _ hcut).mono ?_
          rintro e w10 ⟨rfl, hb10⟩
          have HB10 : Hid (Below w.heap.size w w10) := HB9.out.trans (hb10.mono HB9.out.size)
          have HD10 := Lib.hid (HD9.out.below hb10)
          have HO10 := Lib.hid (OwnB.below HO9.out hb10)
          have HK10 := Lib.hid (HK9.out.below hb10)
          have HH10 := Lib.hid (OwnB.below HH9.out hb10)
          have HBK10 := Lib.hid (HBK9.out.but (But.of_below (S := []) hb10) (by simp))
          have y0 := HBK10.out.cell (j := 0) (v := _) rfl
          have y1 := HBK10.out.cell (j := 1) (v := _) rfl
          have y2 := HBK10.out.cell (j := 2) (v := _) rfl
          have hyt := HBK10.out.lt
          obtain ⟨Ah', ch', heh, _, hby10, _, _⟩ := HH10.out.form
          cases heh
          have HS : Hid (∀ W, Below w10.heap.size w10 W → Below w10.heap.size w10 W ∧ W.cell? ⟨tb, 1, none⟩ = some (.slice Ah T6.length ch) ∧ W.cell? ⟨tb, 2, none⟩ = some (.bool P6) ∧ BytesAt W Ah T6) := fun W hW => ⟨hW, (hW.cell (p := ⟨tb, 1, none⟩) hyt).trans y1, (hW.cell (p := ⟨tb, 2, none⟩) hyt).trans y2, hby10.below hW⟩
          have hdw : ∀ W, Below w10.heap.size w10 W → Dw w W d a c 40 T6 P6 := fun W hW => HD10.out.below hW
          have K1 : Hid (∀ W, Below w10.heap.size w10 W → Calls Tryd.prog 25 #[.pointer (some ⟨d, 0, none⟩)] W fun e w' => e = .returned (.int .i64 (T6.length : Int)) ∧ Below w10.heap.size w10 w') := fun W hW => (held_w W (hdw W hW)).mono fun e w' ⟨he, hb⟩ => ⟨he, by rw [hb]; exact hW⟩
          have K2 : Hid (∀ W, Below w10.heap.size w10 W → Calls Tryd.prog 23 #[.pointer (some ⟨a, 0, none⟩)] W fun e w' => e = .returned (.string (strOf T6)) ∧ Below w10.heap.size w10 w' ∧ Below W.heap.size W w') := fun W hW => (text_k W (hdw W hW).dc.ar (by omega)).mono fun e w' ⟨he, hb⟩ => ⟨he, hW.trans (hb.mono hW.size), hb⟩
          have K3 : Hid (∀ W, Below w10.heap.size w10 W → Calls Tryd.prog 24 #[.pointer (some ⟨d, 0, none⟩)] W fun e w' => e = .returned (.bool P6) ∧ Below w10.heap.size w10 w') := fun W hW => (pastes_w W (hdw W hW)).mono fun e w' ⟨he, hb⟩ => ⟨he, by rw [hb]; exact hW⟩
          have K4 : Hid (∀ W, Below w10.heap.size w10 W → Calls Tryd.prog 35 #[.pointer (some ⟨a, 0, none⟩)] W fun e w' => e = .returned (.bool true) ∧ Below w10.heap.size w10 w') := fun W hW => (cleanA W (hdw W hW).dc.ar).mono fun e w' ⟨he, n, hb⟩ => ⟨he, by rw [hb]; exact Utf.below_drewN hW n⟩
          have hd0 : Below w10.heap.size w10 w10.drew := (Below.refl _ _).drew
          have t1 : ((T6.length : Int) != (T6.length : Int)) = false := by simp
          have t5 : (P6 != P6) = false := by simp
          obtain ⟨_, z1, z2, z3⟩ := HS.out _ hd0
          clear hcut HSM hk6 hka9 hk9 hbk9 hkn9 hw9 hbt9 HBK9 HD9 HO9 HH9 HK9 hb10 y1 y2 hdw HBK8 HD8 HKN8 HO8 HK8 HH8 HB8 HBK HD HO HK HH
          go_wp2_with fail
          go_region_held_law (fun W => Below w10.heap.size w10 W ∧ W.cell? ⟨tb, 1, none⟩ = some (.slice Ah T6.length ch) ∧ W.cell? ⟨tb, 2, none⟩ = some (.bool P6) ∧ BytesAt W Ah T6)
            (exact HS.out _ (by assumption)) (first
            | (go_at_call 25; (with_reducible refine (K1.out _ ?_).mono ?_); (go_split_ands; assumption); rintro e w11 ⟨rfl, hb11⟩)
            | (go_at_call 23; (with_reducible refine (K2.out _ ?_).mono ?_); (go_split_ands; assumption); rintro e w13 ⟨rfl, hb13, hl13⟩)
            | (go_at_call 24; (with_reducible refine (K3.out _ ?_).mono ?_); (go_split_ands; assumption); rintro e w14 ⟨rfl, hb14⟩)
            | (go_at_call 35; (with_reducible refine (K4.out _ ?_).mono ?_); (go_split_ands; assumption); rintro e w12 ⟨rfl, hb12⟩))
          all_goals
            have HB12 : Hid (Below w.heap.size w w12) := HB10.out.trans (hb12.mono HB10.out.size)
            have HD12 := Lib.hid (HD10.out.below hb12)
            have HO12 := Lib.hid (OwnB.below HO10.out hb12)
            have HK12 := Lib.hid (HK10.out.below hb12)
            have HH12 := Lib.hid (OwnB.below HH10.out hb12)
            have HBK12 := Lib.hid (HBK10.out.but (But.of_below (S := []) hb12) (by simp))
            clear hb12
            go_wp2
            go_roundw
            case rel => exact ⟨i + 1, L ++ l, K ++ K6, T6, P6, _, _, by go_num, by rw [List.length_append, Int.natCast_add], by omega, HS1, HDA, by rw [List.length_append] at HO12; exact HO12, HK12, HH12, by rw [List.length_append]; exact HBK12, HD12, HB12⟩
            case measure => simp [RowKit.intOf]; omega
      · have hil : i = rs.length := by omega
        have kk : decide ((i : Int) < (rs.length : Int)) = false := by simp; omega
        have kk' : decide (i < rs.length) = false := by simp; omega
        obtain ⟨Ah, ch, rfl, hch, hba, _, _⟩ := HH.out.form
        have z1 := HBK.out.cell (j := 1) (v := _) rfl
        have hzt := HBK.out.lt
        have HLA := Lib.hid (last_c T Ah ch wr hba hch)
        clear hlt hil hba HO HK HH
        go_wp2_with fail
        refine (HLA.out).mono ?_
        rintro e w4 ⟨rfl, hb4⟩
        have HB4 : Hid (Below w.heap.size w w4) := HB.out.trans (hb4.mono HB.out.size)
        have HD4 := Lib.hid (HD.out.below hb4)
        have HBK4 := Lib.hid (HBK.out.but (But.of_below (S := []) hb4) (by simp))
        have hsz4 := hb4.size
        obtain ⟨k, kc, hlp⟩ : ∃ k kc, lastP T = (k, kc) := ⟨_, _, rfl⟩
        rw [hlp]
        have hal : Below w4.heap.size w4 (w4.alloc (.cells #[.int .i64 k, .int .i64 kc] 54)) := (Below.refl _ _).alloc (Nat.le_refl _) _
        have hlb : lastKs T = if T = [] then [] else [(k, kc)] := by
          unfold lastKs
          unfold lastP at hlp
          by_cases h : T = []
          · rw [if_pos h, if_pos h]
          · rw [if_neg h] at hlp
            rw [if_neg h, if_neg h, hlp]
        have HLB := Lib.hid hlb
        clear z1 HLA HB hb4 HD HBK hlp hlb
        by_cases hT0 : T = []
        · have hdf : decide (T ≠ []) = false := by simpa using hT0
          rw [hdf]
          have hnil := HLB.out
          rw [if_pos hT0] at hnil
          have hfn := finish_w _ (HD4.out.below hal)
          rw [hnil] at hfn
          have HFN := Lib.hid hfn
          have HB5 : Hid (Below w.heap.size w (w4.alloc (.cells #[.int .i64 k, .int .i64 kc] 54))) := HB4.out.trans (hal.mono HB4.out.size)
          have HBK5 := Lib.hid (HBK4.out.but (But.of_below (S := []) hal) (by simp))
          clear hfn hnil hdf hT0 HLB HB4 HBK4 hal HD4
          go_wp2_with fail
          refine (HFN.out).mono ?_
          rintro e w6 ⟨v6, rfl, hk6, hd6, hb6⟩
          have HB6 : Hid (Below w.heap.size w w6) := HB5.out.trans (hb6.below HB5.out.size (by have := hlow2; simp; omega))
          have HBK6 := Lib.hid (HBK5.out.but hb6 (by simp; omega))
          have y2 := HBK6.out.cell (j := 2) (v := .bool P) rfl
          have hyt := HBK6.out.lt
          have hkw6 := (fun h => absurd rfl h : KeysAt w6 none [])
          obtain ⟨A6, c6, rfl, _, hka6, _, _⟩ := hk6.form
          have HS : Hid (∀ W, Below w6.heap.size w6 W → Below w6.heap.size w6 W ∧ W.cell? ⟨tb, 2, none⟩ = some (.bool P)) := fun W hW => ⟨hW, (hW.cell (p := ⟨tb, 2, none⟩) hyt).trans y2⟩
          have hdw : ∀ W, Below w6.heap.size w6 W → Dw w W d a c 40 [] P := fun W hW => hd6.below hW
          have K1 : Hid (∀ W, Below w6.heap.size w6 W → Calls Tryd.prog 22 #[.slice A6 0 c6, .slice none 0 0] W fun e w' => e = .returned (.bool true) ∧ Below w6.heap.size w6 w') := fun W hW => (same_c ([] : List (Int × Int)) ([] : List (Int × Int)) A6 none c6 0 W (KeysAt.below hka6 hW) (KeysAt.below hkw6 hW) (by simp)).mono fun e w' ⟨he, hb⟩ => ⟨by rw [he]; simp, hW.trans (hb.mono hW.size)⟩
          have K2 : Hid (∀ W, Below w6.heap.size w6 W → Calls Tryd.prog 25 #[.pointer (some ⟨d, 0, none⟩)] W fun e w' => e = .returned (.int .i64 0) ∧ Below w6.heap.size w6 w') := fun W hW => (held_w W (hdw W hW)).mono fun e w' ⟨he, hb⟩ => ⟨he, by rw [hb]; exact hW⟩
          have K3 : Hid (∀ W, Below w6.heap.size w6 W → Calls Tryd.prog 27 #[.pointer (some ⟨a, 0, none⟩)] W fun e w' => e = .returned (.bool true) ∧ Below w6.heap.size w6 w') := fun W hW => (zeroA W (hdw W hW).dc.ar).mono fun e w' ⟨he, hb⟩ => ⟨he, by rw [hb]; exact hW⟩
          have K4 : Hid (∀ W, Below w6.heap.size w6 W → Calls Tryd.prog 24 #[.pointer (some ⟨d, 0, none⟩)] W fun e w' => e = .returned (.bool P) ∧ Below w6.heap.size w6 w') := fun W hW => (pastes_w W (hdw W hW)).mono fun e w' ⟨he, hb⟩ => ⟨he, by rw [hb]; exact hW⟩
          have hd0 : Below w6.heap.size w6 w6.drew := (Below.refl _ _).drew
          have t5 : (P == P) = true := by simp
          obtain ⟨_, z2⟩ := HS.out _ hd0
          clear hk6 hd6 hb6 hka6 hkw6 y2 hdw HBK5 HB5 HFN
          go_wp2_with fail
          go_region_held_law (fun W => Below w6.heap.size w6 W ∧ W.cell? ⟨tb, 2, none⟩ = some (.bool P))
            (exact HS.out _ (by assumption)) (first
            | (go_at_call 22; (with_reducible refine (K1.out _ ?_).mono ?_); (go_split_ands; assumption); rintro e w11 ⟨rfl, hb11⟩)
            | (go_at_call 25; (with_reducible refine (K2.out _ ?_).mono ?_); (go_split_ands; assumption); rintro e w13 ⟨rfl, hb13⟩)
            | (go_at_call 27; (with_reducible refine (K3.out _ ?_).mono ?_); (go_split_ands; assumption); rintro e w14 ⟨rfl, hb14⟩)
            | (go_at_call 24; (with_reducible refine (K4.out _ ?_).mono ?_); (go_split_ands; assumption); rintro e w12 ⟨rfl, hb12⟩))
          all_goals
            go_wp2
            go_ret
            exact ⟨rfl, HB6.out.trans (hb12.mono HB6.out.size)⟩
        · have hdf : decide (T ≠ []) = true := by simpa using hT0
          rw [hdf]
          have hone := HLB.out
          rw [if_neg hT0] at hone
          obtain ⟨X, hX⟩ : ∃ X : Obj, Obj.cells #[.int .i64 k, .int .i64 kc] 54 = X := ⟨_, rfl⟩
          have hsz : (w4.alloc (.cells #[.int .i64 k, .int .i64 kc] 54)).heap.size = w4.heap.size + 1 := Array.size_push _
          have hal2 : Below (w4.alloc (.cells #[.int .i64 k, .int .i64 kc] 54)).heap.size (w4.alloc (.cells #[.int .i64 k, .int .i64 kc] 54)) ((w4.alloc (.cells #[.int .i64 k, .int .i64 kc] 54)).alloc (.cells #[.int .i64 k, .int .i64 kc] 54)) := (Below.refl _ _).alloc (Nat.le_refl _) _
          have hsrc : KeysAt ((w4.alloc (.cells #[.int .i64 k, .int .i64 kc] 54)).alloc (.cells #[.int .i64 k, .int .i64 kc] 54)) (some ⟨w4.heap.size + 1, 0, none⟩) [(k, kc)] := by
            rw [← hsz]
            exact CellsAt.new _ #[.int .i64 k, .int .i64 kc] _ (cellsK [(k, kc)]) rfl
          have hal3 : Below w4.heap.size w4 ((w4.alloc (.cells #[.int .i64 k, .int .i64 kc] 54)).alloc (.cells #[.int .i64 k, .int .i64 kc] 54)) := hal.trans (hal2.mono hal.size)
          have hown0 : OwnK ((w4.alloc (.cells #[.int .i64 k, .int .i64 kc] 54)).alloc (.cells #[.int .i64 k, .int .i64 kc] 54)) (tb + 1) (.slice none 0 0) [] := OwnK.nil _ _
          have hbase : tb + 1 ≤ ((w4.alloc (.cells #[.int .i64 k, .int .i64 kc] 54)).alloc (.cells #[.int .i64 k, .int .i64 kc] 54)).heap.size := by have := hal3.size; omega
          have HSRC := Lib.hid hsrc
          have HOWN0 := Lib.hid hown0
          have HBASE := Lib.hid hbase
          have HAL3 := Lib.hid hal3
          have hbd : ([] : List (Int × Int)).length + [(k, kc)].length ≤ 1099511627776 := by simp
          have HBD := Lib.hid hbd
          have HONE := Lib.hid hone
          clear hsrc hown0 hbase hal3 hal2 hal hone hdf hT0 HLB hX hbd
          go_wp2_with (at_builtin; (refine wpList_append_keys (B := tb + 1) (l := []) (src := [(k, kc)]) rfl _ _ rfl rfl HOWN0.out rfl rfl HSRC.out HBD.out HBASE.out ?_))
          intro v5 w5 hown5 hg5
          have hbt5 : But [] w4 w5 := But.of_grown (But.of_below (S := []) HAL3.out) hg5 (fun k hk => by cases hk)
          have HB5 : Hid (Below w.heap.size w w5) := HB4.out.trans (hbt5.below HB4.out.size (by simp))
          have HBK5 := Lib.hid (HBK4.out.but hbt5 (by simp))
          obtain ⟨A5, c5, rfl, _, hkw5, hbl5, _⟩ := hown5.form
          have HKW5 := Lib.hid hown5
          have hfn := finish_w w5 (HD4.out.but hbt5 (by simp) (by simp) (by simp) (by simp))
          rw [HONE.out] at hfn
          have HFN := Lib.hid hfn
          clear hown5 hg5 hbt5 hkw5 hfn HB4 HBK4 HD4 HSRC HOWN0 HBASE HAL3 HBD
          go_wp2_with fail
          refine (HFN.out).mono ?_
          rintro e w6 ⟨v6, rfl, hk6, hd6, hb6⟩
          have HB6 : Hid (Below w.heap.size w w6) := HB5.out.trans (hb6.below HB5.out.size (by have := hlow2; simp; omega))
          have HBK6 := Lib.hid (HBK5.out.but hb6 (by simp; omega))
          have y2 := HBK6.out.cell (j := 2) (v := .bool P) rfl
          have hyt := HBK6.out.lt
          have hkw6 : KeysAt w6 A5 [(k, kc)] := by
            obtain ⟨A', c', e, _, hk, _, _⟩ := (HKW5.out.but hb6 (by simp; omega)).form
            cases e
            exact hk
          obtain ⟨A6, c6, rfl, _, hka6, _, _⟩ := hk6.form
          have HS : Hid (∀ W, Below w6.heap.size w6 W → Below w6.heap.size w6 W ∧ W.cell? ⟨tb, 2, none⟩ = some (.bool P)) := fun W hW => ⟨hW, (hW.cell (p := ⟨tb, 2, none⟩) hyt).trans y2⟩
          have hdw : ∀ W, Below w6.heap.size w6 W → Dw w W d a c 40 [] P := fun W hW => hd6.below hW
          have K1 : Hid (∀ W, Below w6.heap.size w6 W → Calls Tryd.prog 22 #[.slice A6 1 c6, .slice A5 1 c5] W fun e w' => e = .returned (.bool true) ∧ Below w6.heap.size w6 w') := fun W hW => (same_c [(k, kc)] [(k, kc)] A6 A5 c6 c5 W (KeysAt.below hka6 hW) (KeysAt.below hkw6 hW) (by simp)).mono fun e w' ⟨he, hb⟩ => ⟨by rw [he]; simp, hW.trans (hb.mono hW.size)⟩
          have K2 : Hid (∀ W, Below w6.heap.size w6 W → Calls Tryd.prog 25 #[.pointer (some ⟨d, 0, none⟩)] W fun e w' => e = .returned (.int .i64 0) ∧ Below w6.heap.size w6 w') := fun W hW => (held_w W (hdw W hW)).mono fun e w' ⟨he, hb⟩ => ⟨he, by rw [hb]; exact hW⟩
          have K3 : Hid (∀ W, Below w6.heap.size w6 W → Calls Tryd.prog 27 #[.pointer (some ⟨a, 0, none⟩)] W fun e w' => e = .returned (.bool true) ∧ Below w6.heap.size w6 w') := fun W hW => (zeroA W (hdw W hW).dc.ar).mono fun e w' ⟨he, hb⟩ => ⟨he, by rw [hb]; exact hW⟩
          have K4 : Hid (∀ W, Below w6.heap.size w6 W → Calls Tryd.prog 24 #[.pointer (some ⟨d, 0, none⟩)] W fun e w' => e = .returned (.bool P) ∧ Below w6.heap.size w6 w') := fun W hW => (pastes_w W (hdw W hW)).mono fun e w' ⟨he, hb⟩ => ⟨he, by rw [hb]; exact hW⟩
          have hd0 : Below w6.heap.size w6 w6.drew := (Below.refl _ _).drew
          have t5 : (P == P) = true := by simp
          obtain ⟨_, z2⟩ := HS.out _ hd0
          clear hk6 hd6 hb6 hka6 hkw6 y2 hdw HBK5 HB5 HFN
          go_wp2_with fail
          go_region_held_law (fun W => Below w6.heap.size w6 W ∧ W.cell? ⟨tb, 2, none⟩ = some (.bool P))
            (exact HS.out _ (by assumption)) (first
            | (go_at_call 22; (with_reducible refine (K1.out _ ?_).mono ?_); (go_split_ands; assumption); rintro e w11 ⟨rfl, hb11⟩)
            | (go_at_call 25; (with_reducible refine (K2.out _ ?_).mono ?_); (go_split_ands; assumption); rintro e w13 ⟨rfl, hb13⟩)
            | (go_at_call 27; (with_reducible refine (K3.out _ ?_).mono ?_); (go_split_ands; assumption); rintro e w14 ⟨rfl, hb14⟩)
            | (go_at_call 24; (with_reducible refine (K4.out _ ?_).mono ?_); (go_split_ands; assumption); rintro e w12 ⟨rfl, hb12⟩))
          all_goals
            go_wp2
            go_ret
            exact ⟨rfl, HB6.out.trans (hb12.mono HB6.out.size)⟩
  · have HA2 := Lib.hid (alive_c w2 HD2.out.tab)
    clear hg
    go_wp2_with fail
    refine (HA2.out).mono ?_
    rintro e w4 ⟨rfl, hb4⟩
    have HB4 : Hid (Below w.heap.size w w4) := HB2.out.trans (hb4.mono HB2.out.size)
    clear hb4
    go_wp2
    go_ret
    exact ⟨rfl, HB4.out⟩

end Go.Proofs.YtcakeolnokninaaDoor.KeydecFeeds

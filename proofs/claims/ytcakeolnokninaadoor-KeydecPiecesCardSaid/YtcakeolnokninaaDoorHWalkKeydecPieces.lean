/- KeydecPieces, the walk: in whatever pieces bytes come, the keys and what is held are the same. -/
import Derived.Test.YtcakeolnokninaaDoorGA
import Derived.Test.YtcakeolnokninaaDoorHKd16
import Derived.Test.YtcakeolnokninaaDoorHCut
import Derived.Test.YtcakeolnokninaaDoorHListIn
import Derived.Laws.Bits64
set_option linter.unusedVariables false
set_option linter.unusedSimpArgs false
namespace Go.Proofs.YtcakeolnokninaaDoor.KeydecPieces
open Go.RowKit Go.Lib Go.Shelf ChangeShapes Mem Utf UtfP Edit Law

/-- the loop over the cuts -/
def RP (w w4 : World) (d a c e b g m : Nat) (T1 : List UInt8) (P1 : Bool) (R : List (Int × Int) × List UInt8 × Bool) (n0 : Nat) (V : Value) (KS : List (Int × Int)) (s11 s12 s58 : Value) (wr : World) : Prop :=
  ∃ (i : Nat) (ks : List (Int × Int)) (A : Option Addr) (rest : List UInt8) (cap : Nat) (u : List UInt8) (qs : Bool), s12 = .slice A rest.length cap ∧ s58 = .int .i64 (i : Int) ∧ i ≤ m ∧ rest.length ≤ cap ∧ rest.length ≤ 1500 ∧ Hid (BytesAt w A rest) ∧ Hid (OwnK wr w4.heap.size s11 ks) ∧
    Hid (Two w wr d a c T1 P1 e b g u qs) ∧ Hid (nxE u qs = none) ∧ ks.length + rest.length + u.length ≤ n0 ∧ Hid (But [e, b, g] w4 wr) ∧ Hid ((ks ++ (feed rest u qs).1, (feed rest u qs).2) = R)

set_option maxRecDepth 200000 in
set_option maxHeartbeats 4000000 in
theorem walk (l : List UInt8) (A : Option Addr) (cap : Nat) (zs : List Int) (Q : Option Addr) (capz : Nat) (w : World) (hT : Tabs w) (hA : BytesAt w A l) (hcap : l.length ≤ cap) (hm : l.length ≤ 140737488355328) (hQ : RowsAt w 1 (fun z => [Value.int .i64 z]) Q zs) (hcapz : zs.length ≤ capz) (hmz : zs.length ≤ 17592186044416) (_ : ∀ z ∈ zs, (Lit.int .i64 z).wf = true) :
    Calls Tryd.prog 5 #[.slice A l.length cap, .slice Q zs.length capz] w fun e w' => e = .returned (.bool true) ∧ Below w.heap.size w w' := by
  have HA := Lib.hid hA
  have HQ := Lib.hid hQ
  have HT := Lib.hid hT
  have H1 := Lib.hid (begin_c w hT)
  clear hT hA hQ
  go_enter Tryd.func5, Tryd.ntmps5
  go_wp2_with fail
  refine (H1.out).mono ?_
  rintro e w1 ⟨a, c, d, rfl, hd1, hb1⟩
  have HB1 := Lib.hid hb1
  have HD1 := Lib.hid hd1
  have H2 := Lib.hid (begin_c w1 hd1.tab)
  clear hd1 hb1
  go_wp2_with fail
  refine (H2.out).mono ?_
  rintro e w2 ⟨b, g, f, rfl, hd2, hb2⟩
  have hlt := HD1.out.lt
  have hlo := hd2.low
  have hT2 : Two w w2 d a c [] false f b g [] false := ⟨HD1.out.below hb2, hd2.base HT.out HB1.out, by omega⟩
  have HB2 : Hid (Below w.heap.size w w2) := HB1.out.trans (hb2.mono HB1.out.size)
  have HTW := Lib.hid hT2
  have HAL := Lib.hid (alive_c w2 hT2.one.tab)
  clear hd2 hb2 hlt hlo hT2
  go_wp2_with fail
  refine (HAL.out).mono ?_
  rintro e w3 ⟨rfl, hb3⟩
  have HT3 := Lib.hid (HTW.out.below hb3)
  have HB3 : Hid (Below w.heap.size w w3) := HB2.out.trans (hb3.mono HB2.out.size)
  clear hb3
  by_cases hs : l.length ≤ 1500 ∧ zs.length ≤ 60
  · obtain ⟨hl1, hz1⟩ := hs
    have k1 : decide (1500 < (l.length : Int)) = false := by simp; omega
    have k2 : decide (60 < (zs.length : Int)) = false := by simp; omega
    have hf1 := feed_w l A cap w3 HT3.out.one rfl HA.out hcap (by omega)
    have hleft := feed_left l [] false rfl
    have hcount := feed_count l [] false
    obtain ⟨KS, T1, P1, hR⟩ : ∃ KS T1 P1, feed l [] false = (KS, T1, P1) := ⟨_, _, _, rfl⟩
    rw [hR] at hf1 hleft hcount
    simp only at hleft hcount
    have HF1 := Lib.hid hf1
    have HR := Lib.hid hR
    have HLEFT := Lib.hid hleft
    have HCNT := Lib.hid hcount
    have HL1 := Lib.hid hl1
    clear hf1 hR hleft hcount
    go_wp2_with fail
    refine (HF1.out).mono ?_
    rintro e w4 ⟨v4, rfl, ho4, hd4, hb4⟩
    have HT4 := Lib.hid (HT3.out.left hd4 hb4)
    have HB4 : Hid (Below w.heap.size w w4) := HB3.out.trans (hb4.below HB3.out.size (by have := HT3.out.one.low; simp; omega))
    have HO4 := Lib.hid ho4
    have HLT3 := Lib.hid (HT3.out.two.lt)
    clear hd4 hb4 ho4
    go_wp2
    go_loopw [11, 12, 58] (fun s11 s12 s58 wr => RP w w4 d a c f b g zs.length T1 P1 (KS, T1, P1) l.length v4 KS s11 s12 s58 wr) (fun _ _ i _ => zs.length - (RowKit.intOf i).toNat)
    case atStart => exact ⟨0, [], A, l, cap, [], false, rfl, rfl, Nat.zero_le _, hcap, hl1, HA, Lib.hid (OwnK.nil _ _), HT4, by unfold Hid; rfl, by simp, Lib.hid (But.refl _ _), by unfold Hid; rw [HR.out]; rfl⟩
    case round =>
      obtain ⟨i, ks, A5, rest, cap5, u, qs, rfl, rfl, hi, hrc, hr15, HA5, HO5, HT5, HN5, hcn5, HB5, HF5⟩ := hrel
      by_cases hlt : i < zs.length
      · have k0 : (i : Int) < (zs.length : Int) := by omega
        obtain ⟨z, hz⟩ : ∃ z, zs[i]? = some z := ⟨_, List.getElem?_eq_getElem hlt⟩
        obtain ⟨B, off, rfl, hBl, hc⟩ := HQ.out (List.length_pos_iff.1 (by omega : 0 < zs.length))
        have hbw : Below w.heap.size w wr := HB4.out.trans (HB5.out.below HB4.out.size (by have := HT3.out.two.low; simp; omega))
        have q0 : wr.cell? ⟨B, off + i, none⟩ = some (.int .i64 z) := by
          have := hc i z hz 0 _ rfl
          rw [Nat.mul_one, Nat.add_zero] at this
          rw [World.cell?_of_block (w := w) (hbw.block B hBl)]
          exact this
        obtain ⟨x, hx⟩ : ∃ x, IntKind.u64.wrap z = x := ⟨_, rfl⟩
        have hx0 : 0 ≤ x := by rw [← hx]; rw [IntKind.wrap_u64]; omega
        obtain ⟨n, hn⟩ : ∃ n, rest.length = n := ⟨_, rfl⟩
        obtain ⟨k, hk⟩ : ∃ k : Nat, x.tmod ((n : Int) + 1) = (k : Int) := ⟨(x.tmod ((n : Int) + 1)).toNat, by
          rw [Int.tmod_eq_emod_of_nonneg hx0]
          have := Int.emod_nonneg x (show (n : Int) + 1 ≠ 0 by omega)
          omega⟩
        have hkn : k ≤ n := by
          rw [Int.tmod_eq_emod_of_nonneg hx0] at hk
          have := Int.emod_lt_of_pos x (show 0 < (n : Int) + 1 by omega)
          omega
        rw [hn] at hr15 hrc
        have e1 : IntKind.u64.wrap ((n : Int) + 1) = (n : Int) + 1 := by rw [IntKind.wrap_u64]; omega
        have e2 : IntKind.i64.wrap (k : Int) = (k : Int) := by rw [IntKind.wrap_i64]; omega
        have e3 : ((n : Int) + 1 == 0) = false := by simp; omega
        have hw64 : wrap64 ((IntKind.u64.wrap z).tmod ((rest.length : Int) + 1)) = (k : Int) := by
          rw [hx, hn, hk]; unfold wrap64; omega
        have HN := Lib.hid hn
        have hkl : (rest.take k).length = k := by rw [List.length_take]; omega
        have hfd := feed_w (rest.take k) A5 cap5 wr HT5.out.two HN5.out (BytesAt.take HA5.out k) (by rw [hkl]; omega) (by rw [hkl]; omega)
        rw [hkl] at hfd
        have hleft := feed_left (rest.take k) u qs HN5.out
        have hcount := feed_count (rest.take k) u qs
        have hsplit := feed_append (rest.drop k) (rest.take k) u qs
        rw [List.take_append_drop] at hsplit
        rw [hkl] at hcount
        obtain ⟨K6, u6, q6, hR6⟩ : ∃ K6 u6 q6, feed (rest.take k) u qs = (K6, u6, q6) := ⟨_, _, _, rfl⟩
        rw [hR6] at hfd hleft hcount hsplit
        simp only at hleft hcount hsplit
        have hF6 : ((ks ++ K6) ++ (feed (rest.drop k) u6 q6).1, (feed (rest.drop k) u6 q6).2) = (KS, T1, P1) := by
          have := HF5.out
          rw [hsplit] at this
          rw [← this]
          simp
        have HF6 := Lib.hid hF6
        have HFD := Lib.hid hfd
        have HLEFT6 := Lib.hid hleft
        have hk1 : (k : Int) ≤ (cap5 : Int) := by omega
        have hk2 : (k : Int) ≤ (n : Int) := by omega
        have hk3 : (k : Int) ≤ (rest.length : Int) := by omega
        have hk4 : k ≤ rest.length := by omega
        have HC6 := Lib.hid hcount
        have HZ := Lib.hid hz
        clear hz hc hBl hbw hx hx0 hn hk e1 e2 e3 hkl hfd hleft hcount hsplit hR6 hF6 HF5
        go_wp2_with fail
        refine (HFD.out).mono ?_
        rintro e w6 ⟨v6, rfl, ho6, hd6, hb6⟩
        have hlt4 := HT4.out.two.lt
        have hlt41 := HT4.out.one.lt
        have HT6 := Lib.hid (HT5.out.right hd6 hb6)
        have HO6 := Lib.hid (HO5.out.but hb6 (by simp; omega))
        have HB6 : Hid (But [f, b, g] w4 w6) := HB5.out.trans hb6
        obtain ⟨A6, c6, rfl, _, hk6, _, _⟩ := ho6.form
        have HK6 := Lib.hid hk6
        have hbase := HB6.out.size
        have HBASE := Lib.hid hbase
        have hbd : ks.length + K6.length ≤ 1099511627776 := by have := HC6.out; have := HN.out; have := HL1.out; omega
        have HBD := Lib.hid hbd
        clear hd6 hb6 ho6 hk6 hlt4 hlt41 hbase hbd
        go_wp2_with (at_builtin; (refine wpList_append_keys (B := w4.heap.size) (l := ks) (src := K6) rfl _ _ rfl rfl HO6.out rfl rfl HK6.out HBD.out HBASE.out ?_))
        intro v7 w7 hown7 hg7
        have hlt4 := HT4.out.two.lt
        have hlt41 := HT4.out.one.lt
        have HT7 := Lib.hid (HT6.out.grown hg7 (B := w4.heap.size) (fun k hk => (HO6.out.lt hk).1) (by omega) (by omega) HB4.out.size)
        have HB7 : Hid (But [f, b, g] w4 w7) := But.of_grown HB6.out hg7 (fun k hk => Or.inr (HO6.out.lt hk).1)
        have HO7 := Lib.hid hown7
        clear hown7 hg7 hlt4 hlt41
        go_wp2
        go_roundw
        case rel =>
          refine ⟨i + 1, ks ++ K6, _, rest.drop k, cap5 - k, u6, q6, ?_, by go_num, by omega, ?_, ?_, BytesAt.cut HA5.out (k := k) (by rw [HN.out]; exact hrc), HO7, HT7, HLEFT6, ?_, HB7, HF6⟩
          · rw [List.length_drop]
          · rw [List.length_drop]; have := HN.out; omega
          · rw [List.length_drop]; have := HN.out; omega
          · rw [List.length_append, List.length_drop]; have := HC6.out; have := HN.out; omega
        case measure => simp [RowKit.intOf]; omega
      · have hil : i = zs.length := by omega
        have kk : decide ((i : Int) < (zs.length : Int)) = false := by simp; omega
        have kk' : decide (i < zs.length) = false := by simp; omega
        have hfd := feed_w rest A5 cap5 wr HT5.out.two HN5.out HA5.out hrc (by omega)
        obtain ⟨K6, u6, q6, hR6⟩ : ∃ K6 u6 q6, feed rest u qs = (K6, u6, q6) := ⟨_, _, _, rfl⟩
        have hcount := feed_count rest u qs
        have hF := HF5.out
        rw [hR6] at hfd hcount hF
        simp only [Prod.mk.injEq] at hF hcount
        obtain ⟨hF1, hF2, hF3⟩ := hF
        obtain rfl := hF2.symm
        obtain rfl := hF3.symm
        have HFD := Lib.hid hfd
        have HKK := Lib.hid hF1
        have HC6 := Lib.hid hcount
        clear hfd hF1 hcount hR6 HF5 hlt hil
        go_wp2_with fail
        refine (HFD.out).mono ?_
        rintro e w6 ⟨v6, rfl, ho6, hd6, hb6⟩
        have hlt4 := HT4.out.two.lt
        have hlt41 := HT4.out.one.lt
        have HT6 := Lib.hid (HT5.out.right hd6 hb6)
        have HO6 := Lib.hid (HO5.out.but hb6 (by simp; omega))
        have HB6 : Hid (But [f, b, g] w4 w6) := HB5.out.trans hb6
        obtain ⟨A6, c6, rfl, _, hk6, _, _⟩ := ho6.form
        have HK6 := Lib.hid hk6
        have hbase := HB6.out.size
        have HBASE := Lib.hid hbase
        have hbd : ks.length + K6.length ≤ 1099511627776 := by have := HC6.out; have := HL1.out; omega
        have HBD := Lib.hid hbd
        clear hd6 hb6 ho6 hk6 hlt4 hlt41 hbase hbd
        go_wp2_with (at_builtin; (refine wpList_append_keys (B := w4.heap.size) (l := ks) (src := K6) rfl _ _ rfl rfl HO6.out rfl rfl HK6.out HBD.out HBASE.out ?_))
        intro v7 w7 hown7 hg7
        have hlt4 := HT4.out.two.lt
        have hlt41 := HT4.out.one.lt
        have HT7 := Lib.hid (HT6.out.grown hg7 (B := w4.heap.size) (fun k hk => (HO6.out.lt hk).1) (by omega) (by omega) HB4.out.size)
        have hb7 : But [f, b, g] w4 w7 := But.of_grown HB6.out hg7 (fun k hk => Or.inr (HO6.out.lt hk).1)
        have HB7 : Hid (Below w.heap.size w w7) := HB4.out.trans (hb7.below HB4.out.size (by have := HT3.out.two.low; simp; omega))
        have hlt3 := HLT3.out
        obtain ⟨A4, c4, rfl, _, hk4, _, _⟩ := (HO4.out.but hb7 (by simp; omega)).form
        obtain ⟨A7, c7, rfl, _, hk7, _, _⟩ := hown7.form
        rw [HKK.out] at hk7 ⊢
        have HSM := Lib.hid ((same_c KS KS A7 A4 c7 c4 w7 hk7 hk4 (by have h1 := HCNT.out; have h2 := HL1.out; simp at h1; omega)).mono (R' := fun e w' => e = .returned (.bool true) ∧ Below w7.heap.size w7 w') (fun e w' ⟨he, hb⟩ => ⟨by rw [he]; simp, hb⟩))
        clear hown7 hg7 hlt4 hlt41 hb7 hlt3 hk4 hk7
        go_wp2_with fail
        refine (HSM.out).mono ?_
        rintro e w8 ⟨rfl, hb8⟩
        have HT8 := Lib.hid (HT7.out.below hb8)
        have HB8 : Hid (Below w.heap.size w w8) := HB7.out.trans (hb8.mono HB7.out.size)
        have h34 := nxE_none HLEFT.out
        have H34 := Lib.hid h34
        have HX1 := Lib.hid (text_k w8 HT8.out.one.dc.ar (by omega))
        clear hb8 h34
        go_wp2_with fail
        refine (HX1.out).mono ?_
        rintro e w9 ⟨rfl, hb9⟩
        have HT9 := Lib.hid (HT8.out.below hb9)
        have HB9 : Hid (Below w.heap.size w w9) := HB8.out.trans (hb9.mono HB8.out.size)
        have HX2 := Lib.hid (text_k w9 HT9.out.two.dc.ar (by have := H34.out; omega))
        clear hb9
        go_wp2_with fail
        refine (HX2.out).mono ?_
        rintro e w10 ⟨rfl, hb10⟩
        have HT10 := Lib.hid (HT9.out.below hb10)
        have HB10 : Hid (Below w.heap.size w w10) := HB9.out.trans (hb10.mono HB9.out.size)
        have G1 := Lib.hid (held_w w10 HT10.out.one)
        have G3 := Lib.hid (pastes_w w10 HT10.out.one)
        have G4 := Lib.hid (pastes_w w10 HT10.out.two)
        have k34 : decide ((T1.length : Int) ≤ 34) = true := by have := H34.out; simp; omega
        clear hb10
        go_wp2_with (first
          | (go_at_call 25; (with_reducible refine (G1.out).mono ?_); rintro e w9 ⟨rfl, hq⟩; obtain rfl := hq.symm)
          | (go_at_call 24; (with_reducible refine (G3.out).mono ?_); rintro e w9 ⟨rfl, hq⟩; obtain rfl := hq.symm)
          | (go_at_call 24; (with_reducible refine (G4.out).mono ?_); rintro e w9 ⟨rfl, hq⟩; obtain rfl := hq.symm))
        go_ret
        exact ⟨by simp; try omega, HB10.out⟩
  · have HA2 := Lib.hid (alive_c w3 HT3.out.one.tab)
    have hbig : Hid (∀ (K : Prop), (∀ (k1 : decide (1500 < (l.length : Int)) = true), K) → (∀ (k1 : decide (1500 < (l.length : Int)) = false) (k2 : decide (60 < (zs.length : Int)) = true), K) → K) := by
      intro K h1 h2
      by_cases hl : 1500 < l.length
      · exact h1 (by simp; omega)
      · exact h2 (by simp; omega) (by simp; omega)
    refine hbig.out _ (fun k1 => ?_) (fun k1 k2 => ?_)
    all_goals
      clear hs hbig
      go_wp2_with fail
      refine (HA2.out).mono ?_
      rintro e w4 ⟨rfl, hb4⟩
      have HB4 : Hid (Below w.heap.size w w4) := HB3.out.trans (hb4.mono HB3.out.size)
      clear hb4
      go_wp2
      go_ret
      exact ⟨rfl, HB4.out⟩

end Go.Proofs.YtcakeolnokninaaDoor.KeydecPieces

/- The stable sort's merges, walked. -/
import Derived.Test.YtbflcikfaoojmaaDoorGS2
set_option linter.unusedVariables false
set_option linter.unusedSimpArgs false
namespace Go.Proofs.YtbflcikfaoojmaaDoor.Edit
open Go.RowKit Go.Lib ChangeShapes Mem

set_option maxRecDepth 200000 in
set_option maxHeartbeats 20000000 in
theorem sym_gen1 (key : Int → Int) (D : Int → Prop) (g nn cap : Nat) (F : Nat → Int) (a m b bx : Nat) (w : World) (h : IR w g nn F) (hD : ∀ t, t < nn → D (F t)) (ham : a + 1 < m) (hmb : m + 1 < b) (hb : b ≤ nn) (hnn : nn ≤ 100000) (hl : Srt key (sg F a m)) (hr : Srt key (sg F m b)) (hC : CmpOk key D g bx w)
    (hx0 : (a + b) / 2 < m)
    (IH : ∀ (F' : Nat → Int) (a' m' b' : Nat) (w' : World), b' - a' < b - a → IR w' g nn F' → (∀ t, t < nn → D (F' t)) → a' < m' → m' < b' → b' ≤ nn → Srt key (sg F' a' m') → Srt key (sg F' m' b') → CmpOk key D g bx w' → Calls Tryd.prog 68 #[.slice (some ⟨g, 0, none⟩) nn cap, .int .i64 (a' : Int), .int .i64 (m' : Int), .int .i64 (b' : Int), cmpV bx] w' (SymPost key D g nn F' a' m' b' w')) :
    Calls Tryd.prog 68 #[.slice (some ⟨g, 0, none⟩) nn cap, .int .i64 (a : Int), .int .i64 (m : Int), .int .i64 (b : Int), cmpV bx] w (SymPost key D g nn F a m b w) := by
  have H := Lib.hid h
  have HD := Lib.hid hD
  have HC := Lib.hid hC
  have hl0 := Lib.hid hl
  have hr0 := Lib.hid hr
  have s1 : IntKind.i64.wrap ((m : Int) - (a : Int)) = ((m - a : Nat) : Int) := by rw [IntWalk.i64_in _ (by omega)]; omega
  have s1' : (((m - a : Nat) : Int) == 1) = false := by simp; omega
  have s2 : IntKind.i64.wrap ((b : Int) - (m : Int)) = ((b - m : Nat) : Int) := by rw [IntWalk.i64_in _ (by omega)]; omega
  have s2' : (((b - m : Nat) : Int) == 1) = false := by simp; omega
  obtain ⟨d, hd⟩ : ∃ d, m - a = d := ⟨_, rfl⟩
  obtain ⟨d2, hd2⟩ : ∃ d2, b - m = d2 := ⟨_, rfl⟩
  rw [hd] at s1 s1'
  rw [hd2] at s2 s2'
  obtain ⟨mid, hmd⟩ : ∃ mid, (a + b) / 2 = mid := ⟨_, rfl⟩
  have e0 : ((a : Int) + (b : Int)) / 2 = (mid : Int) := by omega
  have s3 : IntKind.i64.wrap ((a : Int) + (b : Int)) = (a : Int) + (b : Int) := IntWalk.i64_in _ (by omega)
  obtain ⟨n, hn⟩ : ∃ n, mid + m = n := ⟨_, rfl⟩
  have s4 : IntKind.i64.wrap ((mid : Int) + (m : Int)) = (n : Int) := by rw [IntWalk.i64_in _ (by omega)]; omega
  obtain ⟨p, hp⟩ : ∃ p, n - 1 = p := ⟨_, rfl⟩
  have s5 : IntKind.i64.wrap ((n : Int) - 1) = (p : Int) := by rw [IntWalk.i64_in _ (by omega)]; omega
  have hx : mid < m := by omega
  obtain ⟨st0, hst⟩ : ∃ st0, st0 = n - b := ⟨_, rfl⟩
  obtain ⟨r0, hr0'⟩ : ∃ r0, r0 = mid := ⟨_, rfl⟩
  have b1 : a ≤ st0 := by omega
  have b2 : st0 ≤ r0 := by omega
  have b3 : r0 ≤ m := by omega
  have b4 : r0 ≤ mid := by omega
  have b5 : n - st0 ≤ b := by omega
  have b6 : st0 = a ∨ n - st0 = b := by omega
  have b7 : r0 = m ∨ n - r0 = m := by omega
  clear h hD hC hl hr hd hd2 
  unfold SymPost
  unfold cmpV
  have hlow : a + 2 ≤ m := ham
  have hmb2 : m + 2 ≤ b := hmb
  have HST := Lib.hid hst
  have HRR := Lib.hid hr0'
  have tx : decide ((mid : Int) < (m : Int)) = true := by simp; omega
  have s6 : IntKind.i64.wrap ((n : Int) - (b : Int)) = ((n - b : Nat) : Int) := by rw [IntWalk.i64_in _ (by omega)]; omega
  clear hst hr0'
  go_enter Tryd.func68, Tryd.ntmps68
  go_wp2
  go_loopw [20, 21] (fun s t wr => RB key w g nn F st0 r0 (ULo key F st0 p) (UHi key F r0 p) s t wr) (fun s t _ => (RowKit.intOf t).toNat - (RowKit.intOf s).toNat)
  case atStart => exact ⟨st0, r0, by rw [HST.out], by rw [HRR.out], Nat.le_refl _, b2, Nat.le_refl _, fun h => absurd h (Nat.lt_irrefl _), fun h => absurd h (Nat.lt_irrefl _), H.out, But.refl _ _⟩
  case round =>
    obtain ⟨i, j, rfl, rfl, hi, hij, hj, HP, HQ, HI, HB⟩ := hrel
    by_cases hlt : i < j
    ·
      have HLT := Lib.hid hlt
      have r1 : IntKind.i64.wrap ((i : Int) + (j : Int)) = ((i + j : Nat) : Int) := by rw [IntWalk.i64_in _ (by omega)]; omega
      obtain ⟨h, hh⟩ : ∃ h, (i + j) / 2 = h := ⟨_, rfl⟩
      have e1 : ((i : Int) + (j : Int)) / 2 = (h : Int) := by omega
      have hih : i ≤ h := by omega
      have hhj : h < j := by omega
      obtain ⟨ph, hph⟩ : ∃ ph, p - h = ph := ⟨_, rfl⟩
      have s7 : IntKind.i64.wrap ((p : Int) - (h : Int)) = (ph : Int) := by rw [IntWalk.i64_in _ (by omega)]; omega
      have x0 := HI.out.cell (t := ph) (by omega)
      have x1 := HI.out.cell (t := h) (by omega)
      have hdx := HD.out ph (by omega)
      have hdy := HD.out h (by omega)
      obtain ⟨gx, hgx⟩ : ∃ gx, F ph = gx := ⟨_, rfl⟩
      obtain ⟨gy, hgy⟩ : ∃ gy, F h = gy := ⟨_, rfl⟩
      rw [hgx] at x0 hdx
      rw [hgy] at x1 hdy
      have HCC : Hid (∀ V, Hid (But [g] w V) → Calls Tryd.prog 52 #[.int .i64 gx, .int .i64 gy, .pointer (some ⟨bx, 0, none⟩)] V fun e w' => ∃ c : Int, e = .returned (.int .i64 c) ∧ (c < 0 ↔ key gx < key gy) ∧ Hid (But [g] w w') ∧ Hid (Below V.heap.size V w')) := fun V hV => (HC.out V gx gy hV.out hdx hdy).mono fun e w' ⟨c, h1, h2, h3⟩ => ⟨c, h1, h2, hV.out.trans (But.of_below h3), h3⟩
      have HX : Hid (∀ V, Hid (Below wr.heap.size wr V) → V.cell? ⟨g, ph, none⟩ = some (.int .i64 gx) ∧ V.cell? ⟨g, h, none⟩ = some (.int .i64 gy)) := fun V hV => ⟨(hV.out.cell (p := ⟨g, ph, none⟩) HI.out.lt).trans x0, (hV.out.cell (p := ⟨g, h, none⟩) HI.out.lt).trans x1⟩
      have HGX := Lib.hid hgx
      have HGY := Lib.hid hgy
      clear hgx hgy
      have hpn : ph < nn := by omega
      have hqn : h < nn := by omega
      have m1 : (ph : Int) < (nn : Int) := by omega
      have m2 : (h : Int) < (nn : Int) := by omega
      go_upto_region 35 with fail
      go_region_held3 (fun V => V.cell? ⟨g, ph, none⟩ = some (.int .i64 gx) ∧ V.cell? ⟨g, h, none⟩ = some (.int .i64 gy))
        (first | (with_reducible assumption) | go_keep)
        (first
        | (go_at_call 52; (with_reducible refine (HCC.out _ ?_).mono ?_); (with_reducible exact st_drew HB); rintro e v1 ⟨c, rfl, hc, hbv, hbw⟩; have hbr : Hid (Below wr.heap.size wr v1) := Below.trans (Below.drew (Below.refl _ _)) hbw.out; obtain ⟨t0, t1⟩ := HX.out _ hbr))
      have HI1 := Lib.hid (HI.out.but (But.of_below (S := []) hbr.out) List.not_mem_nil)
      have HCI := Lib.hid hc
      clear hc t0 t1 x0 x1 HX HCC
      go_wp2_with fail
      ·
        have hl0 : (!decide (key gx < key gy)) = true := by assumption
        have hlk : ¬ key gx < key gy := by simpa using hl0
        go_roundw
        case rel =>
          refine ⟨h + 1, j, by go_num, rfl, by omega, by omega, hj, fun _ => ?_, HQ.out, HI1.out, hbv.out⟩
          rw [show h + 1 - 1 = h by omega, hph, HGX.out, HGY.out]
          omega
        case measure => simp [RowKit.intOf]; omega
      ·
        have hl0 : (!decide (key gx < key gy)) = false := by assumption
        have hlk : key gx < key gy := by simpa using hl0
        go_roundw
        case rel =>
          refine ⟨i, h, rfl, rfl, hi, hih, by omega, HP.out, fun _ => ?_, HI1.out, hbv.out⟩
          rw [hph, HGX.out, HGY.out]
          exact hlk
        case measure => simp [RowKit.intOf]; omega
    ·
      have hije : j = i := by omega
      subst hije
      have HP0 := HP.out
      have HQ0 := HQ.out
      obtain ⟨e, he⟩ : ∃ e, n - j = e := ⟨_, rfl⟩
      obtain ⟨s, hs⟩ : ∃ s, j = s := ⟨_, rfl⟩
      subst hs
      have s8 : IntKind.i64.wrap ((n : Int) - (j : Int)) = (e : Int) := by rw [IntWalk.i64_in _ (by omega)]; omega
      have h1 : a ≤ j := by omega
      have h2 : j ≤ m := by omega
      have h3 : m ≤ e := by omega
      have h4 : e ≤ b := by omega
      have hmid : mid = j + (e - m) := by omega
      have HMID := Lib.hid hmid
      have hjm : j ≤ mid := by omega
      have hme : mid ≤ e := by omega
      have hmb3 : mid < b := by omega
      have hma3 : a < mid := by omega
      have hpart : Prt key F a j m e b := part_ok key hl0.out hr0.out h1 h2 h3 h4 (fun x1 x2 => by
        have := HP0 (by omega)
        rw [show p - (j - 1) = e by omega] at this
        exact this) (fun x1 x2 => by
        have := HQ0 (by omega)
        rw [show p - j = e - 1 by omega] at this
        exact this)
      have HPT := Lib.hid hpart
      clear hlt HP HQ HP0 HQ0 hpart hmid
      rcases sc1 h1 h2 h3 h4 HMID.out hx hma3 hmb3 (by omega) (by omega) with ⟨⟨hg5, hg6⟩, hbb, hg1, hcc⟩ | ⟨hg5, hg6, hg3, hg4, hg1, hg2⟩
      ·
        have HBB := Lib.hid hbb
        have HCC2 := Lib.hid hcc
        clear hbb hcc
        have H72 := Lib.hid (rotate_c g nn cap F j m e (cmpV bx) wr HI.out hg5 hg6 (by omega) hnn)
        have t5 : decide ((j : Int) < (m : Int)) = true := by (try have q1 := HG1.out); (try have q2 := HG2.out); (try have q3 := HG3.out); (try have q4 := HG4.out); (try have q6 := HG6.out); simp; omega
        have t5n : j < m := by (try have q1 := HG1.out); (try have q2 := HG2.out); (try have q3 := HG3.out); (try have q4 := HG4.out); (try have q6 := HG6.out); omega
        have t6 : decide ((m : Int) < (e : Int)) = true := by (try have q1 := HG1.out); (try have q2 := HG2.out); (try have q3 := HG3.out); (try have q4 := HG4.out); (try have q6 := HG6.out); simp; omega
        have t6n : m < e := by (try have q1 := HG1.out); (try have q2 := HG2.out); (try have q3 := HG3.out); (try have q4 := HG4.out); (try have q6 := HG6.out); omega
        unfold cmpV at H72
        go_upto_region 41 with (go_at_call 72; (with_reducible refine (H72.out).mono ?_); rintro ee w1 ⟨⟨u, rfl⟩, hi1, hb1⟩)
        obtain ⟨F1, hF1⟩ : ∃ F1, rotR F j m e = F1 := ⟨_, rfl⟩
        have HF1 : Hid (∀ t, F1 t = rotR F j m e t) := fun t => by rw [← hF1]
        have HD1 : Hid (∀ t, t < nn → D (F1 t)) := by rw [← hF1]; exact rot_dom HD.out h2 h3 (by omega)
        rw [hF1] at hi1
        have HI1 := Lib.hid hi1
        have HB1 := Lib.hid (HB.out.trans hb1)
        clear hi1 hb1 H72 hF1
        have hS1 := srt_first key h1 h2 h3 h4 HMID.out hl0.out hr0.out HF1.out
        rcases HBB.out with ⟨hg3, hg4⟩ | hg3
        ·
          have HR2 := Lib.hid (IH _ a j mid _ (by omega) HI1.out HD1.out hg3 hg4 (by omega) hS1.1 hS1.2 (HC.out.but HB1.out))
          have t3 : decide ((a : Int) < (j : Int)) = true := by (try have q1 := HG1.out); (try have q2 := HG2.out); (try have q3 := HG3.out); (try have q4 := HG4.out); (try have q6 := HG6.out); simp; omega
          have t3n : a < j := by (try have q1 := HG1.out); (try have q2 := HG2.out); (try have q3 := HG3.out); (try have q4 := HG4.out); (try have q6 := HG6.out); omega
          have t4 : decide ((j : Int) < (mid : Int)) = true := by (try have q1 := HG1.out); (try have q2 := HG2.out); (try have q3 := HG3.out); (try have q4 := HG4.out); (try have q6 := HG6.out); simp; omega
          have t4n : j < mid := by (try have q1 := HG1.out); (try have q2 := HG2.out); (try have q3 := HG3.out); (try have q4 := HG4.out); (try have q6 := HG6.out); omega
          unfold cmpV at HR2
          go_upto_region 43 with (go_at_call 68; (with_reducible refine (HR2.out).mono ?_); rintro ee w2 ⟨⟨u, rfl⟩, G1, hi2, hd2, hm2, hb2⟩)
          have HI2 := Lib.hid hi2
          have HD2 := Lib.hid hd2
          have HM1 := Lib.hid hm2
          have HB2 := Lib.hid (HB1.out.trans hb2)
          clear hi2 hd2 hm2 hb2 HR2
          have hS2 := srt_next key h1 h2 h3 h4 HMID.out hl0.out hr0.out HF1.out HM1.out
          rcases HCC2.out with hg2 | hg2
          ·
            have HR3 := Lib.hid (IH _ mid e b _ (by omega) HI2.out HD2.out hg1 hg2 hb hS2.1 hS2.2 (HC.out.but HB2.out))
            have t1 : decide ((mid : Int) < (e : Int)) = true := by (try have q1 := HG1.out); (try have q2 := HG2.out); (try have q3 := HG3.out); (try have q4 := HG4.out); (try have q6 := HG6.out); simp; omega
            have t1n : mid < e := by (try have q1 := HG1.out); (try have q2 := HG2.out); (try have q3 := HG3.out); (try have q4 := HG4.out); (try have q6 := HG6.out); omega
            have t2 : decide ((e : Int) < (b : Int)) = true := by (try have q1 := HG1.out); (try have q2 := HG2.out); (try have q3 := HG3.out); (try have q4 := HG4.out); (try have q6 := HG6.out); simp; omega
            have t2n : e < b := by (try have q1 := HG1.out); (try have q2 := HG2.out); (try have q3 := HG3.out); (try have q4 := HG4.out); (try have q6 := HG6.out); omega
            unfold cmpV at HR3
            go_wp2_with fail
            refine (HR3.out).mono ?_
            rintro ee w3 ⟨⟨u, rfl⟩, G, hi3, hd3, hm3, hb3⟩
            have HI3 := Lib.hid hi3
            have HD3 := Lib.hid hd3
            have HM2 := Lib.hid hm3
            have HB3 := Lib.hid (HB2.out.trans hb3)
            clear hi3 hd3 hm3 hb3 HR3
            go_wp2_with fail
            go_end0
            exact ⟨⟨_, rfl⟩, _, HI3.out, HD3.out, mrgd_two key HMID.out h1 h2 h3 h4 HF1.out HPT.out HM1.out HM2.out, HB3.out⟩
          ·
            have HG2 := Lib.hid hg2
            clear hg2
            have HI3 := HI2
            have HD3 := HD2
            have HM2 := Lib.hid (mrgd_none key (F := G1) (a := mid) (s := e) (b := b) (.inr HG2.out) (by have q := HG2.out; omega) (by have q := HG2.out; omega))
            have HB3 := HB2
            have t1 : decide ((mid : Int) < (e : Int)) = true := by (try have q1 := HG1.out); (try have q2 := HG2.out); (try have q3 := HG3.out); (try have q4 := HG4.out); (try have q6 := HG6.out); simp; omega
            have t1n : mid < e := by (try have q1 := HG1.out); (try have q2 := HG2.out); (try have q3 := HG3.out); (try have q4 := HG4.out); (try have q6 := HG6.out); omega
            have t2 : decide ((e : Int) < (b : Int)) = false := by (try have q1 := HG1.out); (try have q2 := HG2.out); (try have q3 := HG3.out); (try have q4 := HG4.out); (try have q6 := HG6.out); simp; omega
            have t2n : ¬ e < b := by (try have q1 := HG1.out); (try have q2 := HG2.out); (try have q3 := HG3.out); (try have q4 := HG4.out); (try have q6 := HG6.out); omega
            go_wp2_with fail
            go_end0
            exact ⟨⟨_, rfl⟩, _, HI3.out, HD3.out, mrgd_two key HMID.out h1 h2 h3 h4 HF1.out HPT.out HM1.out HM2.out, HB3.out⟩
        ·
          have HG3 := Lib.hid hg3
          clear hg3
          have HI2 := HI1
          have HD2 := HD1
          have HM1 := Lib.hid (mrgd_none key (F := F1) (a := a) (s := j) (b := mid) (.inl HG3.out) (by have q := HG3.out; omega) (by have q := HG3.out; omega))
          have HB2 := HB1
          obtain ⟨G1, hG1⟩ : ∃ G1, F1 = G1 := ⟨_, rfl⟩
          rw [hG1] at HI2 HD2
          have HM1' : Hid (Mrgd key F1 G1 a j mid) := by rw [← hG1]; exact HM1.out
          clear HM1 hG1
          have HM1 := HM1'
          have t3 : decide ((a : Int) < (j : Int)) = false := by (try have q1 := HG1.out); (try have q2 := HG2.out); (try have q3 := HG3.out); (try have q4 := HG4.out); (try have q6 := HG6.out); simp; omega
          have t3n : ¬ a < j := by (try have q1 := HG1.out); (try have q2 := HG2.out); (try have q3 := HG3.out); (try have q4 := HG4.out); (try have q6 := HG6.out); omega
          have hS2 := srt_next key h1 h2 h3 h4 HMID.out hl0.out hr0.out HF1.out HM1.out
          rcases HCC2.out with hg2 | hg2
          ·
            have HR3 := Lib.hid (IH _ mid e b _ (by omega) HI2.out HD2.out hg1 hg2 hb hS2.1 hS2.2 (HC.out.but HB2.out))
            have t1 : decide ((mid : Int) < (e : Int)) = true := by (try have q1 := HG1.out); (try have q2 := HG2.out); (try have q3 := HG3.out); (try have q4 := HG4.out); (try have q6 := HG6.out); simp; omega
            have t1n : mid < e := by (try have q1 := HG1.out); (try have q2 := HG2.out); (try have q3 := HG3.out); (try have q4 := HG4.out); (try have q6 := HG6.out); omega
            have t2 : decide ((e : Int) < (b : Int)) = true := by (try have q1 := HG1.out); (try have q2 := HG2.out); (try have q3 := HG3.out); (try have q4 := HG4.out); (try have q6 := HG6.out); simp; omega
            have t2n : e < b := by (try have q1 := HG1.out); (try have q2 := HG2.out); (try have q3 := HG3.out); (try have q4 := HG4.out); (try have q6 := HG6.out); omega
            unfold cmpV at HR3
            go_wp2_with fail
            refine (HR3.out).mono ?_
            rintro ee w3 ⟨⟨u, rfl⟩, G, hi3, hd3, hm3, hb3⟩
            have HI3 := Lib.hid hi3
            have HD3 := Lib.hid hd3
            have HM2 := Lib.hid hm3
            have HB3 := Lib.hid (HB2.out.trans hb3)
            clear hi3 hd3 hm3 hb3 HR3
            go_wp2_with fail
            go_end0
            exact ⟨⟨_, rfl⟩, _, HI3.out, HD3.out, mrgd_two key HMID.out h1 h2 h3 h4 HF1.out HPT.out HM1.out HM2.out, HB3.out⟩
          ·
            have HG2 := Lib.hid hg2
            clear hg2
            have HI3 := HI2
            have HD3 := HD2
            have HM2 := Lib.hid (mrgd_none key (F := G1) (a := mid) (s := e) (b := b) (.inr HG2.out) (by have q := HG2.out; omega) (by have q := HG2.out; omega))
            have HB3 := HB2
            have t1 : decide ((mid : Int) < (e : Int)) = true := by (try have q1 := HG1.out); (try have q2 := HG2.out); (try have q3 := HG3.out); (try have q4 := HG4.out); (try have q6 := HG6.out); simp; omega
            have t1n : mid < e := by (try have q1 := HG1.out); (try have q2 := HG2.out); (try have q3 := HG3.out); (try have q4 := HG4.out); (try have q6 := HG6.out); omega
            have t2 : decide ((e : Int) < (b : Int)) = false := by (try have q1 := HG1.out); (try have q2 := HG2.out); (try have q3 := HG3.out); (try have q4 := HG4.out); (try have q6 := HG6.out); simp; omega
            have t2n : ¬ e < b := by (try have q1 := HG1.out); (try have q2 := HG2.out); (try have q3 := HG3.out); (try have q4 := HG4.out); (try have q6 := HG6.out); omega
            go_wp2_with fail
            go_end0
            exact ⟨⟨_, rfl⟩, _, HI3.out, HD3.out, mrgd_two key HMID.out h1 h2 h3 h4 HF1.out HPT.out HM1.out HM2.out, HB3.out⟩
      ·
        obtain ⟨F1, hF1⟩ : ∃ F1, F = F1 := ⟨_, rfl⟩
        have HF1 : Hid (∀ t, F1 t = rotR F j m e t) := fun t => by rw [← hF1]; exact (rot_triv F j m e (.inr hg6) h2 h3 t).symm
        have HI1 : Hid (IR wr g nn F1) := by rw [← hF1]; exact HI.out
        have HD1 : Hid (∀ t, t < nn → D (F1 t)) := by rw [← hF1]; exact HD.out
        have HB1 := HB
        clear hF1
        have HG6 := Lib.hid hg6
        clear hg6
        have t5 : decide ((j : Int) < (m : Int)) = true := by (try have q1 := HG1.out); (try have q2 := HG2.out); (try have q3 := HG3.out); (try have q4 := HG4.out); (try have q6 := HG6.out); simp; omega
        have t5n : j < m := by (try have q1 := HG1.out); (try have q2 := HG2.out); (try have q3 := HG3.out); (try have q4 := HG4.out); (try have q6 := HG6.out); omega
        have t6 : decide ((m : Int) < (e : Int)) = false := by (try have q1 := HG1.out); (try have q2 := HG2.out); (try have q3 := HG3.out); (try have q4 := HG4.out); (try have q6 := HG6.out); simp; omega
        have t6n : ¬ m < e := by (try have q1 := HG1.out); (try have q2 := HG2.out); (try have q3 := HG3.out); (try have q4 := HG4.out); (try have q6 := HG6.out); omega
        have hS1 := srt_first key h1 h2 h3 h4 HMID.out hl0.out hr0.out HF1.out
        have HG4 := Lib.hid hg4
        clear hg4
        have HI2 := HI1
        have HD2 := HD1
        have HM1 := Lib.hid (mrgd_none key (F := F1) (a := a) (s := j) (b := mid) (.inr HG4.out) (by have q := HG4.out; omega) (by have q := HG4.out; omega))
        have HB2 := HB1
        obtain ⟨G1, hG1⟩ : ∃ G1, F1 = G1 := ⟨_, rfl⟩
        rw [hG1] at HI2 HD2
        have HM1' : Hid (Mrgd key F1 G1 a j mid) := by rw [← hG1]; exact HM1.out
        clear HM1 hG1
        have HM1 := HM1'
        have t3 : decide ((a : Int) < (j : Int)) = true := by (try have q1 := HG1.out); (try have q2 := HG2.out); (try have q3 := HG3.out); (try have q4 := HG4.out); (try have q6 := HG6.out); simp; omega
        have t3n : a < j := by (try have q1 := HG1.out); (try have q2 := HG2.out); (try have q3 := HG3.out); (try have q4 := HG4.out); (try have q6 := HG6.out); omega
        have t4 : decide ((j : Int) < (mid : Int)) = false := by (try have q1 := HG1.out); (try have q2 := HG2.out); (try have q3 := HG3.out); (try have q4 := HG4.out); (try have q6 := HG6.out); simp; omega
        have t4n : ¬ j < mid := by (try have q1 := HG1.out); (try have q2 := HG2.out); (try have q3 := HG3.out); (try have q4 := HG4.out); (try have q6 := HG6.out); omega
        have hS2 := srt_next key h1 h2 h3 h4 HMID.out hl0.out hr0.out HF1.out HM1.out
        have HR3 := Lib.hid (IH _ mid e b _ (by omega) HI2.out HD2.out hg1 hg2 hb hS2.1 hS2.2 (HC.out.but HB2.out))
        have t1 : decide ((mid : Int) < (e : Int)) = true := by (try have q1 := HG1.out); (try have q2 := HG2.out); (try have q3 := HG3.out); (try have q4 := HG4.out); (try have q6 := HG6.out); simp; omega
        have t1n : mid < e := by (try have q1 := HG1.out); (try have q2 := HG2.out); (try have q3 := HG3.out); (try have q4 := HG4.out); (try have q6 := HG6.out); omega
        have t2 : decide ((e : Int) < (b : Int)) = true := by (try have q1 := HG1.out); (try have q2 := HG2.out); (try have q3 := HG3.out); (try have q4 := HG4.out); (try have q6 := HG6.out); simp; omega
        have t2n : e < b := by (try have q1 := HG1.out); (try have q2 := HG2.out); (try have q3 := HG3.out); (try have q4 := HG4.out); (try have q6 := HG6.out); omega
        unfold cmpV at HR3
        go_wp2_with fail
        refine (HR3.out).mono ?_
        rintro ee w3 ⟨⟨u, rfl⟩, G, hi3, hd3, hm3, hb3⟩
        have HI3 := Lib.hid hi3
        have HD3 := Lib.hid hd3
        have HM2 := Lib.hid hm3
        have HB3 := Lib.hid (HB2.out.trans hb3)
        clear hi3 hd3 hm3 hb3 HR3
        go_wp2_with fail
        go_end0
        exact ⟨⟨_, rfl⟩, _, HI3.out, HD3.out, mrgd_two key HMID.out h1 h2 h3 h4 HF1.out HPT.out HM1.out HM2.out, HB3.out⟩

end Go.Proofs.YtbflcikfaoojmaaDoor.Edit

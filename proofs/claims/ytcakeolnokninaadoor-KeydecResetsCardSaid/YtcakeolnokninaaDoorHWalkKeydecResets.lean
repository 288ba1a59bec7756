/- KeydecResets, the walk: behind a reset a decoder is as a new one. -/
import Derived.Test.YtcakeolnokninaaDoorGA
import Derived.Test.YtcakeolnokninaaDoorGK3
set_option linter.unusedVariables false
set_option linter.unusedSimpArgs false
namespace Go.Proofs.YtcakeolnokninaaDoor.KeydecResets
open Go.RowKit Go.Lib Go.Shelf ChangeShapes Mem Utf UtfP Edit Law

set_option maxRecDepth 200000 in
set_option maxHeartbeats 2000000 in
theorem walk (l : List UInt8) (A : Option Addr) (cap : Nat) (m : List UInt8) (B : Option Addr) (capm : Nat) (w : World) (hT : Tabs w) (hA : BytesAt w A l) (hcap : l.length ≤ cap) (hm : l.length ≤ 140737488355328) (hB : BytesAt w B m) (hcapm : m.length ≤ capm) (hmm : m.length ≤ 140737488355328) :
    Calls Tryd.prog 6 #[.slice A l.length cap, .slice B m.length capm] w fun e w' => e = .returned (.bool true) ∧ Below w.heap.size w w' := by
  have HA := Lib.hid hA
  have HB := Lib.hid hB
  have HT := Lib.hid hT
  have H1 := Lib.hid (begin_c w hT)
  clear hT hA hB
  go_enter Tryd.func6, Tryd.ntmps6
  go_wp2_with fail
  refine (H1.out).mono ?_
  rintro e w1 ⟨a, c, d, rfl, hd1, hb1⟩
  have HB1 := Lib.hid hb1
  have HD1 := Lib.hid hd1
  have H2 := Lib.hid (begin_c w1 hd1.tab)
  clear hd1 hb1
  go_wp2_with fail
  refine (H2.out).mono ?_
  rintro e w2 ⟨b, g, f, rfl, hd2, hb2⟩
  have hlt := HD1.out.lt
  have hlo := hd2.low
  have hT2 : Two w w2 d a c [] false f b g [] false := ⟨HD1.out.below hb2, hd2.base HT.out HB1.out, by omega⟩
  have HB2 : Hid (Below w.heap.size w w2) := HB1.out.trans (hb2.mono HB1.out.size)
  have HTW := Lib.hid hT2
  have HAL := Lib.hid (alive_c w2 hT2.one.tab)
  clear hd2 hb2 hlt hlo hT2
  go_wp2_with fail
  refine (HAL.out).mono ?_
  rintro e w3 ⟨rfl, hb3⟩
  have HT3 := Lib.hid (HTW.out.below hb3)
  have HB3 : Hid (Below w.heap.size w w3) := HB2.out.trans (hb3.mono HB2.out.size)
  clear hb3
  by_cases hs : l.length ≤ 1000 ∧ m.length ≤ 1000
  · obtain ⟨hl1, hm1⟩ := hs
    have k1 : decide (1000 < (l.length : Int)) = false := by simp; omega
    have k2 : decide (1000 < (m.length : Int)) = false := by simp; omega
    have HF1 := Lib.hid (feed_w l A cap w3 HT3.out.one rfl HA.out hcap (by omega))
    have HM1 := Lib.hid hm1
    obtain ⟨R1, hR1⟩ : ∃ R1, feed l [] false = R1 := ⟨_, rfl⟩
    rw [hR1] at HF1
    clear hR1
    go_wp2_with fail
    refine (HF1.out).mono ?_
    rintro e w4 ⟨v4, rfl, _, hd4, hb4⟩
    have HT4 := Lib.hid (HT3.out.left hd4 hb4)
    have HB4 : Hid (Below w.heap.size w w4) := HB3.out.trans (hb4.below HB3.out.size (by have := HT3.out.one.low; simp; omega))
    have HR := Lib.hid (reset_w w4 HT4.out.one)
    clear hd4 hb4
    go_wp2_with fail
    refine (HR.out).mono ?_
    rintro e w5 ⟨rfl, hd5, hb5⟩
    have HT5 := Lib.hid (HT4.out.left hd5 hb5)
    have HB5 : Hid (Below w.heap.size w w5) := HB4.out.trans (hb5.below HB4.out.size (by have := HT4.out.one.low; simp; omega))
    have hz := zeroA w5 hd5.dc.ar
    rw [show allZ [] = true from by decide] at hz
    have HZ := Lib.hid hz
    have HH := Lib.hid (held_w w5 hd5)
    have HP := Lib.hid (pastes_w w5 hd5)
    have HF6 := Lib.hid (feed_w m B capm w5 HT5.out.one rfl HB.out hcapm (by have := HM1.out; omega))
    obtain ⟨KS, T, P, hR2⟩ : ∃ KS T P, feed m [] false = (KS, T, P) := ⟨_, _, _, rfl⟩
    rw [hR2] at HF6
    have HR2 := Lib.hid hR2
    clear hd5 hb5 hz hR2
    go_wp2_with (first
      | (go_at_call 27; refine (HZ.out).mono ?_; rintro e w7 ⟨rfl, hq⟩; obtain rfl := hq.symm)
      | (go_at_call 25; refine (HH.out).mono ?_; rintro e w7 ⟨rfl, hq⟩; obtain rfl := hq.symm)
      | (go_at_call 24; refine (HP.out).mono ?_; rintro e w7 ⟨rfl, hq⟩; obtain rfl := hq.symm)
      | fail)
    refine (HF6.out).mono ?_
    rintro e w6 ⟨v6, rfl, ho6, hd6, hb6⟩
    have HT6 := Lib.hid (HT5.out.left hd6 hb6)
    have HO6 := Lib.hid ho6
    have HB6 : Hid (Below w.heap.size w w6) := HB5.out.trans (hb6.below HB5.out.size (by have := HT5.out.one.low; simp; omega))
    have hf7 := feed_w m B capm w6 HT6.out.two rfl HB.out hcapm (by have := HM1.out; omega)
    rw [HR2.out] at hf7
    have HF7 := Lib.hid hf7
    have HL5 := Lib.hid (HT5.out.two.lt)
    clear hd6 hb6 ho6 hf7
    go_wp2_with fail
    refine (HF7.out).mono ?_
    rintro e w7 ⟨v7, rfl, ho7, hd7, hb7⟩
    have hl5 := HL5.out
    have HT7 := Lib.hid (HT6.out.right hd7 hb7)
    have HB7 : Hid (Below w.heap.size w w7) := HB6.out.trans (hb7.below HB6.out.size (by have := HT6.out.two.low; simp; omega))
    obtain ⟨A6, c6, rfl, _, hk6, _, _⟩ := (HO6.out.but hb7 (by simp; omega)).form
    obtain ⟨A7, c7, rfl, _, hk7, _, _⟩ := ho7.form
    have hks : KS.length ≤ 1099511627776 := by
      have h1 := feed_count m [] false
      rw [HR2.out] at h1
      have := HM1.out
      simp at h1
      omega
    have HSM := Lib.hid ((same_c KS KS A6 A7 c6 c7 w7 hk6 hk7 hks).mono (R' := fun e w' => e = .returned (.bool true) ∧ Below w7.heap.size w7 w') (fun e w' ⟨he, hb⟩ => ⟨by rw [he]; simp, hb⟩))
    clear hd7 hb7 ho7 hk6 hk7 hks hl5
    go_wp2_with fail
    refine (HSM.out).mono ?_
    rintro e w8 ⟨rfl, hb8⟩
    have HT8 := Lib.hid (HT7.out.below hb8)
    have HB8 : Hid (Below w.heap.size w w8) := HB7.out.trans (hb8.mono HB7.out.size)
    have G1 := Lib.hid (held_w w8 HT8.out.one)
    have G2 := Lib.hid (held_w w8 HT8.out.two)
    have G3 := Lib.hid (pastes_w w8 HT8.out.one)
    have G4 := Lib.hid (pastes_w w8 HT8.out.two)
    clear hb8
    go_wp2_with (first
      | (go_at_call 25; (with_reducible refine (G1.out).mono ?_); rintro e w9 ⟨rfl, hq⟩; obtain rfl := hq.symm)
      | (go_at_call 25; (with_reducible refine (G2.out).mono ?_); rintro e w9 ⟨rfl, hq⟩; obtain rfl := hq.symm)
      | (go_at_call 24; (with_reducible refine (G3.out).mono ?_); rintro e w9 ⟨rfl, hq⟩; obtain rfl := hq.symm)
      | (go_at_call 24; (with_reducible refine (G4.out).mono ?_); rintro e w9 ⟨rfl, hq⟩; obtain rfl := hq.symm))
    go_ret
    refine ⟨?_, HB8.out⟩
    simp
  · have HA2 := Lib.hid (alive_c w3 HT3.out.one.tab)
    have hbig : Hid (∀ (K : Prop), (∀ (k1 : decide (1000 < (l.length : Int)) = true), K) → (∀ (k1 : decide (1000 < (l.length : Int)) = false) (k2 : decide (1000 < (m.length : Int)) = true), K) → K) := by
      intro K h1 h2
      by_cases hl : 1000 < l.length
      · exact h1 (by simp; omega)
      · exact h2 (by simp; omega) (by simp; omega)
    refine hbig.out _ (fun k1 => ?_) (fun k1 k2 => ?_)
    all_goals
      clear hs hbig
      go_wp2_with fail
      refine (HA2.out).mono ?_
      rintro e w4 ⟨rfl, hb4⟩
      have HB4 : Hid (Below w.heap.size w w4) := HB3.out.trans (hb4.mono HB3.out.size)
      clear hb4
      go_wp2
      go_ret
      exact ⟨rfl, HB4.out⟩

end Go.Proofs.YtcakeolnokninaaDoor.KeydecResets

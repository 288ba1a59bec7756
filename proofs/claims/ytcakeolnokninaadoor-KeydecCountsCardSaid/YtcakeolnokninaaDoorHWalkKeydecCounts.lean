/- KeydecCounts, the walk: there are never more keys than bytes; each byte is in one key, or held. -/
import Derived.Test.YtcakeolnokninaaDoorGA
import Derived.Test.YtcakeolnokninaaDoorGK3
set_option linter.unusedVariables false
set_option linter.unusedSimpArgs false
namespace Go.Proofs.YtcakeolnokninaaDoor.KeydecCounts
open Go.RowKit Go.Lib Go.Shelf ChangeShapes Mem Utf UtfP Edit Law

theorem drain_still {t : List UInt8} {ps : Bool} (h : (Edit.drain t ps).1 = []) : (Edit.drain t ps).2.1 = t := by
  cases hx : nxE t ps with
  | none => rw [drain_none hx]
  | some r =>
    obtain ⟨k, m, ps'⟩ := r
    rw [drain_some hx] at h
    cases h
theorem feed_one (u : UInt8) (t : List UInt8) (ps : Bool) : feed [u] t ps = Edit.drain (t ++ [u]) ps := by
  rw [feed_cons]
  simp [feed]

/-- the loop -/
def RC (w : World) (d a c m : Nat) (s5 s30 : Value) (wr : World) : Prop :=
  ∃ (i n : Nat) (t : List UInt8) (ps : Bool), s5 = .int .i64 (n : Int) ∧ s30 = .int .i64 (i : Int) ∧ i ≤ m ∧ Hid (Dw w wr d a c 40 t ps) ∧ Hid (nxE t ps = none) ∧ n + t.length ≤ i ∧ Hid (Below w.heap.size w wr)

set_option maxRecDepth 200000 in
set_option maxHeartbeats 2000000 in
theorem walk (l : List UInt8) (A : Option Addr) (cap : Nat) (w : World) (hT : Tabs w) (hA : BytesAt w A l) (hcap : l.length ≤ cap) (hm : l.length ≤ 140737488355328) :
    Calls Tryd.prog 8 #[.slice A l.length cap] w fun e w' => e = .returned (.bool true) ∧ Below w.heap.size w w' := by
  have HA := Lib.hid hA
  have HT := Lib.hid hT
  have H1 := Lib.hid (begin_c w hT)
  clear hT hA
  go_enter Tryd.func8, Tryd.ntmps8
  go_wp2_with fail
  refine (H1.out).mono ?_
  rintro e w1 ⟨a, c, d, rfl, hd1, hb1⟩
  have HB1 := Lib.hid hb1
  have HD1 := Lib.hid hd1
  have HAL := Lib.hid (alive_c w1 hd1.tab)
  clear hd1 hb1
  go_wp2_with fail
  refine (HAL.out).mono ?_
  rintro e w3 ⟨rfl, hb3⟩
  have HD3 := Lib.hid (HD1.out.below hb3)
  have HB3 : Hid (Below w.heap.size w w3) := HB1.out.trans (hb3.mono HB1.out.size)
  clear hb3
  by_cases hs : l.length ≤ 1500
  · have k1 : decide (1500 < (l.length : Int)) = false := by simp; omega
    go_wp2
    go_loopw [5, 30] (fun s5 s30 wr => RC w d a c l.length s5 s30 wr) (fun _ i _ => l.length - (RowKit.intOf i).toNat)
    case atStart => exact ⟨0, 0, [], false, rfl, rfl, Nat.zero_le _, HD3, by unfold Hid; rfl, Nat.le_refl _, HB3⟩
    case round =>
      obtain ⟨i, n, t, ps, rfl, rfl, hi, HD, HN, hcnt, HB⟩ := hrel
      by_cases hlt : i < l.length
      · have k0 : (i : Int) < (l.length : Int) := by omega
        obtain ⟨B, off, rfl, hBl, hc⟩ := HA.out (List.length_pos_iff.1 (by omega : 0 < l.length))
        obtain ⟨u, hu⟩ : ∃ u, l[i]? = some u := ⟨_, List.getElem?_eq_getElem hlt⟩
        have hbu : bt l i = u.toNat := by unfold bt; rw [List.getD_eq_getElem?_getD, hu]; rfl
        have q0 : wr.cell? ⟨B, off + i, none⟩ = some (.int .u8 (u.toNat : Int)) := by
          rw [World.cell?_of_block (w := w) (HB.out.block B hBl), hc i hlt, hbu]
        have hbl := HD.out.bel
        have h1 := drain_count (t ++ [u]) ps
        have h2 := fun h => drain_still (t := t ++ [u]) (ps := ps) h
        have h3 := drain_left (t ++ [u]) ps
        have hfd := feed_new [u] 1 #[.int .u8 (u.toNat : Int)] wr HD.out HN.out rfl rfl (by decide) _ (feed_one u t ps)
        obtain ⟨KS, T, P, hR⟩ : ∃ KS T P, Edit.drain (t ++ [u]) ps = (KS, T, P) := ⟨_, _, _, rfl⟩
        rw [hR] at h1 h2 h3 hfd
        simp only at h1 h2 h3
        have HFD := Lib.hid hfd
        have H3 := Lib.hid h3
        rw [List.length_append, List.length_singleton] at h1
        have hz : KS.length = 0 → T.length ≠ 0 := by
          intro hk
          have := h2 (List.eq_nil_of_length_eq_zero hk)
          rw [this, List.length_append, List.length_singleton]
          omega
        obtain ⟨k, hk⟩ : ∃ k, KS.length = k := ⟨_, rfl⟩
        obtain ⟨r, hr⟩ : ∃ r, T.length = r := ⟨_, rfl⟩
        have HK := Lib.hid hk
        have HR := Lib.hid hr
        rw [hk, hr] at h1 hz
        have hsum : n + k + r ≤ i + 1 := by omega
        have f1 : decide ((i : Int) + 1 < (n : Int) + (k : Int)) = false := by simp; omega
        have f2 : decide ((i : Int) + 1 < (r : Int)) = false := by simp; omega
        have hn2 : n ≤ 2000 := by omega
        have hk2 : k ≤ 2000 := by omega
        clear hc hBl hu hbu hbl h2 h3 hfd hR hk hr
        go_wp2_with fail
        refine (HFD.out).mono ?_
        rintro e w5 ⟨v, rfl, ho, hd5, hb5⟩
        obtain ⟨A5, c5, rfl, _, _, _, _⟩ := ho.form
        have HD5 := Lib.hid hd5
        have HB5 : Hid (Below w.heap.size w w5) := HB.out.trans (hb5.below HB.out.size (by have := HD.out.low; simp; omega))
        have hh1 := held_w w5 hd5
        have hh2 := len_w w5 hd5
        rw [HR.out] at hh1 hh2
        have HH1 := Lib.hid hh1
        have HH2 := Lib.hid hh2
        rw [HK.out]
        clear ho hd5 hb5 hh1 hh2
        by_cases hk0 : k = 0
        · subst hk0
          have hr0 := hz rfl
          have f3 : ((r : Int) == 0) = false := by simp; omega
          clear hz
          go_wp2_with (first
            | (go_at_call 25; (with_reducible refine (HH1.out).mono ?_); rintro e w9 ⟨rfl, hq⟩; obtain rfl := hq.symm)
            | (go_at_call 31; (with_reducible refine (HH2.out).mono ?_); rintro e w9 ⟨rfl, hq⟩; obtain rfl := hq.symm))
          go_roundw
          case rel => exact ⟨i + 1, n + 0, T, P, by go_num, by go_num, by omega, HD5, H3, by rw [HR.out]; omega, HB5⟩
          case measure => simp [RowKit.intOf]; omega
        · have f3 : ((k : Int) == 0) = false := by simp; omega
          clear hz
          go_wp2_with (first
            | (go_at_call 25; (with_reducible refine (HH1.out).mono ?_); rintro e w9 ⟨rfl, hq⟩; obtain rfl := hq.symm)
            | (go_at_call 31; (with_reducible refine (HH2.out).mono ?_); rintro e w9 ⟨rfl, hq⟩; obtain rfl := hq.symm))
          go_roundw
          case rel => exact ⟨i + 1, n + k, T, P, by go_num, by go_num, by omega, HD5, H3, by rw [HR.out]; omega, HB5⟩
          case measure => simp [RowKit.intOf]; omega
      · have hil : i = l.length := by omega
        have kk : decide ((i : Int) < (l.length : Int)) = false := by simp; omega
        have kk' : decide (i < l.length) = false := by simp; omega
        have HF := Lib.hid (finish_w wr HD.out)
        have hk : (lastKs t).length ≤ t.length ∧ (lastKs t).length ≤ 1 := by
          unfold lastKs
          split
          · simp
          · rename_i h
            have := List.length_pos_iff.2 h
            simp; omega
        obtain ⟨r, hr⟩ : ∃ r, (lastKs t).length = r := ⟨_, rfl⟩
        have HR := Lib.hid hr
        rw [hr] at hk
        have g1 : decide ((n : Int) + (r : Int) ≤ (l.length : Int)) = true := by simp; omega
        have g2 : decide ((r : Int) ≤ 1) = true := by simp; omega
        have hn2 : n ≤ 2000 := by omega
        have hr2 : r ≤ 2000 := by omega
        clear hr hk hlt hil
        go_wp2_with fail
        refine (HF.out).mono ?_
        rintro e w5 ⟨v, rfl, ho, hd5, hb5⟩
        obtain ⟨A5, c5, rfl, _, _, _, _⟩ := ho.form
        have HB5 : Hid (Below w.heap.size w w5) := HB.out.trans (hb5.below HB.out.size (by have := HD.out.low; simp; omega))
        rw [HR.out]
        clear ho hd5 hb5
        go_wp2
        go_ret
        exact ⟨by simp; try omega, HB5.out⟩
  · have k1 : decide (1500 < (l.length : Int)) = true := by simp; omega
    have HA2 := Lib.hid (alive_c w3 HD3.out.tab)
    clear hs
    go_wp2_with fail
    refine (HA2.out).mono ?_
    rintro e w4 ⟨rfl, hb4⟩
    have HB4 : Hid (Below w.heap.size w w4) := HB3.out.trans (hb4.mono HB3.out.size)
    clear hb4
    go_wp2
    go_ret
    exact ⟨rfl, HB4.out⟩

end Go.Proofs.YtcakeolnokninaaDoor.KeydecCounts

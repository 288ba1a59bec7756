/- SinkApart, the walk: bytes behind a list that was handed in are never changed; two sinks have nothing to do with one another. -/
import Derived.Test.YtcakeolnokninaaDoorTabs
import Derived.Test.YtcakeolnokninaaDoorSinkA
import Derived.LoopN
set_option linter.unusedVariables false
namespace Go.Proofs.YtcakeolnokninaaDoor.SinkApart
open Go.RowKit Go.Lib Go.Shelf ChangeShapes Mem Utf Edit Snk Law

theorem rightT_right (l : List UInt8) : rightT (rightT l) = rightT l ∧ (rightT l).length ≤ 1024 := by
  by_cases h : (fineT l && decide (l.length ≤ 1024)) = true
  · have e : rightT l = l := by unfold rightT; rw [if_pos h]
    rw [e, e]
    simp only [Bool.and_eq_true, decide_eq_true_eq] at h
    exact ⟨rfl, h.2⟩
  · have e : rightT l = [] := by unfold rightT; rw [if_neg h]
    rw [e]
    exact ⟨rfl, by simp⟩

theorem fill_step (m j : Nat) (hj : j < m) : (cellsB (List.replicate j 7 ++ List.replicate (m - j) 0)).toArray.setIfInBounds j (.int .u8 7) = (cellsB (List.replicate (j + 1) 7 ++ List.replicate (m - (j + 1)) 0)).toArray := by
  obtain ⟨d, hd⟩ : ∃ d, m - j = d + 1 := ⟨m - j - 1, by omega⟩
  have e2 : m - (j + 1) = d := by omega
  rw [hd, e2, List.replicate_succ, cellsB_append, cellsB_append]
  have hl : (cellsB (List.replicate j (7 : UInt8))).length = j := by rw [cellsB_length, List.length_replicate]
  simp only [List.setIfInBounds_toArray]
  congr 1
  rw [List.set_append_right _ _ (by rw [hl]; exact Nat.le_refl _), hl, Nat.sub_self]
  rw [show List.replicate (j + 1) (7 : UInt8) = List.replicate j 7 ++ [7] from by rw [List.replicate_succ']]
  rw [cellsB_append, List.append_assoc]
  rfl

def R1 (m g : Nat) (W1 : World) (i : Value) (wr : World) : Prop :=
  ∃ j : Nat, i = .int .i64 (j : Int) ∧ j ≤ m ∧ Blk wr g (cellsB (List.replicate j 7 ++ List.replicate (m - j) 0)).toArray 5 ∧ Below W1.heap.size W1 wr
def R2 (m : Nat) (W : World) (i : Value) (wr : World) : Prop := ∃ j : Nat, i = .int .i64 (j : Int) ∧ j ≤ m ∧ wr = W

def Z300 : List UInt8 := List.replicate 300 0
theorem make_300 (w : World) : (Instr.makeSlice 22 (.int .i64 300) (.int .i64 300)).run Tryd.prog w = .ok (.slice (some ⟨w.heap.size, 0, none⟩) 300 300) (w.alloc (.cells (cellsB Z300).toArray 5)) := make_bytes w 300 (by decide)

attribute [local go_sem ↓] make_300 make_bytes conv_str
attribute [local go_sem] strOf_toList

set_option maxRecDepth 200000 in
set_option maxHeartbeats 4000000 in
theorem rest (l : List UInt8) (A : Option Addr) (cap : Nat) (w : World) (hT : Tabs w) (x : Int) (hx : 0 ≤ x ∧ x ≤ 255) (hR : Calls Tryd.prog 12 #[.slice A l.length cap] w fun e w' => ∃ A' cap', e = .returned (.slice A' (rightT l).length cap') ∧ (rightT l).length ≤ cap' ∧ BytesAt w' A' (rightT l) ∧ Below w.heap.size w w') :
    Calls Tryd.prog 3 #[.slice A l.length cap, .int .u8 x] w fun e w' => e = .returned (.bool true) ∧ Below w.heap.size w w' := by
  obtain ⟨hrr, hr1⟩ := rightT_right l
  generalize rightT l = t at *
  have HT := Lib.hid hT
  have HR := Lib.hid hR
  have HRR := Lib.hid hrr
  have HAL : Hid (∀ W, Below w.heap.size w W → Calls Tryd.prog 13 #[] W fun e w' => e = .returned (.bool true) ∧ Below W.heap.size W w') := fun W hW => Snk.alive W (HT.out.below hW)
  clear hT hR hrr
  obtain ⟨n, hn⟩ : ∃ n : Nat, x.tmod 250 = (n : Int) := ⟨(x.tmod 250).toNat, by rw [Int.tmod_eq_emod_of_nonneg hx.1]; omega⟩
  have hn250 : n < 250 := by rw [Int.tmod_eq_emod_of_nonneg hx.1] at hn; omega
  go_enter Tryd.func3, Tryd.ntmps3
  go_wp2_with fail
  refine HR.out.mono ?_
  rintro e w1 ⟨A', cap', rfl, hcap', hA', hb1⟩
  have HW1 := Lib.hid hb1
  have HA1 := Lib.hid hA'
  clear hb1 hA'
  go_wp2_with fail
  refine (HAL.out _ HW1.out).mono ?_
  rintro e w2 ⟨rfl, hb2⟩
  have HW2 : Hid (Below w.heap.size w w2) := HW1.out.trans (hb2.mono HW1.out.size)
  have HA2 : Hid (BytesAt w2 A' t) := HA1.out.below hb2
  clear hb2
  by_cases h200 : t.length ≤ 200
  · have k1 : decide (200 < (t.length : Int)) = false := by simp; omega
    obtain ⟨m, hm⟩ : ∃ m, m = n + 300 := ⟨_, rfl⟩
    have hmk : ∀ W : World, (Instr.makeSlice 22 (.int .i64 ((n : Int) + 300)) (.int .i64 ((n : Int) + 300))).run Tryd.prog W = .ok (.slice (some ⟨W.heap.size, 0, none⟩) m m) (W.alloc (.cells (cellsB (List.replicate m 0)).toArray 5)) := fun W => by
      have := make_bytes W m (by omega)
      rw [hm] at this ⊢
      exact this
    obtain ⟨g, hg⟩ : ∃ g, g = w2.heap.size := ⟨_, rfl⟩
    have HG := Lib.hid hg
    have HM := Lib.hid hm
    clear hg hm
    go_wp2
    rw [← HG.out]
    go_loopw [36] (fun i wr => R1 m g w2 i wr) (fun i _ => m - (RowKit.intOf i).toNat)
    case atStart =>
      refine ⟨0, rfl, by omega, ?_, (Below.refl _ _).alloc (Nat.le_refl _) _⟩
      rw [HG.out]
      exact Blk.new _ _ _
    case round =>
      obtain ⟨j, rfl, hj, hblk, hbw⟩ := hrel
      by_cases hlt : j < m
      · have k0 : (j : Int) < (m : Int) := by omega
        have hmm : m ≤ 600 := by have := HM.out; omega
        have cj := hblk.cell (j := j) (v := .int .u8 0) (by
          simp only [List.getElem?_toArray, cellsB_append]
          rw [List.getElem?_append_right (by rw [cellsB_length, List.length_replicate]; exact Nat.le_refl _), cellsB_length, List.length_replicate, Nat.sub_self]
          obtain ⟨d, hd⟩ : ∃ d, m - j = d + 1 := ⟨m - j - 1, by omega⟩
          rw [hd, List.replicate_succ]
          rfl)
        have fj := hblk.free j
        have HBLK := Lib.hid hblk
        have HBW := Lib.hid hbw
        clear hblk hbw
        go_wp2
        go_roundw
        case rel =>
          refine ⟨j + 1, by go_num, by omega, ?_, HBW.out.setCell (by show w2.heap.size ≤ g; rw [HG.out]; omega) _⟩
          have := Blk.set HBLK.out j (.int .u8 7)
          rw [fill_step m j hlt] at this
          exact this
        case measure => simp [RowKit.intOf]; omega
      · have hge : decide ((j : Int) < (m : Int)) = false := by simp; omega
        have hge' : decide (j < m) = false := by simp; omega
        have HJ : Hid (j = m) := (by omega : j = m)
        rw [HJ.out, Nat.sub_self, List.replicate_zero, List.append_nil] at hblk
        have HBLK := Lib.hid hblk
        have HBW := Lib.hid hbw
        have hnm : (n : Int) ≤ (m : Int) := by have := HM.out; omega
        have hnm' : n ≤ m := by omega
        have hm0 : ¬ m = 0 := by have := HM.out; omega
        clear hblk hbw hlt
        go_wp2_with fail
        obtain ⟨h', hh'⟩ : ∃ h', h' = wr.heap.size := ⟨_, rfl⟩
        have hbk : Blk (wr.alloc (.cells (cellsB Z300).toArray 5)) h' (cellsB Z300).toArray 5 := by rw [hh']; exact Blk.new _ _ _
        have hgk : Blk (wr.alloc (.cells (cellsB Z300).toArray 5)) g (cellsB (List.replicate m 7)).toArray 5 := HBLK.out.alloc _
        have hw4 : Below w.heap.size w (wr.alloc (.cells (cellsB Z300).toArray 5)) := (HW2.out.trans (HBW.out.mono HW2.out.size)).alloc (HW2.out.trans (HBW.out.mono HW2.out.size)).size _
        have hA4 : BytesAt (wr.alloc (.cells (cellsB Z300).toArray 5)) A' t := (HA2.out.below HBW.out).below ((Below.refl _ _).alloc (Nat.le_refl _) _)
        have hglt := HBLK.out.lt
        rw [← hh']
        have HH := Lib.hid hh'
        clear hh'
        refine (newS (some ⟨g, 0, none⟩) n m hnm' (by intro e; cases e) _).mono ?_
        rintro e w5 ⟨rfl, hs5, hb5⟩
        obtain ⟨s5, hs5e⟩ : ∃ s5, s5 = (wr.alloc (.cells (cellsB Z300).toArray 5)).heap.size := ⟨_, rfl⟩
        rw [← hs5e] at hs5 ⊢
        have hs5v : s5 = h' + 1 := by rw [hs5e, HH.out]; simp
        have HS5 := Lib.hid hs5
        have HW5 : Hid (Below w.heap.size w w5) := hw4.trans (hb5.mono hw4.size)
        have HBK5 : Hid (Blk w5 h' (cellsB Z300).toArray 5) := hbk.but (But.of_below (S := []) hb5) (by simp)
        have HGK5 : Hid (Blk w5 g (cellsB (List.replicate m 7)).toArray 5) := hgk.but (But.of_below (S := []) hb5) (by simp)
        have HA5 : Hid (BytesAt w5 A' t) := hA4.below hb5
        have HE5 := Lib.hid hs5v
        have HGLT : Hid (g < h') := by rw [HH.out]; exact hglt
        clear hs5 hs5e hb5 hbk hgk hA4 hw4 hs5v hglt
        go_wp2_with fail
        refine (newS (some ⟨h', 0, none⟩) 300 300 (Nat.le_refl _) (by intro e; cases e) w5).mono ?_
        rintro e w6 ⟨rfl, hs6, hb6⟩
        have hsz5 := HS5.out.lt
        have HS6 := Lib.hid hs6
        have HS5' : Hid (Blk w6 s5 (sinkC (some ⟨g, 0, none⟩) n 0 false) 73) := HS5.out.but (But.of_below (S := []) hb6) (by simp)
        have HW6 : Hid (Below w.heap.size w w6) := HW5.out.trans (hb6.mono HW5.out.size)
        have HBK6 : Hid (Blk w6 h' (cellsB Z300).toArray 5) := HBK5.out.but (But.of_below (S := []) hb6) (by simp)
        have HGK6 : Hid (Blk w6 g (cellsB (List.replicate m 7)).toArray 5) := HGK5.out.but (But.of_below (S := []) hb6) (by simp)
        have HA6 : Hid (BytesAt w6 A' t) := HA5.out.below hb6
        obtain ⟨s6, hs6e⟩ : ∃ s6, s6 = w5.heap.size := ⟨_, rfl⟩
        rw [← hs6e] at HS6 ⊢
        have HE6 : Hid (s5 < s6) := by rw [hs6e]; exact hsz5
        clear hs6 hb6 hsz5 hs6e
        go_wp2_with fail
        refine (buffer t A' cap' w6 (HT.out.below HW6.out) HA6.out hcap' (by omega)).mono ?_
        rintro e w7 ⟨b, ba, bc, bp, rfl, hlb, hla, hlc, hbuf, hb7⟩
        rw [HRR.out] at hbuf
        have HW7 : Hid (Below w.heap.size w w7) := HW6.out.trans (hb7.mono HW6.out.size)
        have HS57 : Hid (Blk w7 s5 (sinkC (some ⟨g, 0, none⟩) n 0 false) 73) := HS5'.out.but (But.of_below (S := []) hb7) (by simp)
        have HS67 : Hid (Blk w7 s6 (sinkC (some ⟨h', 0, none⟩) 300 0 false) 73) := HS6.out.but (But.of_below (S := []) hb7) (by simp)
        have HBK7 : Hid (Blk w7 h' (cellsB Z300).toArray 5) := HBK6.out.but (But.of_below (S := []) hb7) (by simp)
        have HGK7 : Hid (Blk w7 g (cellsB (List.replicate m 7)).toArray 5) := HGK6.out.but (But.of_below (S := []) hb7) (by simp)
        have HBUF7 := Lib.hid hbuf
        have HMN : Hid (n ≤ m) := hnm'
        clear hlb hla hlc hbuf hb7
        by_cases hle : t.length ≤ n
        · have kle : decide ((t.length : Int) ≤ (n : Int)) = true := by simp; omega
          have kle' : decide (t.length ≤ n) = true := by simp; omega
          go_wp2_with fail
          refine (deliver_ok s5 (some ⟨g, 0, none⟩) n g 0 (cellsB (List.replicate m 7)) w7 HS57.out HBUF7.out hle HGK7.out.win (fun _ => rfl) (by rw [cellsB_length, List.length_replicate]; exact HMN.out) (by have := HGLT.out; have := HE5.out; omega)).mono ?_
          rintro e w8 ⟨rfl, _, hwin8, hb8⟩
          have hbk8 : Blk w8 h' (cellsB Z300).toArray 5 := HBK7.out.but hb8 (by simp; have := HGLT.out; have := HE5.out; omega)
          have hs8 : Blk w8 s6 (sinkC (some ⟨h', 0, none⟩) 300 0 false) 73 := HS67.out.but hb8 (by simp; have := HGLT.out; have := HE5.out; have := HE6.out; omega)
          have HW8 : Hid (Below w.heap.size w w8) := HW7.out.trans (hb8.below HW7.out.size (by intro k hk; simp at hk; have := HG.out; have := HGLT.out; have := HE5.out; have := HW2.out.size; omega))
          have HC8 : Hid (∀ j : Nat, j < m → ∃ v : Nat, w8.cell? ⟨g, j, none⟩ = some (.int .u8 (v : Int)) ∧ (t.length ≤ j → v = 7)) := fun j hj => by
            have hlen : (splice (List.replicate m (7 : UInt8)) 0 t).length = m := by rw [length_splice _ _ _ (by rw [List.length_replicate]; have := HMN.out; omega), List.length_replicate]
            rw [cellsB_splice] at hwin8
            have := hwin8.cell j _ (cellsB_get _ j (by rw [hlen]; exact hj))
            rw [Nat.zero_add] at this
            refine ⟨_, this, fun hk => ?_⟩
            unfold splice
            rw [List.take_zero, List.nil_append, Nat.zero_add, List.getD_eq_getElem?_getD, List.getElem?_append_right hk, List.drop_replicate, List.getElem?_replicate]
            rw [if_pos (by omega)]
            rfl
          have HBK8 := Lib.hid hbk8
          have HS8 := Lib.hid hs8
          clear hbk8 hs8 hb8 hwin8 hle
          go_wp2
          go_loopw [82] (fun i wr => R2 m w8 i wr) (fun i _ => m - (RowKit.intOf i).toNat)
          case atStart => exact ⟨0, rfl, by omega, rfl⟩
          case round =>
            obtain ⟨j2, rfl, hj2, hq⟩ := hrel
            obtain rfl := hq.symm
            by_cases hlt2 : j2 < m
            · have k0 : (j2 : Int) < (m : Int) := by omega
              obtain ⟨v, hcell, hv⟩ := HC8.out j2 hlt2
              have hmm : m ≤ 600 := by have := HM.out; omega
              by_cases hk : t.length ≤ j2
              · have hkd : decide ((t.length : Int) ≤ (j2 : Int)) = true := by simp; omega
                have hkd2 : decide (t.length ≤ j2) = true := by simp; omega
                obtain rfl := hv hk
                clear hk hv
                go_wp2
                go_roundw
                case rel => exact ⟨j2 + 1, by go_num, by omega, rfl⟩
                case measure => simp [RowKit.intOf]; omega
              · have hkd : decide ((t.length : Int) ≤ (j2 : Int)) = false := by simp; omega
                have hkd2 : decide (t.length ≤ j2) = false := by simp; omega
                clear hv
                go_wp2
                go_roundw
                case rel => exact ⟨j2 + 1, by go_num, by omega, rfl⟩
                case measure => simp [RowKit.intOf]; omega
            · have hge2 : decide ((j2 : Int) < (m : Int)) = false := by simp; omega
              have hge2' : decide (j2 < m) = false := by simp; omega
              clear hlt2
              go_wp2_with fail
              refine (given _ _ _ _ _ w8 HS8.out).mono ?_
              rintro e w9 ⟨rfl, hb9⟩
              have hbk9 : Blk w9 h' (cellsB Z300).toArray 5 := HBK8.out.but hb9 (by simp)
              have HW9 : Hid (Below w.heap.size w w9) := HW8.out.trans (hb9.below HW8.out.size (by simp))
              have hA9 : BytesAt w9 (some ⟨h', 0, none⟩) Z300 := Win.bytes hbk9.win
              have hz : Z300.length = 300 := by decide
              have hA9' : BytesAt (w9.alloc (.cells (cellsB Z300).toArray 5)).drew (some ⟨h', 0, none⟩) Z300 := hA9.below (((Below.refl _ _).alloc (Nat.le_refl _) _).drew)
              have hB9 : BytesAt (w9.alloc (.cells (cellsB Z300).toArray 5)).drew (some ⟨w9.heap.size, 0, none⟩) Z300 := (show BytesAt (w9.alloc (.cells (cellsB Z300).toArray 5)) _ _ from Win.bytes (Blk.new _ _ _).win)
              have hc1 : (convert 22 9 (.slice (some ⟨h', 0, none⟩) 300 300)).run Tryd.prog w9.drew = .ok (.string (strOf Z300)) w9.drew := by have := conv_str (l := Z300) (cap := 300) (show BytesAt w9.drew _ _ from hA9); rw [hz] at this; exact this
              have hc2 : (convert 22 9 (.slice (some ⟨h', 0, none⟩) 300 300)).run Tryd.prog (w9.alloc (.cells (cellsB Z300).toArray 5)).drew = .ok (.string (strOf Z300)) (w9.alloc (.cells (cellsB Z300).toArray 5)).drew := by have := conv_str (l := Z300) (cap := 300) hA9'; rw [hz] at this; exact this
              have hc3 : (convert 22 9 (.slice (some ⟨w9.heap.size, 0, none⟩) 300 300)).run Tryd.prog (w9.alloc (.cells (cellsB Z300).toArray 5)).drew = .ok (.string (strOf Z300)) (w9.alloc (.cells (cellsB Z300).toArray 5)).drew := by have := conv_str (l := Z300) (cap := 300) hB9; rw [hz] at this; exact this
              clear hA9 hA9' hB9 hbk9 hb9 hz
              go_wp2
              go_region
              all_goals
                go_wp2
                go_ret
                exact ⟨rfl, (HW9.out.alloc HW9.out.size _).drew⟩
        · have kle : decide ((t.length : Int) ≤ (n : Int)) = false := by simp; omega
          have kle' : decide (t.length ≤ n) = false := by simp; omega
          go_wp2_with fail
          refine (deliver_small s5 (some ⟨g, 0, none⟩) n w7 HS57.out HBUF7.out (by omega)).mono ?_
          rintro e w8 ⟨rfl, hb8⟩
          have hbk8 : Blk w8 h' (cellsB Z300).toArray 5 := HBK7.out.but hb8 (by simp)
          have hs8 : Blk w8 s6 (sinkC (some ⟨h', 0, none⟩) 300 0 false) 73 := HS67.out.but hb8 (by simp)
          have HW8 : Hid (Below w.heap.size w w8) := HW7.out.trans (hb8.below HW7.out.size (by simp))
          have hgk8 := HGK7.out.but hb8 (by simp)
          have HC8 : Hid (∀ j : Nat, j < m → ∃ v : Nat, w8.cell? ⟨g, j, none⟩ = some (.int .u8 (v : Int)) ∧ (0 ≤ j → v = 7)) := fun j hj => by
            have := hgk8.win.cell j _ (cellsB_get _ j (by rw [List.length_replicate]; exact hj))
            rw [Nat.zero_add] at this
            refine ⟨_, this, fun hk => ?_⟩
            rw [List.getD_eq_getElem?_getD, List.getElem?_replicate, if_pos hj]
            rfl
          have HBK8 := Lib.hid hbk8
          have HS8 := Lib.hid hs8
          clear hbk8 hs8 hb8 hgk8 hle
          go_wp2
          go_loopw [82] (fun i wr => R2 m w8 i wr) (fun i _ => m - (RowKit.intOf i).toNat)
          case atStart => exact ⟨0, rfl, by omega, rfl⟩
          case round =>
            obtain ⟨j2, rfl, hj2, hq⟩ := hrel
            obtain rfl := hq.symm
            by_cases hlt2 : j2 < m
            · have k0 : (j2 : Int) < (m : Int) := by omega
              obtain ⟨v, hcell, hv⟩ := HC8.out j2 hlt2
              have hmm : m ≤ 600 := by have := HM.out; omega
              by_cases hk : 0 ≤ j2
              · have hkd : decide ((0 : Int) ≤ (j2 : Int)) = true := by simp
                skip
                obtain rfl := hv hk
                clear hk hv
                go_wp2
                go_roundw
                case rel => exact ⟨j2 + 1, by go_num, by omega, rfl⟩
                case measure => simp [RowKit.intOf]; omega
              · exact absurd (Nat.zero_le _) hk
            · have hge2 : decide ((j2 : Int) < (m : Int)) = false := by simp; omega
              have hge2' : decide (j2 < m) = false := by simp; omega
              clear hlt2
              go_wp2_with fail
              refine (given _ _ _ _ _ w8 HS8.out).mono ?_
              rintro e w9 ⟨rfl, hb9⟩
              have hbk9 : Blk w9 h' (cellsB Z300).toArray 5 := HBK8.out.but hb9 (by simp)
              have HW9 : Hid (Below w.heap.size w w9) := HW8.out.trans (hb9.below HW8.out.size (by simp))
              have hA9 : BytesAt w9 (some ⟨h', 0, none⟩) Z300 := Win.bytes hbk9.win
              have hz : Z300.length = 300 := by decide
              have hA9' : BytesAt (w9.alloc (.cells (cellsB Z300).toArray 5)).drew (some ⟨h', 0, none⟩) Z300 := hA9.below (((Below.refl _ _).alloc (Nat.le_refl _) _).drew)
              have hB9 : BytesAt (w9.alloc (.cells (cellsB Z300).toArray 5)).drew (some ⟨w9.heap.size, 0, none⟩) Z300 := (show BytesAt (w9.alloc (.cells (cellsB Z300).toArray 5)) _ _ from Win.bytes (Blk.new _ _ _).win)
              have hc1 : (convert 22 9 (.slice (some ⟨h', 0, none⟩) 300 300)).run Tryd.prog w9.drew = .ok (.string (strOf Z300)) w9.drew := by have := conv_str (l := Z300) (cap := 300) (show BytesAt w9.drew _ _ from hA9); rw [hz] at this; exact this
              have hc2 : (convert 22 9 (.slice (some ⟨h', 0, none⟩) 300 300)).run Tryd.prog (w9.alloc (.cells (cellsB Z300).toArray 5)).drew = .ok (.string (strOf Z300)) (w9.alloc (.cells (cellsB Z300).toArray 5)).drew := by have := conv_str (l := Z300) (cap := 300) hA9'; rw [hz] at this; exact this
              have hc3 : (convert 22 9 (.slice (some ⟨w9.heap.size, 0, none⟩) 300 300)).run Tryd.prog (w9.alloc (.cells (cellsB Z300).toArray 5)).drew = .ok (.string (strOf Z300)) (w9.alloc (.cells (cellsB Z300).toArray 5)).drew := by have := conv_str (l := Z300) (cap := 300) hB9; rw [hz] at this; exact this
              clear hA9 hA9' hB9 hbk9 hb9 hz
              go_wp2
              go_region
              all_goals
                go_wp2
                go_ret
                exact ⟨rfl, (HW9.out.alloc HW9.out.size _).drew⟩
  · have k1 : decide (200 < (t.length : Int)) = true := by simp; omega
    go_wp2_with (go_at_call 13; refine (HAL.out _ HW2.out).mono ?_; rintro e w5 ⟨rfl, hb5⟩)
    go_ret
    exact ⟨rfl, HW2.out.trans (hb5.mono HW2.out.size)⟩

theorem walk (l : List UInt8) (A : Option Addr) (cap : Nat) (x : Int) (w : World) (hT : Tabs w) (hA : BytesAt w A l) (hcap : l.length ≤ cap) (hm : l.length ≤ 140737488355328) (wx : (Lit.int .u8 x).wf = true) :
    Calls Tryd.prog 3 #[.slice A l.length cap, .int .u8 x] w fun e w' => e = .returned (.bool true) ∧ Below w.heap.size w w' := by
  have hx : 0 ≤ x ∧ x ≤ 255 := by simp [Lit.wf, IntKind.min, IntKind.max, IntKind.signed, IntKind.bits] at wx; omega
  refine rest l A cap w hT x hx ((right l A cap w hA hcap hm).mono fun e w' ⟨he, hb⟩ => ?_)
  by_cases h : (fineT l && decide (l.length ≤ 1024)) = true
  · have e1 : rightT l = l := by unfold rightT; rw [if_pos h]
    rw [if_pos h] at he
    rw [e1]
    exact ⟨A, cap, he, hcap, hA.below hb, hb⟩
  · have e1 : rightT l = [] := by unfold rightT; rw [if_neg h]
    rw [if_neg h] at he
    rw [e1]
    exact ⟨none, 0, he, Nat.le_refl _, fun hne => absurd rfl hne, hb⟩

end Go.Proofs.YtcakeolnokninaaDoor.SinkApart

/- EditbufVacates, the walk: whatever keys come, all cells behind the bytes are 0, the bytes are characters that may be shown, as many as are counted, and the place is among them. -/
import Derived.Test.YtbkpnffgihjikaaDoorTabs
import Derived.Test.YtbkpnffgihjikaaDoorGreat
import Derived.Test.YtbkpnffgihjikaaDoorConv
import Derived.Test.YtbkpnffgihjikaaDoorFine
import Derived.Deep.CutBlock
import Derived.Deep.DeepCutAuto
set_option linter.unusedVariables false
set_option linter.unusedSimpArgs false
namespace Go.Proofs.YtbkpnffgihjikaaDoor.EditbufVacates
open Go.RowKit Go.Lib Go.Shelf ChangeShapes Mem Utf UtfP Edit Law

def RV (w : World) (b a c N n : Nat) (i : Value) (wr : World) : Prop :=
  ∃ (j : Nat) (A B : List Int), i = .int .i64 (j : Int) ∧ j ≤ n ∧ Ed wr b a c N A B ∧ Below w.heap.size w wr
/-- behind a call -/
def RC (w : World) (b a c N j : Nat) (i : Value) (wr : World) : Prop :=
  ∃ (A B : List Int), i = .int .i64 (j : Int) ∧ Ed wr b a c N A B ∧ Below w.heap.size w wr

set_option maxRecDepth 200000 in
set_option maxHeartbeats 4000000 in
theorem walk (x : Int) (rs : List ActRow) (Q : Option Addr) (cap : Nat) (w : World) (hT : Tabs w) (_ : (Lit.int .i64 x).wf = true) (hA : RowsAt w 4 ActRow.cells Q rs) (hcap : rs.length ≤ cap) (hm : 48 * rs.length ≤ 140737488355328) (hgood : ∀ r ∈ rs, r.b.Fits w) :
    Calls Tryd.prog 10 #[.int .i64 x, .slice Q rs.length cap] w fun e w' => e = .returned (.bool true) ∧ Below w.heap.size w w' := by
  have HT := Lib.hid hT
  have HA := Lib.hid hA
  have HG := Lib.hid hgood
  clear hT hA hgood
  have hN := szE_bd (m := 200) x (by decide) (by decide)
  have HSZ := Lib.hid (fun W => size_c x W)
  generalize szE 200 x = N at *
  go_enter Tryd.func10, Tryd.ntmps10
  go_wp2_with (go_at_call 37; refine (HSZ.out _).mono ?_; rintro e w0 ⟨rfl, hq⟩; obtain rfl := hq.symm)
  refine (begin_c N hN.1 hN.2 w).mono ?_
  rintro e w1 ⟨b, a, c, rfl, hlb, hla, hlc, hed, hb1⟩
  have HL := Lib.hid (show w.heap.size ≤ b ∧ w.heap.size ≤ a ∧ w.heap.size ≤ c from ⟨hlb, hla, hlc⟩)
  have HW1 := Lib.hid hb1
  have HED1 := Lib.hid hed
  clear hlb hla hlc hed hb1
  go_wp2_with fail
  refine (Edit.alive _).mono ?_
  rintro e w3 ⟨rfl, hb3⟩
  have HED3 : Hid (Ed w3 b a c N [] []) := HED1.out.but (But.of_below (S := []) hb3) (by simp) (by simp) (by simp)
  have HW3 : Hid (Below w.heap.size w w3) := HW1.out.trans (hb3.mono HW1.out.size)
  clear hb3
  go_wp2_with fail
  refine (great_any rs Q cap w3 (HA.out.below HW3.out) (by omega)).mono ?_
  rintro e w4 ⟨gr, rfl, hb4⟩
  have HED4 : Hid (Ed w4 b a c N [] []) := HED3.out.but (But.of_below (S := []) hb4) (by simp) (by simp) (by simp)
  have HW4 : Hid (Below w.heap.size w w4) := HW3.out.trans (hb4.mono HW3.out.size)
  clear hb4
  cases gr
  · go_wp2
    go_loopw [32] (fun i wr => RV w b a c N rs.length i wr) (fun i _ => rs.length - (RowKit.intOf i).toNat)
    case atStart => exact ⟨0, [], [], rfl, by omega, HED4.out, HW4.out⟩
    case round =>
      obtain ⟨j, A, B, rfl, hj, hed, hbw⟩ := hrel
      have HED := Lib.hid hed
      have HBW := Lib.hid hbw
      clear hed hbw
      by_cases hlt : j < rs.length
      · have k0 : (j : Int) < (rs.length : Int) := by omega
        obtain ⟨r, hr⟩ : ∃ r, rs[j]? = some r := ⟨_, List.getElem?_eq_getElem hlt⟩
        obtain ⟨g, off, rfl, hgl, hcell⟩ := HA.out (List.length_pos_iff.1 (by omega : 0 < rs.length))
        obtain ⟨hby, hrc, hrm⟩ := HG.out r (List.mem_of_getElem? hr)
        obtain ⟨q0, q1, q2, q3⟩ := act_cells hcell hr
        have e0 : wr.cell? ⟨g, off + j * 4, none⟩ = some (.int .i64 r.k) := by rw [HBW.out.cell hgl]; exact q0
        have e1 : wr.cell? ⟨g, off + j * 4 + 1, none⟩ = some (.int .i64 r.kk) := by rw [HBW.out.cell hgl]; exact q1
        have e2 : wr.cell? ⟨g, off + j * 4 + 2, none⟩ = some (.int .i64 r.kc) := by rw [HBW.out.cell hgl]; exact q2
        have e3 : wr.cell? ⟨g, off + j * 4 + 3, none⟩ = some (.slice r.b.A r.b.l.length r.b.cap) := by rw [HBW.out.cell hgl]; exact q3
        obtain ⟨k, kk, kc, ⟨A0, l, cap0⟩⟩ := r
        simp only at e0 e1 e2 e3 hby hrc hrm
        have HBY := Lib.hid hby
        clear q0 q1 q2 q3 hcell hgl hr hby
        obtain ⟨o, ho⟩ : ∃ o : Obj, o = .cells #[.int .i64 k, .int .i64 kk, .int .i64 kc, .slice A0 l.length cap0] 62 := ⟨_, rfl⟩
        have hwo : Below wr.heap.size wr (wr.alloc o) := (Below.refl _ _).alloc (Nat.le_refl _) _
        have HWO : Hid (Below w.heap.size w (wr.alloc o)) := HBW.out.trans (hwo.mono HBW.out.size)
        have HEDO : Hid (Ed (wr.alloc o) b a c N A B) := HED.out.but (But.of_below (S := []) hwo) (by simp) (by simp) (by simp)
        have hbo : Blk (wr.alloc o) wr.heap.size #[.int .i64 k, .int .i64 kk, .int .i64 kc, .slice A0 l.length cap0] 62 := by rw [ho]; exact Blk.new _ _ _
        have HO := Lib.hid ho
        have HBO := Lib.hid hbo
        clear ho hwo hbo
        go_upto_block 2 with fail
        go_cut [32] from 32 to 109 (fun i wx => RC w b a c N j i wx)
        case first =>
          rw [← HO.out]
          have d0 := HBO.out.cell (j := 0) (v := .int .i64 k) rfl
          have d1 := HBO.out.cell (j := 1) (v := .int .i64 kk) rfl
          have d2 := HBO.out.cell (j := 2) (v := .int .i64 kc) rfl
          have d3 := HBO.out.cell (j := 3) (v := .slice A0 l.length cap0) rfl
          have hmeet : ∀ (W : World) (A' B' : List Int), Ed W b a c N A' B' → But [b, a, c] (wr.alloc o) W → RC w b a c N j (.int .i64 (j : Int)) W := fun W A' B' h hb => ⟨A', B', rfl, h, HWO.out.trans (hb.below HWO.out.size (by have := HL.out; simp; omega))⟩
          have HMEET := Lib.hid hmeet
          clear hmeet
          by_cases c0 : k = 0
          · subst c0
            have H1 := Lib.hid (do_any kk kc _ HEDO.out)
            go_wp2_with (go_at_call 34; refine (H1.out).mono ?_; rintro e w5 ⟨rfl, hed5, hbt5⟩; have HED5 := Lib.hid hed5; have HBT5 := Lib.hid hbt5; clear hed5 hbt5)
            go_meet
            exact HMEET.out _ _ _ HED5.out HBT5.out
          · have c0' : (k == 0) = false := by simpa using c0
            by_cases c1 : k = 1
            · subst c1
              have H1 := Lib.hid (put_any kc _ HEDO.out)
              go_wp2_with (go_at_call 40; refine (H1.out).mono ?_; rintro e w5 ⟨rfl, hed5, hbt5⟩; have HED5 := Lib.hid hed5; have HBT5 := Lib.hid hbt5; clear hed5 hbt5)
              go_meet
              exact HMEET.out _ _ _ HED5.out HBT5.out
            · have c1' : (k == 1) = false := by simpa using c1
              by_cases c2 : k = 2
              · subst c2
                have H1 := Lib.hid (ins_e A0 l cap0 _ (HT.out.below HWO.out) HEDO.out (HBY.out.below HWO.out) hrc (by omega) (fun ad h h' => by
                  obtain ⟨g, off, e, hlt, _⟩ := HBY.out h'
                  rw [e] at h
                  injection h with h
                  have := HL.out
                  subst h
                  show g ≠ _
                  omega))
                go_wp2_with (go_at_call 32; refine (H1.out).mono ?_; rintro e w5 ⟨er, A', rfl, hed5, hbt5, _⟩; have HED5 := Lib.hid hed5; have HBT5 := Lib.hid hbt5; clear hed5 hbt5)
                go_meet
                exact HMEET.out _ _ _ HED5.out HBT5.out
              · have c2' : (k == 2) = false := by simpa using c2
                go_wp2
                go_meet
                exact HMEET.out _ _ _ HEDO.out (But.refl _ _)
        case rest =>
          obtain ⟨A', B', rfl, hed, hbw⟩ := hcut
          have HED5 := Lib.hid hed
          have HBW5 := Lib.hid hbw
          clear hed hbw
          obtain ⟨t, ht⟩ : ∃ t, encs A' ++ encs B' = t := ⟨_, rfl⟩
          obtain ⟨p, hp⟩ : ∃ p, A'.length = p := ⟨_, rfl⟩
          obtain ⟨n, hn⟩ : ∃ n, A'.length + B'.length = n := ⟨_, rfl⟩
          have hbt : t = encs (A' ++ B') := by rw [encs_append, ht]
          have hch : (chars t).length = n := by
            have := chars_encs [] (A' ++ B') (AllPrint.fine HED5.out.pr)
            rw [List.append_nil, chars_nil, List.append_nil] at this
            rw [hbt, ← hn, ← List.length_append]
            exact congrArg List.length this
          have hft : fineT t = true := by rw [hbt]; exact fine_encs _ HED5.out.pr
          have hbuf := HED5.out.buf
          rw [ht] at hbuf
          have hfit := hbuf.ar.fit
          have hTX := text_c wc hbuf
          have HTX := Lib.hid hTX
          have HBUF := Lib.hid hbuf
          have hcnt : ∀ W, Ed W b a c N A' B' → Calls Tryd.prog 33 #[.pointer (some ⟨b, 0, none⟩)] W fun e w' => e = .returned (.int .i64 (n : Int)) ∧ w' = W := fun W h => by
            have := count_e W h
            rwa [hn] at this
          have hatt : ∀ W, Ed W b a c N A' B' → Calls Tryd.prog 36 #[.pointer (some ⟨b, 0, none⟩)] W fun e w' => e = .returned (.int .i64 (p : Int)) ∧ w' = W := fun W h => by
            have := at_e W h
            rwa [hp] at this
          have HCNT := Lib.hid hcnt
          have HATT := Lib.hid hatt
          have HCH := Lib.hid hch
          have HFT := Lib.hid hft
          have hpn : p ≤ n := by omega
          have hn4 : n ≤ 4096 := by
            have := encs_len (A' ++ B')
            rw [← hbt, List.length_append] at this
            omega
          have hN4 := hN.2
          have m1 : decide ((p : Int) < 0) = false := by simp
          have m2 : decide ((n : Int) < (p : Int)) = false := by simp; omega
          have m3 : decide (n < p) = false := by simp; omega
          have HFIT := Lib.hid hfit
          clear ht hp hn hbt hch hft hbuf hTX hcnt hatt
          go_wp2_with fail
          refine (HTX.out).mono ?_
          rintro e w6 ⟨rfl, hb6⟩
          have HED6 : Hid (Ed w6 b a c N A' B') := HED5.out.but (But.of_below (S := []) hb6) (by simp) (by simp) (by simp)
          have HBUF6 : Hid (Buf w6 b a c N t (encs A').length) := HBUF.out.but (But.of_below (S := []) hb6) (by simp) (by simp) (by simp)
          have HW6 : Hid (Below w.heap.size w w6) := HBW5.out.trans (hb6.mono HBW5.out.size)
          obtain ⟨w7, g7, cap7, hcv, hc7, hby7, _, hb7⟩ := conv_named w6 t
          have HED7 : Hid (Ed w7 b a c N A' B') := HED6.out.but (But.of_below (S := []) hb7) (by simp) (by simp) (by simp)
          have HBUF7 : Hid (Buf w7 b a c N t (encs A').length) := HBUF6.out.but (But.of_below (S := []) hb7) (by simp) (by simp) (by simp)
          have HW7 : Hid (Below w.heap.size w w7) := HW6.out.trans (hb7.mono HW6.out.size)
          have HBY7 := Lib.hid hby7
          have HF := refFineT t (some ⟨g7, 0, none⟩) cap7 w7 hby7 hc7 (by omega)
          rw [HFT.out] at HF
          have HF := Lib.hid HF
          clear hb6 hb7 hby7
          go_wp2_with fail
          refine (HF.out).mono ?_
          rintro e w8 ⟨rfl, hb8⟩
          have HED8 : Hid (Ed w8 b a c N A' B') := HED7.out.but (But.of_below (S := []) hb8) (by simp) (by simp) (by simp)
          have HBUF8 : Hid (Buf w8 b a c N t (encs A').length) := HBUF7.out.but (But.of_below (S := []) hb8) (by simp) (by simp) (by simp)
          have HW8 : Hid (Below w.heap.size w w8) := HW7.out.trans (hb8.mono HW7.out.size)
          have HC := countGo t (some ⟨g7, 0, none⟩) cap7 w8 (HT.out.below HW8.out) (HBY7.out.below hb8) hc7 (by omega)
          rw [HCH.out] at HC
          have HC := Lib.hid HC
          clear hb8 hcv
          go_wp2_with fail
          refine (HC.out).mono ?_
          rintro e w9 ⟨rfl, hb9⟩
          have HED9 : Hid (Ed w9 b a c N A' B') := HED8.out.but (But.of_below (S := []) hb9) (by simp) (by simp) (by simp)
          have HBUF9 : Hid (Buf w9 b a c N t (encs A').length) := HBUF8.out.but (But.of_below (S := []) hb9) (by simp) (by simp) (by simp)
          have HW9 : Hid (Below w.heap.size w w9) := HW8.out.trans (hb9.mono HW8.out.size)
          have HLN := Lib.hid (len w9 HBUF9.out.ar)
          clear hb9
          go_wp2_with (first
            | (go_at_call 33; refine (HCNT.out _ HED9.out).mono ?_; rintro e w10 ⟨rfl, hq⟩; obtain rfl := hq.symm)
            | (go_at_call 36; refine (HATT.out _ HED9.out).mono ?_; rintro e w10 ⟨rfl, hq⟩; obtain rfl := hq.symm)
            | (go_at_call 45; refine (HLN.out).mono ?_; rintro e w10 ⟨rfl, hq⟩; obtain rfl := hq.symm))
          go_loopw [10] (fun i wx => ∃ m : Nat, i = .int .i64 (m : Int) ∧ t.length ≤ m ∧ m ≤ N ∧ wx = w9) (fun i _ => N - (RowKit.intOf i).toNat)
          case atStart => exact ⟨t.length, rfl, Nat.le_refl _, HFIT.out, rfl⟩
          case round =>
            obtain ⟨m, rfl, hm1, hm2, hw⟩ := hrel
            obtain rfl := hw.symm
            by_cases hmN : m < N
            · have HCL := Lib.hid (cell_pad m w9 HBUF9.out.ar hm1 hmN)
              have k1 : (m : Int) < (N : Int) := by omega
              go_wp2_with (first
                | (go_at_call 37; refine (HSZ.out _).mono ?_; rintro e w0 ⟨rfl, hq⟩; obtain rfl := hq.symm)
                | (go_at_call 51; refine (HCL.out).mono ?_; rintro e w0 ⟨rfl, hq⟩; obtain rfl := hq.symm))
              go_roundw
              case rel => exact ⟨m + 1, by go_num, by omega, by omega, by first | rfl | trivial⟩
              case measure => simp [RowKit.intOf]; omega
            · have hge : decide ((m : Int) < (N : Int)) = false := by simp; omega
              have hge' : decide (m < N) = false := by simp; omega
              go_wp2_with (go_at_call 37; refine (HSZ.out _).mono ?_; rintro e w0 ⟨rfl, hq⟩; obtain rfl := hq.symm)
              go_roundw
              case rel => exact ⟨j + 1, A', B', by go_num, by omega, HED9.out, HW9.out⟩
              case measure => simp [RowKit.intOf]; omega
      · have hge : decide ((j : Int) < (rs.length : Int)) = false := by simp; omega
        have hge' : decide (j < rs.length) = false := by simp; omega
        have HC := Lib.hid (clearB wr HED.out.buf)
        clear hlt
        go_wp2_with fail
        refine (HC.out).mono ?_
        rintro e w5 ⟨rfl, hbuf, hbt⟩
        have HW5 : Hid (Below w.heap.size w w5) := HBW.out.trans (hbt.below HBW.out.size (by have := HL.out; simp; omega))
        have H1 := Lib.hid (zeroA w5 hbuf.ar)
        rw [show allZ [] = true from by decide] at H1
        have H2 := Lib.hid (lenB w5 hbuf)
        have H3 := Lib.hid (atB w5 hbuf)
        have H4 := Lib.hid (count_c w5 hbuf)
        rw [List.length_nil] at H2 H4
        rw [show countB [] 0 = 0 from by decide] at H3 H4
        clear hbuf hbt
        go_wp2_with (first
          | (go_at_call 25; refine (H1.out).mono ?_; rintro e w7 ⟨rfl, hq⟩; obtain rfl := hq.symm)
          | (go_at_call 27; refine (H2.out).mono ?_; rintro e w7 ⟨rfl, hq⟩; obtain rfl := hq.symm)
          | (go_at_call 33; refine (H4.out).mono ?_; rintro e w7 ⟨rfl, hq⟩; obtain rfl := hq.symm)
          | (go_at_call 36; refine (H3.out).mono ?_; rintro e w7 ⟨rfl, hq⟩; obtain rfl := hq.symm))
        go_ret
        exact ⟨rfl, HW5.out⟩
  · go_wp2_with fail
    refine (Edit.alive _).mono ?_
    rintro e w5 ⟨rfl, hb5⟩
    go_wp2
    go_ret
    exact ⟨rfl, HW4.out.trans (hb5.mono HW4.out.size)⟩

end Go.Proofs.YtbkpnffgihjikaaDoor.EditbufVacates

/- PasteWhole, the walk: a paste is in a buffer whole, at its place, or not at all; behind its end nothing of it is in any cell. -/
import Derived.Test.YtbkpnffgihjikaaDoorGA
import Derived.Test.YtbkpnffgihjikaaDoorGP
import Derived.Test.YtbkpnffgihjikaaDoorGC
import Derived.Test.YtbkpnffgihjikaaDoorGD
import Derived.Deep.RegionHeldLaw
set_option linter.unusedVariables false
set_option linter.unusedSimpArgs false
namespace Go.Proofs.YtbkpnffgihjikaaDoor.PasteWhole
open Go.RowKit Go.Lib Go.Shelf ChangeShapes Mem Utf UtfP Edit Law

attribute [local go_sem] strOf_toList strOf_append strOf_size
attribute [local go_sem ↓] conv_str
theorem str_nil : (ByteArray.mk #[]) = strOf [] := rfl

theorem cells_left {w : World} {A : Option Addr} {l m : List Int} (h : CellsAt w A (cellsI (l ++ m))) : CellsAt w A (cellsI l) := by
  intro hne
  have hl : l ≠ [] := by intro e; subst e; exact hne rfl
  obtain ⟨b, off, hp, hlt, hc⟩ := h (by
    intro e
    have := cellsI_length (l ++ m)
    rw [e, List.length_append] at this
    exact hl (List.eq_nil_of_length_eq_zero (by simp at this; omega)))
  refine ⟨b, off, hp, hlt, fun j u hu => hc j u ?_⟩
  rw [cellsI_append, List.getElem?_append_left (List.getElem?_eq_some_iff.1 hu).1]
  exact hu

theorem strOf_extract (t : List UInt8) (i j : Nat) : (Utf.strOf t).extract i j = Utf.strOf ((t.drop i).take (j - i)) := by
  apply ByteArray.ext
  rw [ByteArray.data_extract]
  apply Array.toList_inj.1
  unfold Utf.strOf
  simp [Array.toList_extract, List.extract]

theorem slice_upto {P : Program} (t : TypeId) (hu : P.underlying t = some .string) (s r : ByteArray) (k : Nat) (hk : k ≤ s.size) (h : s.extract 0 k = r) (w : World) :
    (Instr.slice t (.string s) none (some (.int .i64 (k : Int))) none).run P w = .ok (.string r) w := by
  have hj : 0 ≤ (k : Int) ∧ (k : Int) ≤ (s.size : Int) := ⟨by omega, by omega⟩
  simp [Instr.slice, Instr.sliceBounds, Instr.sliceBound, asIntOf, run_underlying hu, hj, ← h]
  intro hc
  omega

theorem slice_from {P : Program} (t : TypeId) (hu : P.underlying t = some .string) (s r : ByteArray) (k : Nat) (hk : k ≤ s.size) (h : s.extract k s.size = r) (w : World) :
    (Instr.slice t (.string s) (some (.int .i64 (k : Int))) none none).run P w = .ok (.string r) w := by
  have hj : 0 ≤ (k : Int) ∧ (k : Int) ≤ (s.size : Int) := ⟨by omega, by omega⟩
  simp [Instr.slice, Instr.sliceBounds, Instr.sliceBound, asIntOf, run_underlying hu, hj, ← h]
  intro hc
  omega

def R1 (w : World) (s a c N b a2 c2 N2 n : Nat) (i : Value) (wr : World) : Prop :=
  ∃ (j : Nat) (A : List Int), i = .int .i64 (j : Int) ∧ j ≤ n ∧ Pb wr s a c N [] false false b a2 c2 N2 A [] ∧ Below w.heap.size w wr
def R2 (w : World) (s a c N b a2 c2 N2 n : Nat) (A B : List Int) (want al i : Value) (wr : World) : Prop :=
  ∃ (j : Nat) (M L : List Int) (o : Bool), want = .string (strOf (encs M)) ∧ al = .bool o ∧ i = .int .i64 (j : Int) ∧ j ≤ n ∧ M.length ≤ j ∧ AllPrint M ∧ (o = true → L = M ∧ (encs M).length ≤ N) ∧ (o = false → N < (encs M).length) ∧ Pb wr s a c N L true (!o) b a2 c2 N2 A B ∧ Below w.heap.size w wr

set_option maxRecDepth 200000 in
set_option maxHeartbeats 4000000 in
theorem walk (x y : Int) (zs : List Int) (Q : Option Addr) (cap : Nat) (ys : List Int) (Q2 : Option Addr) (cap2 : Nat) (w0 : World) (hT : Tabs w0) (_ : (Lit.int .i64 x).wf = true) (_ : (Lit.int .i64 y).wf = true) (hA : RowsAt w0 1 (fun z => [Value.int .i64 z]) Q zs) (hcap : zs.length ≤ cap) (hm : zs.length ≤ 17592186044416) (_ : ∀ z ∈ zs, (Lit.int .i64 z).wf = true) (hA2 : RowsAt w0 1 (fun z => [Value.int .i64 z]) Q2 ys) (hcap2 : ys.length ≤ cap2) (hm2 : ys.length ≤ 17592186044416) (_ : ∀ z ∈ ys, (Lit.int .i64 z).wf = true) :
    Calls Tryd.prog 11 #[.agg #[.int .i64 x, .int .i64 y], .slice Q zs.length cap, .slice Q2 ys.length cap2] w0 fun e w' => e = .returned (.bool true) ∧ Below w0.heap.size w0 w' := by
  have hN0 := szE_bd (m := 100) x (by decide) (by decide)
  have hN1 := szE_bd (m := 100) y (by decide) (by decide)
  have HSX := Lib.hid (fun W => sizeP_c x W)
  have HSY := Lib.hid (fun W => sizeP_c y W)
  generalize szE 100 x = N at *
  generalize szE 100 y = N2 at *
  go_enter Tryd.func11, Tryd.ntmps11
  have hwa : Below w0.heap.size w0 (w0.alloc (.cells #[.int .i64 x, .int .i64 y] 76)) := (Below.refl _ _).alloc (Nat.le_refl _) _
  have hba : Blk (w0.alloc (.cells #[.int .i64 x, .int .i64 y] 76)) w0.heap.size #[.int .i64 x, .int .i64 y] 76 := Blk.new _ _ _
  go_wp2
  obtain ⟨w, hw⟩ : ∃ w, w0.alloc (.cells #[.int .i64 x, .int .i64 y] 76) = w := ⟨_, rfl⟩
  obtain ⟨g0, hg0⟩ : ∃ g, w0.heap.size = g := ⟨_, rfl⟩
  rw [hw] at hwa hba
  rw [hw, hg0]
  rw [hg0] at hba
  have HWA := Lib.hid hwa
  have HBA := Lib.hid hba
  have HT := Lib.hid (hT.below hwa)
  have HA : Hid (RowsAt w 1 (fun z => [Value.int .i64 z]) Q zs) := hA.below hwa
  have HA2 : Hid (RowsAt w 1 (fun z => [Value.int .i64 z]) Q2 ys) := hA2.below hwa
  have HGC : Hid (∀ W, Below w.heap.size w W → Below w.heap.size w W ∧ W.cell? ⟨g0, 0, none⟩ = some (.int .i64 x) ∧ W.cell? ⟨g0, 1, none⟩ = some (.int .i64 y)) := fun W hW => ⟨hW, (hW.cell (p := ⟨g0, 0, none⟩) HBA.out.lt).trans (HBA.out.cell rfl), (hW.cell (p := ⟨g0, 1, none⟩) HBA.out.lt).trans (HBA.out.cell rfl)⟩
  have hd0 : Below w.heap.size w w.drew := (Below.refl _ _).drew
  clear hwa hba hw hg0 hT hA hA2
  have HBG : Hid (∀ W, Below w.heap.size w W → Calls Tryd.prog 26 #[.int .i64 (N : Int), .int .i64 (N2 : Int)] W fun e w' => ∃ s a c b a2 c2, e = .returned (.tuple #[.pointer (some ⟨a, 0, none⟩), .pointer (some ⟨s, 0, none⟩), .pointer (some ⟨b, 0, none⟩)]) ∧ (w.heap.size ≤ s ∧ w.heap.size ≤ a ∧ w.heap.size ≤ c ∧ w.heap.size ≤ b ∧ w.heap.size ≤ a2 ∧ w.heap.size ≤ c2) ∧ Pb w' s a c N [] false false b a2 c2 N2 [] [] ∧ Below w.heap.size w w') := fun W hW => (beginP_c N N2 hN0.1 hN0.2 hN1.1 hN1.2 W).mono fun e w' ⟨s, a, c, b, a2, c2, he, hl, hp, hb⟩ => ⟨s, a, c, b, a2, c2, he, by have := hW.size; omega, hp, hW.trans (hb.mono hW.size)⟩
  have HS1 : Hid (∀ W, Below w.heap.size w W → Calls Tryd.prog 52 #[.int .i64 x] W fun e w' => e = .returned (.int .i64 (N : Int)) ∧ Below w.heap.size w w') := fun W hW => (HSX.out W).mono fun e w' ⟨he, hq⟩ => ⟨he, by rw [hq]; exact hW⟩
  have HS2 : Hid (∀ W, Below w.heap.size w W → Calls Tryd.prog 52 #[.int .i64 y] W fun e w' => e = .returned (.int .i64 (N2 : Int)) ∧ Below w.heap.size w w') := fun W hW => (HSY.out W).mono fun e w' ⟨he, hq⟩ => ⟨he, by rw [hq]; exact hW⟩
  go_region_held_law (fun W => Below w.heap.size w W ∧ W.cell? ⟨g0, 0, none⟩ = some (.int .i64 x) ∧ W.cell? ⟨g0, 1, none⟩ = some (.int .i64 y))
    (exact HGC.out _ (by assumption)) (first
    | (go_at_call 52; (with_reducible refine (HS1.out _ ?_).mono ?_); (go_split_ands; assumption); rintro e wa ⟨rfl, hba⟩)
    | (go_at_call 52; (with_reducible refine (HS2.out _ ?_).mono ?_); (go_split_ands; assumption); rintro e wb ⟨rfl, hbb⟩)
    | (go_at_call 26; (with_reducible refine (HBG.out _ ?_).mono ?_); (go_split_ands; assumption); rintro e w1 ⟨s, a, c, b, a2, c2, rfl, hl, hpb, hb1⟩))
  have HL := Lib.hid hl
  have HP1 := Lib.hid hpb
  have HW1 := Lib.hid hb1
  clear hl hpb hb1 hba hbb hd0
  have hfin : ∀ W, Below w.heap.size w W → Below w0.heap.size w0 W := fun W hW => HWA.out.trans (hW.mono HWA.out.size)
  have HFIN := Lib.hid hfin
  clear hfin
  go_wp2_with fail
  refine (aliveP w1 (HT.out.below HW1.out)).mono ?_
  rintro e w2 ⟨rfl, hb2⟩
  have HP2 := Lib.hid (HP1.out.below hb2)
  have HW2 : Hid (Below w.heap.size w w2) := HW1.out.trans (hb2.mono HW1.out.size)
  clear hb2
  have hend : ∀ W, Below w.heap.size w W → Calls Tryd.prog 23 #[] W fun e w' => e = .returned (.bool true) ∧ Below w.heap.size w w' := fun W hW => (aliveP W (HT.out.below hW)).mono fun e w' ⟨he, hb⟩ => ⟨he, hW.trans (hb.mono hW.size)⟩
  have HEND := Lib.hid hend
  clear hend
  by_cases hl2 : ys.length ≤ 200
  · have k2 : decide (200 < (ys.length : Int)) = false := by simp; omega
    by_cases hl1 : zs.length ≤ 100
    · have k1 : decide (100 < (zs.length : Int)) = false := by simp; omega
      go_wp2
      go_loopw [57] (fun i wr => R1 w s a c N b a2 c2 N2 zs.length i wr) (fun i _ => zs.length - (RowKit.intOf i).toNat)
      case atStart => exact ⟨0, [], rfl, by omega, HP2.out, HW2.out⟩
      case round =>
        obtain ⟨j, A, rfl, hj, hpb, hbw⟩ := hrel
        have HPJ := Lib.hid hpb
        have HBW := Lib.hid hbw
        clear hpb hbw
        by_cases hlt : j < zs.length
        · have k0 : (j : Int) < (zs.length : Int) := by omega
          obtain ⟨z, hz⟩ : ∃ z, zs[j]? = some z := ⟨_, List.getElem?_eq_getElem hlt⟩
          obtain ⟨g, off, rfl, hgl, hcell⟩ := HA.out (List.length_pos_iff.1 (by omega : 0 < zs.length))
          have q0 : wr.cell? ⟨g, off + j, none⟩ = some (.int .i64 z) := by rw [HBW.out.cell hgl]; exact num_cell hcell hz
          clear hz hgl hcell
          go_wp2_with fail
          refine (put_any z wr HPJ.out.ed).mono ?_
          rintro e w4 ⟨rfl, hed, hb⟩
          have HP4 := Lib.hid (HPJ.out.buffer hed hb)
          have HW4 : Hid (Below w.heap.size w w4) := HBW.out.trans (hb.below HBW.out.size (by have := HL.out; simp; omega))
          clear hed hb
          go_wp2
          go_roundw
          case rel => exact ⟨j + 1, _, by go_num, by omega, HP4.out, HW4.out⟩
          case measure => simp [RowKit.intOf]; omega
        · have hge : decide ((j : Int) < (zs.length : Int)) = false := by simp; omega
          have hge' : decide (j < zs.length) = false := by simp; omega
          clear hlt
          go_wp2_with fail
          refine (do_any 4 0 wr HPJ.out.ed).mono ?_
          rintro e w4 ⟨rfl, hed, hb⟩
          obtain ⟨A4, hA4⟩ : ∃ A', (doE N2 4 0 A []).1 = A' := ⟨_, rfl⟩
          obtain ⟨B4, hB4⟩ : ∃ B', (doE N2 4 0 A []).2.1 = B' := ⟨_, rfl⟩
          rw [hA4, hB4] at hed
          have HP4 := Lib.hid (HPJ.out.buffer hed hb)
          have HW4 : Hid (Below w.heap.size w w4) := HBW.out.trans (hb.below HBW.out.size (by have := HL.out; simp; omega))
          clear hed hb hA4 hB4
          generalize (doE N2 4 0 A []).2.2.1 = zb
          generalize (doE N2 4 0 A []).2.2.2 = ze
          obtain ⟨t0, ht0⟩ : ∃ t, encs A4 ++ encs B4 = t := ⟨_, rfl⟩
          obtain ⟨p0, hp0⟩ : ∃ p, A4.length = p := ⟨_, rfl⟩
          have htx := textP_c w4 HP4.out.ed.buf
          rw [ht0] at htx
          have HTX := Lib.hid htx
          have HT0 := Lib.hid ht0
          have HP0 := Lib.hid hp0
          clear htx ht0 hp0
          go_wp2_with fail
          refine (HTX.out).mono ?_
          rintro e w5 ⟨rfl, hb5⟩
          have HP5 := Lib.hid (HP4.out.below hb5)
          have HW5 : Hid (Below w.heap.size w w5) := HW4.out.trans (hb5.mono HW4.out.size)
          have hat := at_e w5 HP5.out.ed
          rw [HP0.out] at hat
          have HAT := Lib.hid hat
          clear hb5 hat
          go_wp2_with (go_at_call 36; refine (HAT.out).mono ?_; rintro e w6 ⟨rfl, hq⟩; obtain rfl := hq.symm)
          refine (start_any _ HP5.out.sg).mono ?_
          rintro e w6 ⟨rfl, hsg, hb⟩
          have HP6 : Hid (Pb w6 s a c N [] true (!true) b a2 c2 N2 A4 B4) := HP5.out.stage hsg hb
          have HW6 : Hid (Below w.heap.size w w6) := HW5.out.trans (hb.below HW5.out.size (by have := HL.out; simp; omega))
          clear hsg hb
          go_wp2_with fail
          rw [str_nil]
          go_loopw [14, 15, 77] (fun want al i wx => R2 w s a c N b a2 c2 N2 ys.length A4 B4 want al i wx) (fun _ _ i _ => ys.length - (RowKit.intOf i).toNat)
          case atStart => exact ⟨0, [], [], true, rfl, rfl, rfl, by omega, by simp, by intro y hy; simp at hy, fun _ => ⟨rfl, by simp [encs_nil]⟩, by simp, HP6.out, HW6.out⟩
          case round =>
            obtain ⟨j2, M, L, o, rfl, rfl, rfl, hj2, hMj, hMp, hot, hof, hpb, hbw⟩ := hrel
            have HPK := Lib.hid hpb
            have HBW2 := Lib.hid hbw
            have HMP := Lib.hid hMp
            have HO := Lib.hid (And.intro hot hof)
            clear hpb hbw hMp hot hof
            obtain ⟨m, hmm⟩ : ∃ t, encs M = t := ⟨_, rfl⟩
            have hml : m.length ≤ 4 * j2 := by
              have := flatMap_le M
              rw [← hmm]; unfold encs; omega
            rw [hmm] at HO ⊢
            have HM := Lib.hid hmm
            clear hmm
            by_cases hlt2 : j2 < ys.length
            · have k3 : (j2 : Int) < (ys.length : Int) := by omega
              obtain ⟨z, hz⟩ : ∃ z, ys[j2]? = some z := ⟨_, List.getElem?_eq_getElem hlt2⟩
              obtain ⟨g, off, rfl, hgl, hcell⟩ := HA2.out (List.length_pos_iff.1 (by omega : 0 < ys.length))
              have q0 : wr.cell? ⟨g, off + j2, none⟩ = some (.int .i64 z) := by rw [HBW2.out.cell hgl]; exact num_cell hcell hz
              have hel := (enc_length z).2
              clear hz hgl hcell
              have hpz := printable z wr
              cases hp : printC z
              · rw [hp] at hpz
                have HPZ := Lib.hid hpz
                have hae : addE N z L true (!o) = (2, L, !o) := by unfold addE; rw [if_pos rfl, hp]; rfl
                have HAE := Lib.hid hae
                clear hpz hp hae
                go_wp2_with fail
                refine (HPZ.out).mono ?_
                rintro e w7 ⟨rfl, hb7⟩
                have HP7 := Lib.hid (HPK.out.below hb7)
                have HW7 : Hid (Below w.heap.size w w7) := HBW2.out.trans (hb7.mono HBW2.out.size)
                have hadd := add_any z w7 HP7.out.sg
                rw [HAE.out] at hadd
                have HADD := Lib.hid hadd
                clear hb7 hadd
                go_wp2_with fail
                refine (HADD.out).mono ?_
                rintro e w8 ⟨rfl, hsg, hb⟩
                have HP8 := Lib.hid (HP7.out.stage hsg hb)
                have HW8 : Hid (Below w.heap.size w w8) := HW7.out.trans (hb.below HW7.out.size (by have := HL.out; simp; omega))
                clear hsg hb
                go_wp2
                go_roundw
                case rel => exact ⟨j2 + 1, M, L, o, by rw [HM.out], rfl, by go_num, by omega, by omega, HMP.out, by rw [HM.out]; exact HO.out.1, by rw [HM.out]; exact HO.out.2, HP8.out, HW8.out⟩
                case measure => simp [RowKit.intOf]; omega
              · rw [hp] at hpz
                have HPZ := Lib.hid hpz
                have hMz : AllPrint (M ++ [z]) := by
                  intro q hq
                  rcases List.mem_append.1 hq with hq | hq
                  · exact HMP.out q hq
                  · simp at hq; rw [hq]; exact hp
                have HMZ := Lib.hid hMz
                have hMl : (M ++ [z]).length ≤ j2 + 1 := by rw [List.length_append, List.length_singleton]; omega
                have HML := Lib.hid hMl
                obtain ⟨ez, hez⟩ : ∃ l, enc z = l := ⟨_, rfl⟩
                have hrp : ∀ W, Calls Tryd.prog 28 #[.int .i64 z] W fun e w' => ∃ A' cap', e = .returned (.slice A' ez.length cap') ∧ BytesAt w' A' ez ∧ Below W.heap.size W w' := fun W => by
                  have := refPut_s z W hp
                  rwa [hez] at this
                rw [hez] at hel
                have HRP := Lib.hid hrp
                have henc : encs (M ++ [z]) = m ++ ez := by rw [encs_append, encs_one, HM.out, hez]
                have HENC := Lib.hid henc
                -- the answer of Add, and what is over
                have hadd : ∃ er L' o', addE N z L true (!o) = (er, L', !o') ∧ (o = true → o' = true → er = 0) ∧ ((er = 0) = (o = true ∧ o' = true)) ∧ (o' = true → o = true) ∧ (o' = true → L' = M ++ [z] ∧ (m ++ ez).length ≤ N) ∧ (o' = false → N < (m ++ ez).length) := by
                  cases o
                  · refine ⟨4, L, false, ?_, by simp, by simp, by simp, by simp, fun _ => ?_⟩
                    · unfold addE; rw [if_pos rfl, hp]; rfl
                    · have := HO.out.2 rfl
                      rw [List.length_append]; omega
                  · obtain ⟨hLM, hfit⟩ := HO.out.1 rfl
                    by_cases hf : (encs L).length + (enc z).length ≤ N
                    · refine ⟨0, L ++ [z], true, ?_, by simp, by simp, by simp, fun _ => ⟨by rw [hLM], ?_⟩, by simp⟩
                      · unfold addE; rw [if_pos rfl, hp, if_pos rfl, if_neg (by simp), if_pos hf]; rfl
                      · rw [hLM, HM.out, hez] at hf; rw [List.length_append]; exact hf
                    · refine ⟨4, L, false, ?_, by simp, by simp, by simp, by simp, fun _ => ?_⟩
                      · unfold addE; rw [if_pos rfl, hp, if_pos rfl, if_neg (by simp), if_neg hf]; rfl
                      · rw [hLM, HM.out, hez] at hf; rw [List.length_append]; omega
                obtain ⟨er, L', o', hae, _, h2, h3, h4, h5⟩ := hadd
                have HAE := Lib.hid hae
                have H45 := Lib.hid (And.intro h4 h5)
                clear hpz hp hMz hMl hez hrp henc hae h4 h5
                go_wp2_with fail
                refine (HPZ.out).mono ?_
                rintro e w7 ⟨rfl, hb7⟩
                have HP7 := Lib.hid (HPK.out.below hb7)
                have HW7 : Hid (Below w.heap.size w w7) := HBW2.out.trans (hb7.mono HBW2.out.size)
                clear hb7
                go_wp2_with fail
                refine (HRP.out w7).mono ?_
                rintro e w8 ⟨A8, cap8, rfl, hA8, hb8⟩
                have HP8 := Lib.hid (HP7.out.below hb8)
                have HW8 : Hid (Below w.heap.size w w8) := HW7.out.trans (hb8.mono HW7.out.size)
                have hadd := add_any z w8 HP8.out.sg
                rw [HAE.out] at hadd
                have HADD := Lib.hid hadd
                clear hb8 hadd
                rcases (show (o = true ∧ o' = true ∧ er = 0) ∨ (o' = false ∧ er ≠ 0) from by
                  cases o' with
                  | false => right; refine ⟨rfl, fun e => ?_⟩; rw [e] at h2; simp at h2
                  | true => left; have := h3 rfl; exact ⟨this, rfl, h2.mpr ⟨this, rfl⟩⟩) with ⟨rfl, rfl, rfl⟩ | ⟨rfl, he0⟩
                · clear h2 h3
                  go_wp2_with fail
                  refine (HADD.out).mono ?_
                  rintro e w9 ⟨rfl, hsg, hb⟩
                  have HP9 := Lib.hid (HP8.out.stage hsg hb)
                  have HW9 : Hid (Below w.heap.size w w9) := HW8.out.trans (hb.below HW8.out.size (by have := HL.out; simp; omega))
                  clear hsg hb
                  go_wp2
                  go_roundw
                  case rel => exact ⟨j2 + 1, M ++ [z], L', true, by rw [HENC.out], rfl, by go_num, by omega, HML.out, HMZ.out, (by rw [HENC.out]; exact fun h => (by first | exact H45.out.1 h | exact H45.out.1 trivial | cases h)), (by rw [HENC.out]; exact fun h => (by first | exact H45.out.2 h | exact H45.out.2 trivial | cases h)), HP9.out, HW9.out⟩
                  case measure => simp [RowKit.intOf]; omega
                · have k4 : (er == 0) = false := by simpa using he0
                  clear h2 h3 he0
                  go_wp2_with fail
                  refine (HADD.out).mono ?_
                  rintro e w9 ⟨rfl, hsg, hb⟩
                  have HP9 := Lib.hid (HP8.out.stage hsg hb)
                  have HW9 : Hid (Below w.heap.size w w9) := HW8.out.trans (hb.below HW8.out.size (by have := HL.out; simp; omega))
                  clear hsg hb
                  go_wp2
                  go_roundw
                  case rel => exact ⟨j2 + 1, M ++ [z], L', false, by rw [HENC.out], rfl, by go_num, by omega, HML.out, HMZ.out, (by rw [HENC.out]; exact fun h => (by first | exact H45.out.1 h | exact H45.out.1 trivial | cases h)), (by rw [HENC.out]; exact fun h => (by first | exact H45.out.2 h | exact H45.out.2 trivial | cases h)), HP9.out, HW9.out⟩
                  case measure => simp [RowKit.intOf]; omega
            · have hge2 : decide ((j2 : Int) < (ys.length : Int)) = false := by simp; omega
              have hge2' : decide (j2 < ys.length) = false := by simp; omega
              clear hlt2
              have hA4l := encs_len A4
              have hcase : ∃ er A5, endE N2 L true (!o) A4 B4 = (er, A5) ∧ ((o = true ∧ t0.length + m.length ≤ N2 ∧ er = 0 ∧ A5 = A4 ++ M) ∨ (o = true ∧ N2 < t0.length + m.length ∧ er = 4 ∧ A5 = A4) ∨ (o = false ∧ er = 4 ∧ A5 = A4)) := by
                cases o
                · exact ⟨4, A4, rfl, Or.inr (Or.inr ⟨rfl, rfl, rfl⟩)⟩
                · obtain ⟨hLM, _⟩ := HO.out.1 rfl
                  by_cases hf : t0.length + m.length ≤ N2
                  · refine ⟨0, A4 ++ M, ?_, Or.inl ⟨rfl, hf, rfl, rfl⟩⟩
                    unfold endE
                    rw [if_pos rfl, if_neg (by simp), hLM, HM.out, HT0.out, if_pos hf]
                  · refine ⟨4, A4, ?_, Or.inr (Or.inl ⟨rfl, by omega, rfl, rfl⟩)⟩
                    unfold endE
                    rw [if_pos rfl, if_neg (by simp), hLM, HM.out, HT0.out, if_neg hf]
              obtain ⟨er, A5, hee, hcase⟩ := hcase
              have hen := end_any wr (HT.out.below HBW2.out) HPK.out
              rw [hee] at hen
              have HEN := Lib.hid hen
              have HCASE := Lib.hid hcase
              have hmo : decide ((m.length : Int) ≤ (N : Int)) = o := by
                cases o
                · have := HO.out.2 rfl; simp; omega
                · have := (HO.out.1 rfl).2; simp; omega
              have HMO := Lib.hid hmo
              clear hee hcase hen hmo hA4l
              go_wp2_with fail
              refine (HEN.out).mono ?_
              rintro e w7 ⟨rfl, hpb, hb⟩
              have HP7 : Hid (Pb w7 s a c N [] false false b a2 c2 N2 A5 B4) := hpb
              have HW7 : Hid (Below w.heap.size w w7) := HBW2.out.trans (hb.below HBW2.out.size (by have := HL.out; simp; omega))
              obtain ⟨_, x0, x1⟩ := HGC.out w7 HW7.out
              clear hpb hb
              go_wp2_with (go_at_call 52; refine (HSX.out _).mono ?_; rintro e w8 ⟨rfl, hq⟩; obtain rfl := hq.symm)
              have hN0' := hN0
              go_loopw [107] (fun i wz => ∃ k : Nat, i = .int .i64 (k : Int) ∧ k ≤ N ∧ wz = w7) (fun i _ => N - (RowKit.intOf i).toNat)
              case atStart => exact ⟨0, rfl, by omega, rfl⟩
              case round =>
                obtain ⟨k, rfl, hk, hwz⟩ := hrel
                obtain rfl := hwz.symm
                by_cases hkN : k < N
                · have k5 : (k : Int) < (N : Int) := by omega
                  have HCL := Lib.hid (cell_pad k w7 HP7.out.sg.st.ar (by simp [encs_nil]) hkN)
                  go_wp2_with (go_at_call 51; refine (HCL.out).mono ?_; rintro e w8 ⟨rfl, hq⟩; obtain rfl := hq.symm)
                  go_roundw
                  case rel => exact ⟨k + 1, by go_num, by omega, by first | rfl | trivial⟩
                  case measure => simp [RowKit.intOf]; omega
                · have hge3 : decide ((k : Int) < (N : Int)) = false := by simp; omega
                  have hge3' : decide (k < N) = false := by simp; omega
                  clear hkN
                  have hmo := HMO.out
                  rcases HCASE.out with ⟨rfl, hf, rfl, rfl⟩ | ⟨rfl, hf, rfl, rfl⟩ | ⟨rfl, rfl, rfl⟩
                  · have t1 : decide ((t0.length : Int) + (m.length : Int) ≤ (N2 : Int)) = true := by simp; omega
                    have t1' : decide (t0.length + m.length ≤ N2) = true := by simp; omega
                    have t2 : decide (m.length ≤ N) = true := by have := hmo; simp at this ⊢; omega
                    obtain ⟨w8, g8, cap8, hcv, hc8, hby8, _, hb8⟩ := conv_named w7 t0
                    have hch : chars t0 = A4 ++ B4 := by
                      have := chars_encs [] (A4 ++ B4) (AllPrint.fine HP4.out.ed.pr)
                      rw [List.append_nil, chars_nil, List.append_nil] at this
                      rw [← HT0.out, ← encs_append]
                      exact this
                    have ht0l : t0.length ≤ 4096 := by have := hN1.2; omega
                    have hrc := refChars t0 (some ⟨g8, 0, none⟩) cap8 w8 hby8 hc8 (by omega)
                    rw [hch] at hrc
                    have HRC := Lib.hid hrc
                    have HP8 := Lib.hid (HP7.out.below hb8)
                    have HW8 : Hid (Below w.heap.size w w8) := HW7.out.trans (hb8.mono HW7.out.size)
                    obtain ⟨_, y0, y1⟩ := HGC.out w8 HW8.out
                    clear hby8 hb8 hch hrc
                    go_wp2_with (first
                      | (go_at_call 52; (with_reducible refine (HSX.out _).mono ?_); rintro e w9 ⟨rfl, hq⟩; obtain rfl := hq.symm)
                      | (go_at_call 52; (with_reducible refine (HSY.out _).mono ?_); rintro e w9 ⟨rfl, hq⟩; obtain rfl := hq.symm)
                      | fail)
                    refine (HRC.out).mono ?_
                    rintro e w9 ⟨v9, rfl, hown9, hb9⟩
                    obtain ⟨Ac, capc, rfl, hlc, hat9, _, _⟩ := hown9.form
                    have HP9 := Lib.hid (HP8.out.below hb9)
                    have HW9 : Hid (Below w.heap.size w w9) := HW8.out.trans (hb9.mono HW8.out.size)
                    have hp0c : (p0 : Int) ≤ (capc : Int) := by
                      rw [List.length_append, HP0.out] at hlc; omega
                    have hrb := refBytes A4 Ac capc w9 (cells_left hat9) (by have := encs_len A4; have := HT0.out; rw [HP0.out]; have h3 := congrArg List.length this; rw [List.length_append] at h3; rw [HP0.out] at *; omega) (fun c hc => AllPrint.fine HP4.out.ed.pr c (by simp [hc]))
                    rw [HP0.out] at hrb
                    obtain ⟨k0, hk0⟩ : ∃ k0, (encs A4).length = k0 := ⟨_, rfl⟩
                    have hrb' : Calls Tryd.prog 54 #[.slice Ac p0 capc] w9 fun e w' => ∃ Ab capb, e = .returned (.slice Ab k0 capb) ∧ Below w9.heap.size w9 w' := hrb.mono fun e w' ⟨v, he, ho, hb⟩ => by
                      obtain ⟨Ab, capb, rfl, _⟩ := ho.form
                      exact ⟨Ab, capb, by rw [he, ← hk0]; rfl, hb⟩
                    have HRB := Lib.hid hrb'
                    have HK0 := Lib.hid hk0
                    obtain ⟨nn, hnn⟩ : ∃ nn, (A4 ++ B4).length = nn := ⟨_, rfl⟩
                    rw [hnn]
                    clear hown9 hb9 hlc hat9 hrb hrb' hk0 hnn
                    go_wp2_with fail
                    refine (HRB.out).mono ?_
                    rintro e w10 ⟨Ab, capb, rfl, hb10⟩
                    have HP10 := Lib.hid (HP9.out.below hb10)
                    have HW10 : Hid (Below w.heap.size w w10) := HW9.out.trans (hb10.mono HW9.out.size)
                    clear hb10
                    have htx := textP_c w10.drew (⟨HP10.out.ed.buf.head, Ar.drew HP10.out.ed.buf.ar, HP10.out.ed.buf.ba, HP10.out.ed.buf.bc, HP10.out.ed.buf.le⟩)
                    have hk0t : k0 ≤ t0.length := by rw [← HK0.out, ← HT0.out, List.length_append]; omega
                    have k8 : (k0 : Int) ≤ (t0.length : Int) := by omega
                    obtain ⟨u4, hu4⟩ : ∃ u, encs A4 = u := ⟨_, rfl⟩
                    obtain ⟨v4, hv4⟩ : ∃ v, encs B4 = v := ⟨_, rfl⟩
                    have ht0' := HT0.out
                    have hk0' := HK0.out
                    rw [hu4, hv4] at ht0'
                    rw [hu4] at hk0'
                    have e1 : (Utf.strOf t0).extract 0 k0 = Utf.strOf u4 := by rw [strOf_extract, List.drop_zero, Nat.sub_zero, ← ht0', ← hk0', List.take_left]
                    have e2 : (Utf.strOf t0).extract k0 t0.length = Utf.strOf v4 := by rw [strOf_extract, ← ht0', ← hk0', List.drop_left, List.length_append, Nat.add_sub_cancel_left, List.take_length]
                    rw [encs_append, hu4, hv4, HM.out] at htx
                    have HTX2 := Lib.hid htx
                    have hsz : (Utf.strOf t0).size = t0.length := by first | exact strOf_size t0 | exact Utf.strOf_size t0 | simp
                    have hs1 := fun wx => slice_upto (P := Tryd.prog) 9 Tryd.underlying9 (Utf.strOf t0) (Utf.strOf u4) k0 (by rw [hsz]; exact hk0t) e1 wx
                    have hs2 := fun wx => slice_from (P := Tryd.prog) 9 Tryd.underlying9 (Utf.strOf t0) (Utf.strOf v4) k0 (by rw [hsz]; exact hk0t) (by rw [hsz]; exact e2) wx
                    have hl4 := congrArg List.length ht0'
                    rw [List.length_append] at hl4
                    have bu : u4.length ≤ 4096 := by omega
                    have bv : v4.length ≤ 4096 := by omega
                    have bm : m.length ≤ 4096 := by have := hN1.2; have := t1'; simp at this; omega
                    clear htx hu4 hv4 ht0' hk0' e1 e2 hsz hl4
                    go_wp2_with fail
                    go_region_with (go_at_call 29; refine (HTX2.out).mono ?_; rintro e w11 ⟨rfl, hb11⟩)
                    all_goals
                      go_wp2
                      go_ret
                      exact ⟨rfl, HFIN.out _ (HW10.out.drew.trans (hb11.mono HW10.out.size))⟩
                  · have t1 : decide ((t0.length : Int) + (m.length : Int) ≤ (N2 : Int)) = false := by simp; omega
                    have t1' : decide (t0.length + m.length ≤ N2) = false := by simp; omega
                    have t2 : decide (m.length ≤ N) = true := by have := hmo; simp at this ⊢; omega
                    have htx := textP_c w7 HP7.out.ed.buf
                    have hb1 := HP7.out.ed.buf.ar.fit
                    have hb2 := hN0.2
                    have hb3 := hN1.2
                    rw [HT0.out] at htx hb1
                    have b1 : t0.length ≤ 4096 := by omega
                    have b2 : m.length ≤ 4096 := by have := hmo; simp at this; omega
                    have HTX2 := Lib.hid htx
                    clear htx hb1 hb2 hb3
                    go_wp2_with (first
                      | (go_at_call 52; (with_reducible refine (HSX.out _).mono ?_); rintro e w9 ⟨rfl, hq⟩; obtain rfl := hq.symm)
                      | (go_at_call 52; (with_reducible refine (HSY.out _).mono ?_); rintro e w9 ⟨rfl, hq⟩; obtain rfl := hq.symm)
                      | fail)
                    refine (HTX2.out).mono ?_
                    rintro e w9 ⟨rfl, hb9⟩
                    have HP9 := Lib.hid (HP7.out.below hb9)
                    have HW9 : Hid (Below w.heap.size w w9) := HW7.out.trans (hb9.mono HW7.out.size)
                    have hat := at_e w9 HP9.out.ed
                    rw [HP0.out] at hat
                    have HAT2 := Lib.hid hat
                    clear hb9 hat
                    go_wp2_with (go_at_call 36; refine (HAT2.out).mono ?_; rintro e w10 ⟨rfl, hq⟩; obtain rfl := hq.symm)
                    go_ret
                    exact ⟨rfl, HFIN.out _ HW9.out⟩
                  · have t2 : decide (m.length ≤ N) = false := by have := hmo; simp at this ⊢; omega
                    have htx := textP_c w7 HP7.out.ed.buf
                    rw [HT0.out] at htx
                    have HTX2 := Lib.hid htx
                    clear htx
                    go_wp2_with (first
                      | (go_at_call 52; (with_reducible refine (HSX.out _).mono ?_); rintro e w9 ⟨rfl, hq⟩; obtain rfl := hq.symm)
                      | (go_at_call 52; (with_reducible refine (HSY.out _).mono ?_); rintro e w9 ⟨rfl, hq⟩; obtain rfl := hq.symm)
                      | fail)
                    refine (HTX2.out).mono ?_
                    rintro e w9 ⟨rfl, hb9⟩
                    have HP9 := Lib.hid (HP7.out.below hb9)
                    have HW9 : Hid (Below w.heap.size w w9) := HW7.out.trans (hb9.mono HW7.out.size)
                    have hat := at_e w9 HP9.out.ed
                    rw [HP0.out] at hat
                    have HAT2 := Lib.hid hat
                    clear hb9 hat
                    go_wp2_with (go_at_call 36; refine (HAT2.out).mono ?_; rintro e w10 ⟨rfl, hq⟩; obtain rfl := hq.symm)
                    go_ret
                    exact ⟨rfl, HFIN.out _ HW9.out⟩
    · have k1 : decide (100 < (zs.length : Int)) = true := by simp; omega
      go_wp2_with fail
      refine (HEND.out _ HW2.out).mono ?_
      rintro e w5 ⟨rfl, hb5⟩
      go_wp2
      go_ret
      exact ⟨rfl, HFIN.out _ hb5⟩
  · have k2 : decide (200 < (ys.length : Int)) = true := by simp; omega
    go_wp2_with fail
    refine (HEND.out _ HW2.out).mono ?_
    rintro e w5 ⟨rfl, hb5⟩
    go_wp2
    go_ret
    exact ⟨rfl, HFIN.out _ hb5⟩

end Go.Proofs.YtbkpnffgihjikaaDoor.PasteWhole

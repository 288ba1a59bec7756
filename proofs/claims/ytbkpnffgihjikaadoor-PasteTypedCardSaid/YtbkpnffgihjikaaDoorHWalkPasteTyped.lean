/- PasteTyped, the walk: a paste is what its characters are, typed one by one at that place. -/
import Derived.Test.YtbkpnffgihjikaaDoorGA
import Derived.Test.YtbkpnffgihjikaaDoorGP
set_option linter.unusedVariables false
set_option linter.unusedSimpArgs false
namespace Go.Proofs.YtbkpnffgihjikaaDoor.PasteTyped
open Go.RowKit Go.Lib Go.Shelf ChangeShapes Mem Utf UtfP Edit Law

attribute [local go_sem] strOf_toList strOf_append strOf_size
attribute [local go_sem ↓] conv_str

theorem encs_len4 (cs : List Int) : (encs cs).length ≤ 4 * cs.length := by
  induction cs with
  | nil => simp [encs_nil]
  | cons x cs ih =>
    have := (enc_length x).2
    rw [encs_cons, List.length_append, List.length_cons]; omega

/-- a stage, a buffer, and another buffer behind them -/
structure Tr (w : World) (s a c b a2 c2 b3 a3 c3 : Nat) (L : List Int) (bg ov : Bool) (A B C D : List Int) : Prop where
  pb : Pb w s a c 500 L bg ov b a2 c2 900 A B
  e3 : Ed w b3 a3 c3 900 C D
  ap : ∃ m, (s < m ∧ a < m ∧ c < m ∧ b < m ∧ a2 < m ∧ c2 < m) ∧ (m ≤ b3 ∧ m ≤ a3 ∧ m ≤ c3)

section
variable {w w' : World} {s a c b a2 c2 b3 a3 c3 : Nat} {L L' A B C D A' B' C' D' : List Int} {bg ov bg' ov' : Bool}
theorem Tr.below (h : Tr w s a c b a2 c2 b3 a3 c3 L bg ov A B C D) (hb : Below w.heap.size w w') : Tr w' s a c b a2 c2 b3 a3 c3 L bg ov A B C D :=
  ⟨h.pb.below hb, h.e3.but (But.of_below (S := []) hb) (by simp) (by simp) (by simp), h.ap⟩
theorem Tr.stage (h : Tr w s a c b a2 c2 b3 a3 c3 L bg ov A B C D) (hs : Stg w' s a c 500 L' bg' ov') (hb : But [s, a, c] w w') : Tr w' s a c b a2 c2 b3 a3 c3 L' bg' ov' A B C D := by
  obtain ⟨m, h1, h2⟩ := h.ap
  exact ⟨h.pb.stage hs hb, h.e3.but hb (by simp; omega) (by simp; omega) (by simp; omega), h.ap⟩
theorem Tr.buf (h : Tr w s a c b a2 c2 b3 a3 c3 L bg ov A B C D) (he : Ed w' b a2 c2 900 A' B') (hb : But [b, a2, c2] w w') : Tr w' s a c b a2 c2 b3 a3 c3 L bg ov A' B' C D := by
  obtain ⟨m, h1, h2⟩ := h.ap
  exact ⟨h.pb.buffer he hb, h.e3.but hb (by simp; omega) (by simp; omega) (by simp; omega), h.ap⟩
theorem Tr.end' (h : Tr w s a c b a2 c2 b3 a3 c3 L bg ov A B C D) (hp : Pb w' s a c 500 L' bg' ov' b a2 c2 900 A' B') (hb : But [s, a, c, b, a2, c2] w w') : Tr w' s a c b a2 c2 b3 a3 c3 L' bg' ov' A' B' C D := by
  obtain ⟨m, h1, h2⟩ := h.ap
  exact ⟨hp, h.e3.but hb (by simp; omega) (by simp; omega) (by simp; omega), h.ap⟩
theorem Tr.third (h : Tr w s a c b a2 c2 b3 a3 c3 L bg ov A B C D) (he : Ed w' b3 a3 c3 900 C' D') (hb : But [b3, a3, c3] w w') : Tr w' s a c b a2 c2 b3 a3 c3 L bg ov A B C' D' := by
  obtain ⟨m, h1, h2⟩ := h.ap
  exact ⟨⟨h.pb.sg.but hb (by simp; omega) (by simp; omega) (by simp; omega), h.pb.ed.but hb (by simp; omega) (by simp; omega) (by simp; omega), h.pb.ap⟩, he, h.ap⟩
end

def R1 (w : World) (s a c b a2 c2 b3 a3 c3 n : Nat) (i : Value) (wr : World) : Prop :=
  ∃ (j : Nat) (A : List Int), i = .int .i64 (j : Int) ∧ j ≤ n ∧ A.length ≤ j ∧ Tr wr s a c b a2 c2 b3 a3 c3 [] false false A [] A [] ∧ Below w.heap.size w wr
def R2 (w : World) (s a c b a2 c2 b3 a3 c3 k : Nat) (i : Value) (wr : World) : Prop :=
  ∃ (j : Nat) (A B : List Int), i = .int .u8 (j : Int) ∧ j ≤ k ∧ A.length + B.length ≤ 60 ∧ Tr wr s a c b a2 c2 b3 a3 c3 [] false false A B A B ∧ Below w.heap.size w wr
def R3 (w : World) (s a c b a2 c2 b3 a3 c3 n : Nat) (A B : List Int) (i : Value) (wr : World) : Prop :=
  ∃ (j : Nat) (L : List Int), i = .int .i64 (j : Int) ∧ j ≤ n ∧ L.length ≤ j ∧ Tr wr s a c b a2 c2 b3 a3 c3 L true false A B (A ++ L) B ∧ Below w.heap.size w wr

theorem doLeft (A B : List Int) : doE 900 4 0 A B = (A.dropLast, A.drop (A.length - 1) ++ B, chg A B (A.dropLast, A.drop (A.length - 1) ++ B), 0) := rfl
theorem left_len (A B : List Int) : A.dropLast.length + (A.drop (A.length - 1) ++ B).length = A.length + B.length := by
  rw [List.length_dropLast, List.length_append, List.length_drop]; omega
theorem rune_len (N : Nat) (x : Int) (A B : List Int) : (runeE N x A B).2.length ≤ A.length + 1 := by
  unfold runeE
  split
  · split <;> simp
  · simp

set_option maxRecDepth 200000 in
set_option maxHeartbeats 4000000 in
theorem walk (zs : List Int) (Q : Option Addr) (cap : Nat) (ys : List Int) (Q2 : Option Addr) (cap2 : Nat) (x : Int) (w : World) (hT : Tabs w) (hA : RowsAt w 1 (fun z => [Value.int .i64 z]) Q zs) (hcap : zs.length ≤ cap) (hm : zs.length ≤ 17592186044416) (_ : ∀ z ∈ zs, (Lit.int .i64 z).wf = true) (hA2 : RowsAt w 1 (fun z => [Value.int .i64 z]) Q2 ys) (hcap2 : ys.length ≤ cap2) (hm2 : ys.length ≤ 17592186044416) (_ : ∀ z ∈ ys, (Lit.int .i64 z).wf = true) (wx : (Lit.int .u8 x).wf = true) :
    Calls Tryd.prog 12 #[.slice Q zs.length cap, .slice Q2 ys.length cap2, .int .u8 x] w fun e w' => e = .returned (.bool true) ∧ Below w.heap.size w w' := by
  have HT := Lib.hid hT
  have HA := Lib.hid hA
  have HA2 := Lib.hid hA2
  obtain ⟨hx0, hx1⟩ := wf_u8 wx
  clear hT hA hA2 wx
  have H0 := Lib.hid (fun W => beginP_c 500 900 (by decide) (by decide) (by decide) (by decide) W)
  go_enter Tryd.func12, Tryd.ntmps12
  go_wp2_with fail
  refine (H0.out _).mono ?_
  rintro e w1 ⟨s, a, c, b, a2, c2, rfl, hl, hpb, hb1⟩
  have HL := Lib.hid hl
  have HP1 := Lib.hid hpb
  have HW1 := Lib.hid hb1
  clear hl hpb hb1
  go_wp2_with fail
  refine (H0.out _).mono ?_
  rintro e w2 ⟨s3, a33, c33, b3, a3, c3, rfl, hl, hpb, hb2⟩
  have HL3 : Hid (w1.heap.size ≤ b3 ∧ w1.heap.size ≤ a3 ∧ w1.heap.size ≤ c3) := ⟨hl.2.2.2.1, hl.2.2.2.2.1, hl.2.2.2.2.2⟩
  have HLW : Hid (w.heap.size ≤ b3 ∧ w.heap.size ≤ a3 ∧ w.heap.size ≤ c3) := by
    have := HW1.out.size
    have := HL3.out
    unfold Hid
    omega
  have HT2 : Hid (Tr w2 s a c b a2 c2 b3 a3 c3 [] false false [] [] [] []) := by
    refine ⟨HP1.out.below hb2, hpb.ed, w1.heap.size, ?_, HL3.out⟩
    have h1 := HP1.out.sg.st.head.lt
    have h2 := HP1.out.sg.st.ar.head.lt
    have h3 := HP1.out.sg.st.ar.body.lt
    have h4 := HP1.out.ed.buf.head.lt
    have h5 := HP1.out.ed.buf.ar.head.lt
    have h6 := HP1.out.ed.buf.ar.body.lt
    exact ⟨h1, h2, h3, h4, h5, h6⟩
  have HW2 : Hid (Below w.heap.size w w2) := HW1.out.trans (hb2.mono HW1.out.size)
  clear hl hpb hb2
  go_wp2_with fail
  refine (aliveP w2 (HT.out.below HW2.out)).mono ?_
  rintro e w3 ⟨rfl, hb3⟩
  have HT3 := Lib.hid (HT2.out.below hb3)
  have HW3 : Hid (Below w.heap.size w w3) := HW2.out.trans (hb3.mono HW2.out.size)
  clear hb3
  have hend : ∀ W, Below w.heap.size w W → Calls Tryd.prog 23 #[] W fun e w' => e = .returned (.bool true) ∧ Below w.heap.size w w' := fun W hW => (aliveP W (HT.out.below hW)).mono fun e w' ⟨he, hb⟩ => ⟨he, hW.trans (hb.mono hW.size)⟩
  have HEND := Lib.hid hend
  clear hend
  by_cases hl1 : zs.length ≤ 60
  · have k1 : decide (60 < (zs.length : Int)) = false := by simp; omega
    by_cases hl2 : ys.length ≤ 100
    · have k2 : decide (100 < (ys.length : Int)) = false := by simp; omega
      go_wp2
      go_loopw [56] (fun i wr => R1 w s a c b a2 c2 b3 a3 c3 zs.length i wr) (fun i _ => zs.length - (RowKit.intOf i).toNat)
      case atStart => exact ⟨0, [], rfl, by omega, by simp, HT3.out, HW3.out⟩
      case round =>
        obtain ⟨j, A, rfl, hj, hAj, htr, hbw⟩ := hrel
        have HTJ := Lib.hid htr
        have HBW := Lib.hid hbw
        clear htr hbw
        by_cases hlt : j < zs.length
        · have k0 : (j : Int) < (zs.length : Int) := by omega
          obtain ⟨z, hz⟩ : ∃ z, zs[j]? = some z := ⟨_, List.getElem?_eq_getElem hlt⟩
          obtain ⟨g, off, rfl, hgl, hcell⟩ := HA.out (List.length_pos_iff.1 (by omega : 0 < zs.length))
          have q0 : wr.cell? ⟨g, off + j, none⟩ = some (.int .i64 z) := by rw [HBW.out.cell hgl]; exact num_cell hcell hz
          have hAL := rune_len 900 z A []
          obtain ⟨A', hA'⟩ : ∃ A', (runeE 900 z A []).2 = A' := ⟨_, rfl⟩
          have hq1 := put_any z wr HTJ.out.pb.ed
          rw [hA'] at hq1 hAL
          have HQ1 := Lib.hid hq1
          have HA' := Lib.hid hA'
          clear hz hgl hcell hq1 hA'
          go_wp2_with fail
          refine (HQ1.out).mono ?_
          rintro e w4 ⟨rfl, hed, hb⟩
          have HT4 := Lib.hid (HTJ.out.buf hed hb)
          have HW4 : Hid (Below w.heap.size w w4) := HBW.out.trans (hb.below HBW.out.size (by have := HL.out; simp; omega))
          have hq2 := put_any z w4 HT4.out.e3
          rw [HA'.out] at hq2
          have HQ2 := Lib.hid hq2
          clear hed hb hq2
          go_wp2_with fail
          refine (HQ2.out).mono ?_
          rintro e w5 ⟨rfl, hed, hb⟩
          have HT5 := Lib.hid (HT4.out.third hed hb)
          have HW5 : Hid (Below w.heap.size w w5) := HW4.out.trans (hb.below HW4.out.size (by have := HLW.out; simp; omega))
          clear hed hb
          go_wp2
          go_roundw
          case rel => exact ⟨j + 1, A', by go_num, by omega, by omega, HT5.out, HW5.out⟩
          case measure => simp [RowKit.intOf]; omega
        · have hge : decide ((j : Int) < (zs.length : Int)) = false := by simp; omega
          have hge' : decide (j < zs.length) = false := by simp; omega
          have hA60 : A.length + ([] : List Int).length ≤ 60 := by simp; omega
          have HA60 := Lib.hid hA60
          clear hlt hA60
          obtain ⟨k, hk⟩ : ∃ k : Nat, x.tmod 20 = (k : Int) := ⟨(x.tmod 20).toNat, by rw [Int.tmod_eq_emod_of_nonneg hx0]; omega⟩
          have hk20 : k < 20 := by rw [Int.tmod_eq_emod_of_nonneg hx0] at hk; omega
          go_wp2
          go_loopw [69] (fun i wx => R2 w s a c b a2 c2 b3 a3 c3 k i wx) (fun i _ => k - (RowKit.intOf i).toNat)
          case atStart => exact ⟨0, A, [], rfl, by omega, HA60.out, HTJ.out, HBW.out⟩
          case round =>
            obtain ⟨j2, A2, B2, rfl, hj2, hAB2, htr, hbw⟩ := hrel
            have HTK := Lib.hid htr
            have HBW2 := Lib.hid hbw
            clear htr hbw
            by_cases hlt2 : j2 < k
            · have k3 : (j2 : Int) < (k : Int) := by omega
              have hll := left_len A2 B2
              have hd1 := do_any 4 0 wr HTK.out.pb.ed
              rw [doLeft] at hd1
              obtain ⟨A', hA'⟩ : ∃ A', A2.dropLast = A' := ⟨_, rfl⟩
              obtain ⟨B', hB'⟩ : ∃ B', A2.drop (A2.length - 1) ++ B2 = B' := ⟨_, rfl⟩
              obtain ⟨z, hz⟩ : ∃ z, chg A2 B2 (A2.dropLast, A2.drop (A2.length - 1) ++ B2) = z := ⟨_, rfl⟩
              have HLE := Lib.hid (And.intro hA' (And.intro hB' hz))
              rw [hz] at hd1
              simp only [hA', hB'] at hd1
              rw [hA', hB'] at hll
              have HD1 := Lib.hid hd1
              clear hd1 hA' hB' hz
              go_wp2_with fail
              refine (HD1.out).mono ?_
              rintro e w4 ⟨rfl, hed, hb⟩
              have HT4 := Lib.hid (HTK.out.buf hed hb)
              have HW4 : Hid (Below w.heap.size w w4) := HBW2.out.trans (hb.below HBW2.out.size (by have := HL.out; simp; omega))
              have hd2 := do_any 4 0 w4 HT4.out.e3
              rw [doLeft] at hd2
              obtain ⟨hA', hB', hz⟩ := HLE.out
              rw [hz] at hd2
              simp only [hA', hB'] at hd2
              have HD2 := Lib.hid hd2
              clear hed hb hd2 hA' hB' hz
              go_wp2_with fail
              refine (HD2.out).mono ?_
              rintro e w5 ⟨rfl, hed, hb⟩
              have HT5 := Lib.hid (HT4.out.third hed hb)
              have HW5 : Hid (Below w.heap.size w w5) := HW4.out.trans (hb.below HW4.out.size (by have := HLW.out; simp; omega))
              clear hed hb
              go_wp2
              go_roundw
              case rel => exact ⟨j2 + 1, A', B', by go_num, by omega, by omega, HT5.out, HW5.out⟩
              case measure => simp [RowKit.intOf]; omega
            · have hge2 : decide ((j2 : Int) < (k : Int)) = false := by simp; omega
              have hge2' : decide (j2 < k) = false := by simp; omega
              clear hlt2
              go_wp2_with fail
              refine (start_any _ HTK.out.pb.sg).mono ?_
              rintro e w4 ⟨rfl, hsg, hb⟩
              have HT4 : Hid (Tr w4 s a c b a2 c2 b3 a3 c3 [] true false A2 B2 (A2 ++ []) B2) := by rw [List.append_nil]; exact HTK.out.stage hsg hb
              have HW4 : Hid (Below w.heap.size w w4) := HBW2.out.trans (hb.below HBW2.out.size (by have := HL.out; simp; omega))
              clear hsg hb
              go_wp2
              go_loopw [82] (fun i wy => R3 w s a c b a2 c2 b3 a3 c3 ys.length A2 B2 i wy) (fun i _ => ys.length - (RowKit.intOf i).toNat)
              case atStart => exact ⟨0, [], rfl, by omega, by simp, HT4.out, HW4.out⟩
              case round =>
                obtain ⟨j3, L, rfl, hj3, hLj, htr, hbw⟩ := hrel
                have HTM := Lib.hid htr
                have HBW3 := Lib.hid hbw
                clear htr hbw
                have hAL : (encs (A2 ++ L) ++ encs B2).length + (encs L).length ≤ 640 + (encs L).length ∧ (encs L).length ≤ 4 * L.length := by
                  have h1 := encs_len4 A2
                  have h2 := encs_len4 B2
                  have h3 := encs_len4 L
                  rw [encs_append, List.length_append, List.length_append]
                  omega
                by_cases hlt3 : j3 < ys.length
                · have k3 : (j3 : Int) < (ys.length : Int) := by omega
                  obtain ⟨z, hz⟩ : ∃ z, ys[j3]? = some z := ⟨_, List.getElem?_eq_getElem hlt3⟩
                  obtain ⟨g, off, rfl, hgl, hcell⟩ := HA2.out (List.length_pos_iff.1 (by omega : 0 < ys.length))
                  have q0 : wr.cell? ⟨g, off + j3, none⟩ = some (.int .i64 z) := by rw [HBW3.out.cell hgl]; exact num_cell hcell hz
                  have hzl := (enc_length z).2
                  clear hz hgl hcell
                  cases hp : printC z
                  · have e1 : addE 500 z L true false = (2, L, false) := by unfold addE; rw [if_pos rfl, hp]; rfl
                    have e2 : runeE 900 z (A2 ++ L) B2 = (2, A2 ++ L) := by unfold runeE; rw [hp]; rfl
                    have hq1 := add_any z wr HTM.out.pb.sg
                    rw [e1] at hq1
                    have HQ1 := Lib.hid hq1
                    have HE2 := Lib.hid e2
                    clear hp e1 e2 hq1 hAL
                    go_wp2_with fail
                    refine (HQ1.out).mono ?_
                    rintro e w5 ⟨rfl, hsg, hb⟩
                    have HT5 := Lib.hid (HTM.out.stage hsg hb)
                    have HW5 : Hid (Below w.heap.size w w5) := HBW3.out.trans (hb.below HBW3.out.size (by have := HL.out; simp; omega))
                    have hq2 := put_any z w5 HT5.out.e3
                    rw [HE2.out] at hq2
                    have HQ2 := Lib.hid hq2
                    clear hsg hb hq2
                    go_wp2_with fail
                    refine (HQ2.out).mono ?_
                    rintro e w6 ⟨rfl, hed, hb⟩
                    have HT6 := Lib.hid (HT5.out.third hed hb)
                    have HW6 : Hid (Below w.heap.size w w6) := HW5.out.trans (hb.below HW5.out.size (by have := HLW.out; simp; omega))
                    clear hed hb
                    go_wp2
                    go_roundw
                    case rel => exact ⟨j3 + 1, L, by go_num, by omega, by omega, HT6.out, HW6.out⟩
                    case measure => simp [RowKit.intOf]; omega
                  · have e1 : addE 500 z L true false = (0, L ++ [z], false) := by unfold addE; rw [if_pos rfl, hp, if_pos rfl, if_neg (by simp), if_pos (by omega)]
                    have e2 : runeE 900 z (A2 ++ L) B2 = (0, A2 ++ L ++ [z]) := by unfold runeE; rw [hp, if_pos rfl, if_pos (by omega)]
                    have hq1 := add_any z wr HTM.out.pb.sg
                    rw [e1] at hq1
                    have HQ1 := Lib.hid hq1
                    have HE2 := Lib.hid e2
                    clear hp e1 e2 hq1 hAL
                    go_wp2_with fail
                    refine (HQ1.out).mono ?_
                    rintro e w5 ⟨rfl, hsg, hb⟩
                    have HT5 := Lib.hid (HTM.out.stage hsg hb)
                    have HW5 : Hid (Below w.heap.size w w5) := HBW3.out.trans (hb.below HBW3.out.size (by have := HL.out; simp; omega))
                    have hq2 := put_any z w5 HT5.out.e3
                    rw [HE2.out] at hq2
                    have HQ2 := Lib.hid hq2
                    clear hsg hb hq2
                    go_wp2_with fail
                    refine (HQ2.out).mono ?_
                    rintro e w6 ⟨rfl, hed, hb⟩
                    have HT6 : Hid (Tr w6 s a c b a2 c2 b3 a3 c3 (L ++ [z]) true false A2 B2 (A2 ++ (L ++ [z])) B2) := by rw [← List.append_assoc]; exact HT5.out.third hed hb
                    have HW6 : Hid (Below w.heap.size w w6) := HW5.out.trans (hb.below HW5.out.size (by have := HLW.out; simp; omega))
                    have hLz : (L ++ [z]).length ≤ j3 + 1 := by rw [List.length_append, List.length_singleton]; omega
                    have HLZ := Lib.hid hLz
                    clear hed hb hLz
                    go_wp2
                    go_roundw
                    case rel => exact ⟨j3 + 1, L ++ [z], by go_num, by omega, HLZ.out, HT6.out, HW6.out⟩
                    case measure => simp [RowKit.intOf]; omega
                · have hge3 : decide ((j3 : Int) < (ys.length : Int)) = false := by simp; omega
                  have hge3' : decide (j3 < ys.length) = false := by simp; omega
                  have e3 : endE 900 L true false A2 B2 = (0, A2 ++ L) := by
                    unfold endE
                    rw [if_pos rfl, if_neg (by simp), if_pos (by
                      have h1 := encs_len4 A2
                      have h2 := encs_len4 B2
                      rw [List.length_append]
                      omega)]
                  have he := end_any wr (HT.out.below HBW3.out) HTM.out.pb
                  rw [e3] at he
                  have HE := Lib.hid he
                  clear hlt3 hAL e3 he
                  go_wp2_with fail
                  refine (HE.out).mono ?_
                  rintro e w5 ⟨rfl, hpb, hb⟩
                  have HT5 : Hid (Tr w5 s a c b a2 c2 b3 a3 c3 [] false false (A2 ++ L) B2 (A2 ++ L) B2) := HTM.out.end' hpb hb
                  have HW5 : Hid (Below w.heap.size w w5) := HBW3.out.trans (hb.below HBW3.out.size (by have := HL.out; simp; omega))
                  obtain ⟨A5, hA5⟩ : ∃ A5, A2 ++ L = A5 := ⟨_, rfl⟩
                  rw [hA5] at HT5
                  obtain ⟨t5, ht5⟩ : ∃ t, encs A5 ++ encs B2 = t := ⟨_, rfl⟩
                  obtain ⟨p5, hp5⟩ : ∃ p, A5.length = p := ⟨_, rfl⟩
                  have hx1 := textP_c w5 HT5.out.pb.ed.buf
                  rw [ht5] at hx1
                  have HX1 := Lib.hid hx1
                  have HT5T := Lib.hid ht5
                  have HP5 := Lib.hid hp5
                  clear hpb hb hA5 ht5 hx1 hp5
                  go_wp2_with fail
                  refine (HX1.out).mono ?_
                  rintro e w6 ⟨rfl, hb6⟩
                  have HT6 := Lib.hid (HT5.out.below hb6)
                  have HW6 : Hid (Below w.heap.size w w6) := HW5.out.trans (hb6.mono HW5.out.size)
                  have hx2 := textP_c w6 HT6.out.e3.buf
                  rw [HT5T.out] at hx2
                  have HX2 := Lib.hid hx2
                  clear hb6 hx2
                  go_wp2_with fail
                  refine (HX2.out).mono ?_
                  rintro e w7 ⟨rfl, hb7⟩
                  have HT7 := Lib.hid (HT6.out.below hb7)
                  have HW7 : Hid (Below w.heap.size w w7) := HW6.out.trans (hb7.mono HW6.out.size)
                  have hy1 := at_e w7 HT7.out.pb.ed
                  have hy2 := at_e w7 HT7.out.e3
                  rw [HP5.out] at hy1 hy2
                  have HY1 := Lib.hid hy1
                  have HY2 := Lib.hid hy2
                  clear hb7 hy1 hy2
                  go_wp2_with fail
                  refine (HY1.out).mono ?_
                  rintro e w8 ⟨rfl, hq⟩
                  obtain rfl := hq.symm
                  go_wp2_with fail
                  refine (HY2.out).mono ?_
                  rintro e w8 ⟨rfl, hq⟩
                  obtain rfl := hq.symm
                  go_wp2
                  go_ret
                  exact ⟨rfl, HW7.out⟩
    · have k2 : decide (100 < (ys.length : Int)) = true := by simp; omega
      go_wp2_with fail
      refine (HEND.out _ HW3.out).mono ?_
      rintro e w5 ⟨rfl, hb5⟩
      go_wp2
      go_ret
      exact ⟨rfl, hb5⟩
  · have k1 : decide (60 < (zs.length : Int)) = true := by simp; omega
    go_wp2_with fail
    refine (HEND.out _ HW3.out).mono ?_
    rintro e w5 ⟨rfl, hb5⟩
    go_wp2
    go_ret
    exact ⟨rfl, hb5⟩

end Go.Proofs.YtbkpnffgihjikaaDoor.PasteTyped

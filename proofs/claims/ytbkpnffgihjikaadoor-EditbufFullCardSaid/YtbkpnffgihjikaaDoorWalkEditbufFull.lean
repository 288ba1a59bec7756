/- EditbufFull, the walk: a text is laid whole, or not at all: just if there is room; what was refused leaves all as it was. -/
import Derived.Test.YtbkpnffgihjikaaDoorTabs
import Derived.Test.YtbkpnffgihjikaaDoorSize
import Derived.LoopN
import Derived.Deep.RegionHeldLaw
set_option linter.unusedVariables false
set_option linter.unusedSimpArgs false
namespace Go.Proofs.YtbkpnffgihjikaaDoor.EditbufFull
open Go.RowKit Go.Lib Go.Shelf ChangeShapes Mem Utf UtfP Edit Law

attribute [local go_sem] strOf_toList strOf_append strOf_size

def RF (w : World) (b a c N n : Nat) (i : Value) (wr : World) : Prop :=
  ∃ (j : Nat) (A : List Int), i = .int .i64 (j : Int) ∧ j ≤ n ∧ Ed wr b a c N A [] ∧ Below w.heap.size w wr

theorem Ed.drewN {w : World} {b a c N : Nat} {A B : List Int} (h : Ed w b a c N A B) (n : Nat) : Ed (w.drewN n) b a c N A B := h.but (But.drewN (S := []) w n) (by simp) (by simp) (by simp)

set_option maxRecDepth 200000 in
set_option maxHeartbeats 4000000 in
theorem walk (x : Int) (rs : List ByteRow) (Q : Option Addr) (cap : Nat) (w : World) (hT : Tabs w) (_ : (Lit.int .i64 x).wf = true) (hA : RowsAt w 1 ByteRow.cells Q rs) (hcap : rs.length ≤ cap) (hm : 24 * rs.length ≤ 140737488355328) (hgood : ∀ r ∈ rs, r.Good w) :
    Calls Tryd.prog 9 #[.int .i64 x, .slice Q rs.length cap] w fun e w' => e = .returned (.bool true) ∧ Below w.heap.size w w' := by
  have HT := Lib.hid hT
  have HA := Lib.hid hA
  have HG := Lib.hid hgood
  clear hT hA hgood
  have hN := szE_bd (m := 200) x (by decide) (by decide)
  have hN2 : szE 200 x ≤ 200 := by
    unfold szE
    have := Int.emod_lt_of_pos (IntKind.u64.wrap x) (show (0 : Int) < 200 by decide)
    have := Int.emod_nonneg (IntKind.u64.wrap x) (show (200 : Int) ≠ 0 by decide)
    omega
  have HSZ := Lib.hid (fun W => size_c x W)
  generalize szE 200 x = N at *
  go_enter Tryd.func9, Tryd.ntmps9
  go_wp2_with (go_at_call 37; refine (HSZ.out _).mono ?_; rintro e w0 ⟨rfl, hq⟩; obtain rfl := hq.symm)
  refine (begin_c N hN.1 hN.2 w).mono ?_
  rintro e w1 ⟨b, a, c, rfl, hlb, hla, hlc, hed, hb1⟩
  have HL := Lib.hid (show w.heap.size ≤ b ∧ w.heap.size ≤ a ∧ w.heap.size ≤ c from ⟨hlb, hla, hlc⟩)
  have HW1 := Lib.hid hb1
  have HED1 := Lib.hid hed
  clear hlb hla hlc hed hb1
  go_wp2_with fail
  refine (Edit.alive _).mono ?_
  rintro e w3 ⟨rfl, hb3⟩
  have HED3 : Hid (Ed w3 b a c N [] []) := HED1.out.but (But.of_below (S := []) hb3) (by simp) (by simp) (by simp)
  have HW3 : Hid (Below w.heap.size w w3) := HW1.out.trans (hb3.mono HW1.out.size)
  clear hb3
  by_cases hl : rs.length ≤ 60
  · have k1 : decide (60 < (rs.length : Int)) = false := by simp; omega
    go_wp2
    go_loopw [32] (fun i wr => RF w b a c N rs.length i wr) (fun i _ => rs.length - (RowKit.intOf i).toNat)
    case atStart => exact ⟨0, [], rfl, by omega, HED3.out, HW3.out⟩
    case round =>
      obtain ⟨j, A, rfl, hj, hed, hbw⟩ := hrel
      have HED := Lib.hid hed
      have HBW := Lib.hid hbw
      clear hed hbw
      by_cases hlt : j < rs.length
      · have k0 : (j : Int) < (rs.length : Int) := by omega
        obtain ⟨r, hr⟩ : ∃ r, rs[j]? = some r := ⟨_, List.getElem?_eq_getElem hlt⟩
        obtain ⟨g, off, rfl, hgl, hcell⟩ := HA.out (List.length_pos_iff.1 (by omega : 0 < rs.length))
        obtain ⟨hby, hrc, hrm⟩ := HG.out r (List.mem_of_getElem? hr)
        have q0 : wr.cell? ⟨g, off + j, none⟩ = some (.slice r.A r.l.length r.cap) := by
          rw [HBW.out.cell hgl]
          have := hcell j r hr 0 _ rfl
          simpa using this
        obtain ⟨A0, l, cap0⟩ := r
        simp only at q0 hby hrc hrm
        have HBY := Lib.hid hby
        clear hby hr hcell hgl
        by_cases h300 : l.length ≤ 300
        · have k3 : decide (300 < (l.length : Int)) = false := by simp; omega
          obtain ⟨t0, ht0⟩ : ∃ t0, encs A ++ encs [] = t0 := ⟨_, rfl⟩
          have hTX := text_e wr HED.out
          rw [ht0] at hTX
          have HTX := Lib.hid hTX
          have hl0 : t0.length ≤ N := by rw [← ht0]; exact HED.out.buf.ar.fit
          have HT0 := Lib.hid ht0
          obtain ⟨p, hp⟩ : ∃ p, A.length = p := ⟨_, rfl⟩
          have hAT := fun (W : World) (A' : List Int) (q : Nat) (h : Ed W b a c N A' []) (hq : A'.length = q) => at_e W h
          have HAT : Hid (∀ (W : World) (A' : List Int) (q : Nat), Ed W b a c N A' [] → A'.length = q → Calls Tryd.prog 36 #[.pointer (some ⟨b, 0, none⟩)] W fun e w' => e = .returned (.int .i64 (q : Int)) ∧ w' = W) := fun W A' q h hq => by
            have := at_e W h
            rw [hq] at this
            exact this
          have hp4 : p ≤ 200 := by
            have := encs_len A
            rw [← ht0, List.length_append] at hl0
            omega
          have HP := Lib.hid hp
          clear hTX ht0 hAT hp
          go_wp2_with fail
          refine (HTX.out).mono ?_
          rintro e w4 ⟨rfl, hb4⟩
          have HED4 : Hid (Ed w4 b a c N A []) := HED.out.but (But.of_below (S := []) hb4) (by simp) (by simp) (by simp)
          have HW4 : Hid (Below w.heap.size w w4) := HBW.out.trans (hb4.mono HBW.out.size)
          clear hb4
          go_wp2_with (go_at_call 36; refine (HAT.out _ A p HED4.out HP.out).mono ?_; rintro e w5 ⟨rfl, hq⟩; obtain rfl := hq.symm)
          refine (ins_e A0 l cap0 w4 (HT.out.below HW4.out) HED4.out (HBY.out.below HW4.out) hrc (by omega) (fun ad h h' => by
            obtain ⟨g, off, e, hlt, _⟩ := HBY.out h'
            rw [e] at h
            injection h with h
            have := HL.out
            subst h
            show g ≠ _
            omega)).mono ?_
          rintro e w6 ⟨er, A', rfl, hed6, hbt6, hcase⟩
          have HW6 : Hid (Below w.heap.size w w6) := HW4.out.trans (hbt6.below HW4.out.size (by have := HL.out; simp; omega))
          have HED6 := Lib.hid hed6
          clear hed6 hbt6
          rcases hcase with ⟨hfine, rfl, rfl⟩ | ⟨hfine, hx, rfl, rfl⟩ | ⟨hfine, hx, rfl, hA'⟩
          · have HF := refFineT l A0 cap0 w6 (HBY.out.below HW6.out) hrc (by omega)
            rw [hfine] at HF
            have HF := Lib.hid HF
            clear hfine
            go_wp2_with fail
            refine (HF.out).mono ?_
            rintro e w7 ⟨rfl, hb7⟩
            have HED7 : Hid (Ed w7 b a c N A' []) := HED6.out.but (But.of_below (S := []) hb7) (by simp) (by simp) (by simp)
            have HW7 : Hid (Below w.heap.size w w7) := HW6.out.trans (hb7.mono HW6.out.size)
            clear hb7
            have hTX7 := text_e w7 HED7.out
            rw [HT0.out] at hTX7
            have HTX7 := Lib.hid hTX7
            clear hTX7
            go_wp2_with fail
            refine (HTX7.out).mono ?_
            rintro e w8 ⟨rfl, hb8⟩
            have HED8 : Hid (Ed w8 b a c N A' []) := HED7.out.but (But.of_below (S := []) hb8) (by simp) (by simp) (by simp)
            have HW8 : Hid (Below w.heap.size w w8) := HW7.out.trans (hb8.mono HW7.out.size)
            clear hb8
            go_wp2_with (first
              | (go_at_call 36; refine (HAT.out _ A' p HED8.out HP.out).mono ?_; rintro e w5 ⟨rfl, hq⟩; obtain rfl := hq.symm)
              | (go_at_call 46; refine (cleanA w8 HED8.out.buf.ar).mono ?_; rintro e w9 ⟨rfl, nq, rfl⟩))
            go_roundw
            case rel => exact ⟨j + 1, A', by go_num, by omega, Ed.drewN HED8.out _, HW8.out.trans (But.below (But.drewN (S := []) _ _) HW8.out.size (by simp))⟩
            case measure => simp [RowKit.intOf]; omega
          · have HF := refFineT l A0 cap0 w6 (HBY.out.below HW6.out) hrc (by omega)
            rw [hfine] at HF
            have HF := Lib.hid HF
            rw [HT0.out] at hx
            have t1 : decide ((N : Int) < (t0.length : Int) + (l.length : Int)) = true := by simp; omega
            have t2 : decide (N < t0.length + l.length) = true := by simp; omega
            clear hfine hx
            go_wp2_with (first
              | (go_at_call 37; refine (HSZ.out _).mono ?_; rintro e w0 ⟨rfl, hq⟩; obtain rfl := hq.symm)
              | fail)
            refine (HF.out).mono ?_
            rintro e w7 ⟨rfl, hb7⟩
            have HED7 : Hid (Ed w7 b a c N A' []) := HED6.out.but (But.of_below (S := []) hb7) (by simp) (by simp) (by simp)
            have HW7 : Hid (Below w.heap.size w w7) := HW6.out.trans (hb7.mono HW6.out.size)
            clear hb7
            have hTX7 := text_e w7 HED7.out
            rw [HT0.out] at hTX7
            have HTX7 := Lib.hid hTX7
            clear hTX7
            go_wp2_with (first
              | (go_at_call 37; refine (HSZ.out _).mono ?_; rintro e w0 ⟨rfl, hq⟩; obtain rfl := hq.symm)
              | fail)
            refine (HTX7.out).mono ?_
            rintro e w8 ⟨rfl, hb8⟩
            have HED8 : Hid (Ed w8 b a c N A' []) := HED7.out.but (But.of_below (S := []) hb8) (by simp) (by simp) (by simp)
            have HW8 : Hid (Below w.heap.size w w8) := HW7.out.trans (hb8.mono HW7.out.size)
            clear hb8
            go_wp2_with (first
              | (go_at_call 36; refine (HAT.out _ A' p HED8.out HP.out).mono ?_; rintro e w5 ⟨rfl, hq⟩; obtain rfl := hq.symm)
              | (go_at_call 46; refine (cleanA w8 HED8.out.buf.ar).mono ?_; rintro e w9 ⟨rfl, nq, rfl⟩))
            go_roundw
            case rel => exact ⟨j + 1, A', by go_num, by omega, Ed.drewN HED8.out _, HW8.out.trans (But.below (But.drewN (S := []) _ _) HW8.out.size (by simp))⟩
            case measure => simp [RowKit.intOf]; omega
          · have HF := refFineT l A0 cap0 w6 (HBY.out.below HW6.out) hrc (by omega)
            rw [hfine] at HF
            have HF := Lib.hid HF
            rw [HT0.out] at hx
            have t1 : decide ((N : Int) < (t0.length : Int) + (l.length : Int)) = false := by simp; omega
            have t2 : decide (N < t0.length + l.length) = false := by simp; omega
            have hch := chars_fine' hfine
            have hcs := (charsOf_spec hfine).1
            obtain ⟨cs, hcse⟩ : ∃ cs, charsOf l = cs := ⟨_, rfl⟩
            rw [hcse] at hch hcs hA'
            have htx : encs A' ++ encs [] = t0 ++ l := by
              rw [hA', encs_append, ← HT0.out, encs_nil, List.append_nil, List.append_nil, ← hcs]
            have HTXE := Lib.hid htx
            obtain ⟨q, hq⟩ : ∃ q, cs.length = q := ⟨_, rfl⟩
            have hpq : A'.length = p + q := by rw [hA', List.length_append, HP.out, hq]
            have hq3 : q ≤ 300 := by
              have := encs_len cs
              rw [← hcs] at this
              omega
            have HPQ := Lib.hid hpq
            have HCH := Lib.hid (show (chars l).length = q by rw [hch, hq])
            clear hfine hx hch hcs hcse hA' htx hq hpq
            go_wp2_with (first
              | (go_at_call 37; refine (HSZ.out _).mono ?_; rintro e w0 ⟨rfl, hq⟩; obtain rfl := hq.symm)
              | fail)
            refine (HF.out).mono ?_
            rintro e w7 ⟨rfl, hb7⟩
            have HED7 : Hid (Ed w7 b a c N A' []) := HED6.out.but (But.of_below (S := []) hb7) (by simp) (by simp) (by simp)
            have HW7 : Hid (Below w.heap.size w w7) := HW6.out.trans (hb7.mono HW6.out.size)
            clear hb7
            have HS : Hid (∀ W, Below w7.heap.size w7 W → Below w7.heap.size w7 W ∧ (convert 22 9 (.slice A0 l.length cap0)).run Tryd.prog W = .ok (.string (strOf l)) W) := fun W hW => ⟨hW, conv_str (HBY.out.below (HW7.out.trans (hW.mono HW7.out.size)))⟩
            have HT7 : Hid (∀ W, Below w7.heap.size w7 W → Calls Tryd.prog 35 #[.pointer (some ⟨b, 0, none⟩)] W fun e w' => e = .returned (.string (strOf (t0 ++ l))) ∧ Below w7.heap.size w7 w') := fun W hW => by
              have := text_e W (HED7.out.but (But.of_below (S := []) hW) (by simp) (by simp) (by simp))
              rw [HTXE.out] at this
              exact this.mono fun e w' ⟨he, hb⟩ => ⟨he, hW.trans (hb.mono hW.size)⟩
            have HA7 : Hid (∀ W, Below w7.heap.size w7 W → Calls Tryd.prog 36 #[.pointer (some ⟨b, 0, none⟩)] W fun e w' => e = .returned (.int .i64 ((p : Int) + (q : Int))) ∧ Below w7.heap.size w7 w') := fun W hW =>
              (HAT.out W A' _ (HED7.out.but (But.of_below (S := []) hW) (by simp) (by simp) (by simp)) HPQ.out).mono fun e w' ⟨he, hb⟩ => ⟨by rw [he]; simp, by rw [hb]; exact hW⟩
            have HC7 : Hid (∀ W, Below w7.heap.size w7 W → Calls Tryd.prog 50 #[.slice A0 l.length cap0] W fun e w' => e = .returned (.int .i64 (q : Int)) ∧ Below w7.heap.size w7 w') := fun W hW => by
              have := countGo l A0 cap0 W (HT.out.below (HW7.out.trans (hW.mono HW7.out.size))) (HBY.out.below (HW7.out.trans (hW.mono HW7.out.size))) hrc (by omega)
              rw [HCH.out] at this
              exact this.mono fun e w' ⟨he, hb⟩ => ⟨he, hW.trans (hb.mono hW.size)⟩
            have hd0 : Below w7.heap.size w7 w7.drew := (Below.refl _ _).drew
            have hsum : IntKind.i64.wrap ((p : Int) + (q : Int)) = (p : Int) + (q : Int) := IntWalk.i64_in _ (by omega)
            go_wp2_with (first
              | (go_at_call 37; refine (HSZ.out _).mono ?_; rintro e w0 ⟨rfl, hq⟩; obtain rfl := hq.symm)
              | fail)
            go_region_held_law (fun W => Below w7.heap.size w7 W ∧ (convert 22 9 (.slice A0 l.length cap0)).run Tryd.prog W = .ok (.string (strOf l)) W)
              (first | assumption | exact HS.out _ (by assumption)) (first
              | (go_at_call 35; refine (HT7.out _ ?_).mono ?_; (go_split_ands; assumption); rintro e w9 ⟨rfl, hb9⟩)
              | (go_at_call 36; refine (HA7.out _ ?_).mono ?_; (go_split_ands; assumption); rintro e w13 ⟨rfl, hb13⟩)
              | (go_at_call 50; refine (HC7.out _ ?_).mono ?_; (go_split_ands; assumption); rintro e w14 ⟨rfl, hb14⟩))
            all_goals
              have HED14 : Hid (Ed w14 b a c N A' []) := HED7.out.but (But.of_below (S := []) hb14) (by simp) (by simp) (by simp)
              have HW14 : Hid (Below w.heap.size w w14) := HW7.out.trans (hb14.mono HW7.out.size)
              clear hb14 hb13 hb9
              go_wp2_with (go_at_call 46; refine (cleanA w14 HED14.out.buf.ar).mono ?_; rintro e w15 ⟨rfl, nq, rfl⟩)
              go_roundw
              case rel => exact ⟨j + 1, A', by go_num, by omega, Ed.drewN HED14.out _, HW14.out.trans (But.below (But.drewN (S := []) _ _) HW14.out.size (by simp))⟩
              case measure => simp [RowKit.intOf]; omega
        · have k3 : decide (300 < (l.length : Int)) = true := by simp; omega
          go_wp2
          go_ret
          exact ⟨rfl, HBW.out⟩
      · have hge : decide ((j : Int) < (rs.length : Int)) = false := by simp; omega
        have hge' : decide (j < rs.length) = false := by simp; omega
        clear hlt
        go_wp2
        go_ret
        exact ⟨rfl, HBW.out⟩
  · have k1 : decide (60 < (rs.length : Int)) = true := by simp; omega
    go_wp2_with fail
    refine (Edit.alive _).mono ?_
    rintro e w5 ⟨rfl, hb5⟩
    go_wp2
    go_ret
    exact ⟨rfl, HW3.out.trans (hb5.mono HW3.out.size)⟩

end Go.Proofs.YtbkpnffgihjikaaDoor.EditbufFull

/- EditbufMoves, the walk: keys that move alone change no character; Left and Right undo each other; as many Lefts as there are characters go ahead of all. -/
import Derived.Test.YtbkpnffgihjikaaDoorTabs
import Derived.Test.YtbkpnffgihjikaaDoorEdL
import Derived.LoopN
import Derived.Deep.RegionHeldLaw
import Derived.Laws.Bits64
set_option linter.unusedVariables false
namespace Go.Proofs.YtbkpnffgihjikaaDoor.EditbufMoves
open Go.RowKit Go.Lib Go.Shelf ChangeShapes Mem Utf UtfP Edit Law

attribute [local go_sem] strOf_toList strOf_append strOf_size

def kindOf (m : Nat) : Int := if m = 0 then 4 else if m = 1 then 5 else if m = 2 then 6 else if m = 3 then 7 else 10
def kindsC : Array Value := #[.int .i64 4, .int .i64 5, .int .i64 6, .int .i64 7, .int .i64 10]
theorem kindsC_at (m : Nat) (hm : m < 5) : kindsC[m]? = some (.int .i64 (kindOf m)) := by
  match m, hm with
  | 0, _ => rfl
  | 1, _ => rfl
  | 2, _ => rfl
  | 3, _ => rfl
  | 4, _ => rfl

theorem chg_self (A B A' B' : List Int) (h : A' ++ B' = A ++ B) : chg A B (A', B') = decide ((A'.length : Int) ≠ (A.length : Int)) := by
  have h2 : A'.length + B'.length = A.length + B.length := by rw [← List.length_append, h, List.length_append]
  unfold chg
  rw [Bool.eq_iff_iff]
  simp
  omega

theorem moved (kk : Int) (hk : kk = 4 ∨ kk = 5 ∨ kk = 6 ∨ kk = 7 ∨ kk = 10) (A B : List Int) :
    ∃ A' B' ok, doE 1000 kk 0 A B = (A', B', ok, 0) ∧ A' ++ B' = A ++ B ∧ ok = decide ((A'.length : Int) ≠ (A.length : Int)) ∧
      (kk = 4 → ok = true → (A'.length : Int) = (A.length : Int) - 1) ∧ (kk = 5 → ok = true → (A'.length : Int) = (A.length : Int) + 1) ∧ (kk = 4 → A'.length = A.length - 1) := by
  have hk0 : kk ≠ 0 := by omega
  have hd : ∀ A' B', keyE kk A B = (A', B') → A' ++ B' = A ++ B → doE 1000 kk 0 A B = (A', B', decide ((A'.length : Int) ≠ (A.length : Int)), 0) := fun A' B' he h => by
    unfold doE
    rw [if_neg hk0, he, chg_self A B A' B' h]
  rcases hk with rfl | rfl | rfl | rfl | rfl
  · have e : A.dropLast ++ (A.drop (A.length - 1) ++ B) = A ++ B := by
      rw [← List.append_assoc, List.dropLast_eq_take, List.take_append_drop]
    refine ⟨_, _, _, hd A.dropLast (A.drop (A.length - 1) ++ B) rfl e, e, rfl, ?_, by omega, fun _ => by rw [List.length_dropLast]⟩
    intro _ h
    rw [List.length_dropLast] at h ⊢
    simp at h
    omega
  · have e : (A ++ B.take 1) ++ B.tail = A ++ B := by
      rw [List.append_assoc]
      cases B <;> simp
    refine ⟨_, _, _, hd (A ++ B.take 1) B.tail rfl e, e, rfl, by omega, ?_, by omega⟩
    intro _ h
    rw [List.length_append, List.length_take] at h ⊢
    simp at h
    omega
  · exact ⟨_, _, _, hd [] (A ++ B) rfl rfl, rfl, rfl, by omega, by omega, by omega⟩
  · exact ⟨_, _, _, hd (A ++ B) [] rfl (by simp), by simp, rfl, by omega, by omega, by omega⟩
  · exact ⟨_, _, _, hd A B rfl rfl, rfl, rfl, by omega, by omega, by omega⟩

def R1 (w : World) (b a c g : Nat) (cs : List Int) (n : Nat) (i : Value) (wr : World) : Prop :=
  ∃ (j : Nat) (A B : List Int), i = .int .i64 (j : Int) ∧ j ≤ n ∧ A ++ B = cs ∧ Ed wr b a c 1000 A B ∧ Blk wr g kindsC 3 ∧ Below w.heap.size w wr
def R2 (w : World) (b a c : Nat) (cs : List Int) (n : Nat) (i : Value) (wr : World) : Prop :=
  ∃ (j : Nat) (A B : List Int), i = .int .i64 (j : Int) ∧ j ≤ n ∧ A ++ B = cs ∧ A.length ≤ n - j ∧ Ed wr b a c 1000 A B ∧ Below w.heap.size w wr

set_option maxRecDepth 200000 in
set_option maxHeartbeats 4000000 in
theorem walk (l : List UInt8) (Q : Option Addr) (cap : Nat) (m : List UInt8) (M : Option Addr) (capm : Nat) (w : World) (hT : Tabs w) (hA : BytesAt w Q l) (hcap : l.length ≤ cap) (hm : l.length ≤ 140737488355328) (hM : BytesAt w M m) (hcapm : m.length ≤ capm) (hmm : m.length ≤ 140737488355328) :
    Calls Tryd.prog 6 #[.slice Q l.length cap, .slice M m.length capm] w fun e w' => e = .returned (.bool true) ∧ Below w.heap.size w w' := by
  have HT := Lib.hid hT
  have HA := Lib.hid hA
  have HM := Lib.hid hM
  clear hT hA hM
  have HAL : Hid (∀ W, Calls Tryd.prog 31 #[] W fun e w' => e = .returned (.bool true) ∧ Below W.heap.size W w') := fun W => Edit.alive W
  go_enter Tryd.func6, Tryd.ntmps6
  go_wp2_with fail
  refine (begin_c 1000 (by decide) (by decide) w).mono ?_
  rintro e w1 ⟨b, a, c, rfl, hlb, hla, hlc, hed, hb1⟩
  have HL := Lib.hid (show w.heap.size ≤ b ∧ w.heap.size ≤ a ∧ w.heap.size ≤ c from ⟨hlb, hla, hlc⟩)
  have HW1 := Lib.hid hb1
  have HED1 := Lib.hid hed
  clear hlb hla hlc hed hb1
  go_wp2_with fail
  refine (HAL.out _).mono ?_
  rintro e w3 ⟨rfl, hb3⟩
  have HED3 : Hid (Ed w3 b a c 1000 [] []) := HED1.out.but (But.of_below (S := []) hb3) (by simp) (by simp) (by simp)
  have HW3 : Hid (Below w.heap.size w w3) := HW1.out.trans (hb3.mono HW1.out.size)
  clear hb3
  have hend : ∀ W, Below w.heap.size w W → Calls Tryd.prog 31 #[] W fun e w' => e = .returned (.bool true) ∧ Below w.heap.size w w' := fun W hW => (HAL.out W).mono fun e w' ⟨he, hb⟩ => ⟨he, hW.trans (hb.mono hW.size)⟩
  have HEND := Lib.hid hend
  clear hend
  by_cases hl : l.length ≤ 1000
  · have k1 : decide (1000 < (l.length : Int)) = false := by simp; omega
    by_cases hlm : m.length ≤ 200
    · have k2 : decide (200 < (m.length : Int)) = false := by simp; omega
      go_wp2_with fail
      refine (ins_e Q l cap w3 (HT.out.below HW3.out) HED3.out (HA.out.below HW3.out) hcap hm (fun ad h h' => by
        obtain ⟨g, off, e, hlt, _⟩ := HA.out h'
        rw [e] at h
        injection h with h
        have := HL.out
        subst h
        show g ≠ _
        omega)).mono ?_
      rintro e w4 ⟨er, A', rfl, hed4, hbt4, hcase⟩
      have HW4 : Hid (Below w.heap.size w w4) := HW3.out.trans (hbt4.below HW3.out.size (by have := HL.out; simp; omega))
      rcases hcase with ⟨_, rfl, _⟩ | ⟨_, hx, _⟩ | ⟨hfine, _, rfl, hA'⟩
      · go_wp2_with fail
        refine (HEND.out _ HW4.out).mono ?_
        rintro e w5 ⟨rfl, hb5⟩
        go_wp2
        go_ret
        exact ⟨rfl, hb5⟩
      · simp [encs_nil] at hx; omega
      rw [hA', List.nil_append] at hed4
      have hcs := (charsOf_spec hfine).1
      obtain ⟨cs, hcse⟩ : ∃ cs, charsOf l = cs := ⟨_, rfl⟩
      rw [hcse] at hed4 hcs
      have HCS := Lib.hid hcs
      have HED4 := Lib.hid hed4
      clear hcse hcs hed4 hbt4 hA' hfine
      have HCL : Hid (cs.length ≤ 1000) := by
        have := encs_len cs
        rw [← HCS.out] at this
        show cs.length ≤ 1000
        omega
      obtain ⟨g, hg⟩ : ∃ g, g = w4.heap.size := ⟨_, rfl⟩
      have hgo : g ≠ b ∧ g ≠ a ∧ g ≠ c := by
        have h1 := HED4.out.buf.head.lt
        have h2 := HED4.out.buf.ar.head.lt
        have h3 := HED4.out.buf.ar.body.lt
        omega
      have HGO := Lib.hid hgo
      have HG := Lib.hid hg
      clear hgo hg
      go_wp2
      rw [← HG.out]
      go_loopw [47] (fun i wr => R1 w b a c g cs m.length i wr) (fun i _ => m.length - (RowKit.intOf i).toNat)
      case atStart =>
        refine ⟨0, cs, [], rfl, by omega, by simp, HED4.out.but (But.of_below (S := []) ((Below.refl _ _).alloc (Nat.le_refl _) _)) (by simp) (by simp) (by simp), ?_, HW4.out.alloc HW4.out.size _⟩
        rw [HG.out]
        exact Blk.new _ _ _
      case round =>
        obtain ⟨j, A, B, rfl, hj, hAB, hed, hblk, hbw⟩ := hrel
        have HED := Lib.hid hed
        have HBLK := Lib.hid hblk
        have HBW := Lib.hid hbw
        have HAB := Lib.hid hAB
        clear hed hblk hbw hAB
        by_cases hlt : j < m.length
        · have k0 : (j : Int) < (m.length : Int) := by omega
          obtain ⟨gm, off, rfl, hgm, hcm⟩ := HM.out (List.length_pos_iff.1 (by omega : 0 < m.length))
          have q0 : wr.cell? ⟨gm, off + j, none⟩ = some (.int .u8 (bt m j : Int)) := by
            rw [HBW.out.cell hgm]; exact hcm j hlt
          obtain ⟨r, hr⟩ : ∃ r, r = bt m j % 5 := ⟨_, rfl⟩
          have hr5 : r < 5 := by omega
          have q1 : (bt m j : Int).tmod 5 = (r : Int) := by rw [Int.tmod_eq_emod_of_nonneg (by omega)]; omega
          have q2 : wr.cell? ⟨g, r, none⟩ = some (.int .i64 (kindOf r)) := HBLK.out.cell (kindsC_at r hr5)
          have hkk : kindOf r = 4 ∨ kindOf r = 5 ∨ kindOf r = 6 ∨ kindOf r = 7 ∨ kindOf r = 10 := by
            unfold kindOf
            split; simp
            split; simp
            split; simp
            split <;> simp
          generalize kindOf r = kk at *
          obtain ⟨A', B', ok, hdo, hab, hok, h4, h5, _⟩ := moved kk hkk A B
          have HAT := Lib.hid (at_e wr HED.out)
          have HDO := Lib.hid (do_any kk 0 wr HED.out)
          rw [hdo] at HDO
          have HAB' : Hid (A' ++ B' = cs) := hab.trans HAB.out
          have HH := Lib.hid (And.intro h4 h5)
          clear hr hdo hab h4 h5 hcm hgm
          go_wp2_with fail
          refine (HAT.out).mono ?_
          rintro e w6 ⟨rfl, hq⟩
          obtain rfl := hq.symm
          go_wp2_with fail
          refine (HDO.out).mono ?_
          rintro e w7 ⟨rfl, hed7, hbt7⟩
          have HED7 := Lib.hid hed7
          have HBLK7 : Hid (Blk w7 g kindsC 3) := HBLK.out.but hbt7 (by have := HGO.out; simp; omega)
          have HBW7 : Hid (Below w.heap.size w w7) := HBW.out.trans (hbt7.below HBW.out.size (by have := HL.out; simp; omega))
          clear hed7 hbt7
          have HS : Hid (∀ W, Below w7.heap.size w7 W → Below w7.heap.size w7 W ∧ (convert 22 9 (.slice Q l.length cap)).run Tryd.prog W = .ok (.string (strOf l)) W) := fun W hW => ⟨hW, conv_str (HA.out.below (HBW7.out.trans (hW.mono HBW7.out.size)))⟩
          have HT7 : Hid (∀ W, Below w7.heap.size w7 W → Calls Tryd.prog 35 #[.pointer (some ⟨b, 0, none⟩)] W fun e w' => e = .returned (.string (strOf l)) ∧ Below w7.heap.size w7 w') := fun W hW => by
            have := text_e W (HED7.out.but (But.of_below (S := []) hW) (by simp) (by simp) (by simp))
            rw [← encs_append, HAB'.out, ← HCS.out] at this
            exact this.mono fun e w' ⟨he, hb⟩ => ⟨he, hW.trans (hb.mono hW.size)⟩
          have HA7 : Hid (∀ W, Below w7.heap.size w7 W → Calls Tryd.prog 36 #[.pointer (some ⟨b, 0, none⟩)] W fun e w' => e = .returned (.int .i64 (A'.length : Int)) ∧ Below w7.heap.size w7 w') := fun W hW =>
            (at_e W (HED7.out.but (But.of_below (S := []) hW) (by simp) (by simp) (by simp))).mono fun e w' ⟨he, hb⟩ => ⟨he, by rw [hb]; exact hW⟩
          have hd0 : Below w7.heap.size w7 w7.drew := (Below.refl _ _).drew
          obtain ⟨x, hx⟩ : ∃ x, A.length = x := ⟨_, rfl⟩
          obtain ⟨y, hy⟩ : ∃ y, A'.length = y := ⟨_, rfl⟩
          rw [hx, hy] at hok
          rw [hy] at HA7
          rw [hx, hy] at HH
          rw [hx]
          have hx1000 : x ≤ 1000 := by
            have := HCL.out
            have h2 := HAB.out
            rw [← h2, List.length_append] at this
            omega
          have hy1000 : y ≤ 1000 := by
            have := HCL.out
            have h2 := HAB'.out
            rw [← h2, List.length_append] at this
            omega
          have HYL := Lib.hid hy
          have HOK := Lib.hid hok
          clear hx hy hok
          rcases (show (y = x ∧ ok = false) ∨ (y ≠ x ∧ ok = true) by
            rw [HOK.out]
            by_cases e : y = x
            · exact Or.inl ⟨e, by simp; omega⟩
            · exact Or.inr ⟨e, by simp; omega⟩) with ⟨hyx, rfl⟩ | ⟨hyx, rfl⟩
          · subst hyx
            clear HOK
            have t0 : ((y : Int) != (y : Int)) = false := by simp
            go_wp2_with fail
            go_region_held_law (fun W => Below w7.heap.size w7 W ∧ (convert 22 9 (.slice Q l.length cap)).run Tryd.prog W = .ok (.string (strOf l)) W)
              (first | assumption | exact HS.out _ (by assumption)) (first
              | (go_at_call 35; refine (HT7.out _ ?_).mono ?_; (go_split_ands; assumption); rintro e w9 ⟨rfl, hb9⟩)
              | (go_at_call 36; refine (HA7.out _ ?_).mono ?_; (go_split_ands; assumption); rintro e w13 ⟨rfl, hb13⟩))
            have HW13 : Hid (Below w.heap.size w w13) := HBW7.out.trans (hb13.mono HBW7.out.size)
            have HED13 : Hid (Ed w13 b a c 1000 A' B') := HED7.out.but (But.of_below (S := []) hb13) (by simp) (by simp) (by simp)
            have HBLK13 : Hid (Blk w13 g kindsC 3) := HBLK7.out.but (But.of_below (S := []) hb13) (by simp)
            have HAT13 := Lib.hid (HA7.out w13 hb13)
            have hAT13 : Calls Tryd.prog 36 #[.pointer (some ⟨b, 0, none⟩)] w13 fun e w' => e = .returned (.int .i64 (y : Int)) ∧ w' = w13 := by
              have := at_e w13 HED13.out
              rwa [HYL.out] at this
            have HAT14 := Lib.hid hAT13
            clear hAT13 HAT13 hb13 hb9 HT7 HS
            by_cases k4 : kk = 4
            · subst k4
              go_wp2
              go_roundw
              case rel => exact ⟨j + 1, A', B', by go_num, by omega, HAB'.out, HED13.out, HBLK13.out, HW13.out⟩
              case measure => simp [RowKit.intOf]; omega
            · have k4' : (kk == 4) = false := by simpa using k4
              by_cases k5 : kk = 5
              · subst k5
                go_wp2
                go_roundw
                case rel => exact ⟨j + 1, A', B', by go_num, by omega, HAB'.out, HED13.out, HBLK13.out, HW13.out⟩
                case measure => simp [RowKit.intOf]; omega
              · have k5' : (kk == 5) = false := by simpa using k5
                go_wp2
                go_roundw
                case rel => exact ⟨j + 1, A', B', by go_num, by omega, HAB'.out, HED13.out, HBLK13.out, HW13.out⟩
                case measure => simp [RowKit.intOf]; omega
          · have t0 : ((y : Int) != (x : Int)) = true := by rw [bne_iff_ne]; omega
            clear HOK hyx
            go_wp2_with fail
            go_region_held_law (fun W => Below w7.heap.size w7 W ∧ (convert 22 9 (.slice Q l.length cap)).run Tryd.prog W = .ok (.string (strOf l)) W)
              (first | assumption | exact HS.out _ (by assumption)) (first
              | (go_at_call 35; refine (HT7.out _ ?_).mono ?_; (go_split_ands; assumption); rintro e w9 ⟨rfl, hb9⟩)
              | (go_at_call 36; refine (HA7.out _ ?_).mono ?_; (go_split_ands; assumption); rintro e w13 ⟨rfl, hb13⟩))
            have HW13 : Hid (Below w.heap.size w w13) := HBW7.out.trans (hb13.mono HBW7.out.size)
            have HED13 : Hid (Ed w13 b a c 1000 A' B') := HED7.out.but (But.of_below (S := []) hb13) (by simp) (by simp) (by simp)
            have HBLK13 : Hid (Blk w13 g kindsC 3) := HBLK7.out.but (But.of_below (S := []) hb13) (by simp)
            have HAT13 := Lib.hid (HA7.out w13 hb13)
            have hAT13 : Calls Tryd.prog 36 #[.pointer (some ⟨b, 0, none⟩)] w13 fun e w' => e = .returned (.int .i64 (y : Int)) ∧ w' = w13 := by
              have := at_e w13 HED13.out
              rwa [HYL.out] at this
            have HAT14 := Lib.hid hAT13
            clear hAT13 HAT13 hb13 hb9 HT7 HS
            by_cases k4 : kk = 4
            · subst k4
              have e1 := HH.out.1 rfl (by first | rfl | trivial)
              have e2 : wrap64 ((x : Int) - 1) = (y : Int) := by rw [e1]; first | go_num | exact IntWalk.i64_in _ (by omega) | (unfold wrap64; omega)
              go_wp2_with (go_at_call 36; refine (HAT14.out).mono ?_; rintro e w15 ⟨rfl, hq⟩; obtain rfl := hq.symm)
              go_roundw
              case rel => exact ⟨j + 1, A', B', by go_num, by omega, HAB'.out, HED13.out, HBLK13.out, HW13.out⟩
              case measure => simp [RowKit.intOf]; omega
            · have k4' : (kk == 4) = false := by simpa using k4
              by_cases k5 : kk = 5
              · subst k5
                have e1 := HH.out.2 rfl (by first | rfl | trivial)
                have e2 : wrap64 ((x : Int) + 1) = (y : Int) := by rw [e1]; first | go_num | exact IntWalk.i64_in _ (by omega) | (unfold wrap64; omega)
                go_wp2_with (go_at_call 36; refine (HAT14.out).mono ?_; rintro e w15 ⟨rfl, hq⟩; obtain rfl := hq.symm)
                go_roundw
                case rel => exact ⟨j + 1, A', B', by go_num, by omega, HAB'.out, HED13.out, HBLK13.out, HW13.out⟩
                case measure => simp [RowKit.intOf]; omega
              · have k5' : (kk == 5) = false := by simpa using k5
                go_wp2
                go_roundw
                case rel => exact ⟨j + 1, A', B', by go_num, by omega, HAB'.out, HED13.out, HBLK13.out, HW13.out⟩
                case measure => simp [RowKit.intOf]; omega
        · have hge : decide ((j : Int) < (m.length : Int)) = false := by simp; omega
          have hge' : decide (j < m.length) = false := by simp; omega
          clear hlt
          obtain ⟨n, hn⟩ : ∃ n, cs.length = n := ⟨_, rfl⟩
          have hn1000 : n ≤ 1000 := by have := HCL.out; omega
          have hcount : ∀ W (A B : List Int), A ++ B = cs → Ed W b a c 1000 A B → Calls Tryd.prog 33 #[.pointer (some ⟨b, 0, none⟩)] W fun e w' => e = .returned (.int .i64 (n : Int)) ∧ w' = W := fun W A B h hed => by
            have := count_e W hed
            rw [← List.length_append, h, hn] at this
            exact this
          have HCNT := Lib.hid hcount
          have hAn : A.length ≤ n := by
            rw [← hn, ← HAB.out, List.length_append]; omega
          have HAN := Lib.hid hAn
          have HN := Lib.hid hn
          clear hcount hAn hn
          go_wp2_with fail
          refine (HCNT.out _ A B HAB.out HED.out).mono ?_
          rintro e w6 ⟨rfl, hq⟩
          obtain rfl := hq.symm
          go_wp2_with fail
          go_loopw [112] (fun i wx => R2 w b a c cs n i wx) (fun i _ => n - (RowKit.intOf i).toNat)
          case atStart => exact ⟨0, A, B, rfl, by omega, HAB.out, HAN.out, HED.out, HBW.out⟩
          case round =>
            obtain ⟨j2, A2, B2, rfl, hj2, hAB2, hA2, hed2, hbw2⟩ := hrel
            have HED2 := Lib.hid hed2
            have HBW2 := Lib.hid hbw2
            have HAB2 := Lib.hid hAB2
            have HA2 := Lib.hid hA2
            clear hed2 hbw2 hAB2 hA2
            obtain ⟨A', B', ok, hdo, hab, hok, _, _, h4⟩ := moved 4 (Or.inl rfl) A2 B2
            have HDO := Lib.hid (do_any 4 0 wr HED2.out)
            rw [hdo] at HDO
            have HAB' : Hid (A' ++ B' = cs) := hab.trans HAB2.out
            have HH := Lib.hid (h4 rfl)
            clear hdo hab h4
            by_cases hlt2 : j2 < n
            · have k0 : (j2 : Int) < (n : Int) := by omega
              go_wp2_with fail
              refine (HDO.out).mono ?_
              rintro e w7 ⟨rfl, hed7, hbt7⟩
              have HED7 := Lib.hid hed7
              have HBW7 : Hid (Below w.heap.size w w7) := HBW2.out.trans (hbt7.below HBW2.out.size (by have := HL.out; simp; omega))
              clear hed7 hbt7
              go_wp2
              go_roundw
              case rel => exact ⟨j2 + 1, A', B', by go_num, by omega, HAB'.out, by have := HH.out; have := HA2.out; omega, HED7.out, HBW7.out⟩
              case measure => simp [RowKit.intOf]; omega
            · have hge2 : decide ((j2 : Int) < (n : Int)) = false := by simp; omega
              have hge2' : decide (j2 < n) = false := by simp; omega
              have hA20 : A2.length = 0 := by have := HA2.out; omega
              have hA'0 : A'.length = 0 := by have := HH.out; omega
              have hok0 : ok = false := by rw [hok, hA20, hA'0]; rfl
              have HA0 := Lib.hid hA'0
              subst hok0
              clear hA20 hA'0 hlt2 hok
              go_wp2_with fail
              refine (HDO.out).mono ?_
              rintro e w7 ⟨rfl, hed7, hbt7⟩
              have hat := at_e w7 hed7
              rw [HA0.out] at hat
              have HAT7 := Lib.hid hat
              have HED7 := Lib.hid hed7
              have HBW7 : Hid (Below w.heap.size w w7) := HBW2.out.trans (hbt7.below HBW2.out.size (by have := HL.out; simp; omega))
              clear hed7 hbt7 hat
              go_wp2_with (first
                | (go_at_call 36; refine (HAT7.out).mono ?_; rintro e w15 ⟨rfl, hq⟩; obtain rfl := hq.symm)
                | (go_at_call 33; refine (HCNT.out _ A' B' HAB'.out HED7.out).mono ?_; rintro e w15 ⟨rfl, hq⟩; obtain rfl := hq.symm))
              go_ret
              exact ⟨rfl, HBW7.out⟩
    · have k2 : decide (200 < (m.length : Int)) = true := by simp; omega
      go_wp2_with fail
      refine (HEND.out _ HW3.out).mono ?_
      rintro e w5 ⟨rfl, hb5⟩
      go_wp2
      go_ret
      exact ⟨rfl, hb5⟩
  · have k1 : decide (1000 < (l.length : Int)) = true := by simp; omega
    go_wp2_with fail
    refine (HEND.out _ HW3.out).mono ?_
    rintro e w5 ⟨rfl, hb5⟩
    go_wp2
    go_ret
    exact ⟨rfl, hb5⟩

end Go.Proofs.YtbkpnffgihjikaaDoor.EditbufMoves

/- KeydecBack, the walk: keys that are told by their bytes are those keys, one behind the other, outside of a paste; in one the characters are Runes, and all else is Ignored. -/
import Derived.Test.YtcakeolnokninaaDoorGA
import Derived.Test.YtcakeolnokninaaDoorGK5
import Derived.Test.YtcakeolnokninaaDoorHKeyIn
import Derived.Deep.QuietTactic
import Derived.BigQuiet
set_option linter.unusedVariables false
set_option linter.unusedSimpArgs false
namespace Go.Proofs.YtcakeolnokninaaDoor.Law
open Go.ChangeShapes Go.WideShapes Go.ChangeAt Go.RowKit Utf UtfP
set_option maxRecDepth 100000 in
theorem open_keysB {H : Type} {enc : TypeId × Value → H} {w : World} {v : Value} {d : DataW H} {ps : List MemPlace} {r : Reach} {b0 : Nat}
    (hval : Value.okWide Tryd.prog w r b0 42 v) (h : DataW.Trod enc Tryd.prog w 0 (fun _ => true) true 42 v d ps) :
    ∃ (A : Option Addr) (rs : List (Int × Int)) (cap : Nat), v = .slice A rs.length cap ∧ rs.length ≤ cap ∧ cap ≤ maxLen ∧ RowsAt w 2 (fun k => [Value.int .i64 k.1, .int .i64 k.2]) A rs ∧ (∀ r ∈ rs, (Lit.int .i64 r.1).wf = true) ∧
      ((d = .nil ∧ cap = 0) ∨ ∃ elems spare, d = .slice elems spare ∧ elems.length + spare.length = cap) :=
  open_rows 2 (by decide) (fun k : Int × Int => [Value.int .i64 k.1, .int .i64 k.2]) (fun _ => rfl) (fun r => (Lit.int .i64 r.1).wf = true) Tryd.underlying42 cells_key (fun fuel cs x hd => by
    obtain ⟨k, c, e, w0, _⟩ := key_trod hd
    exact ⟨(k, c), e, w0⟩) hval h
end Go.Proofs.YtcakeolnokninaaDoor.Law

namespace Go.Proofs.YtcakeolnokninaaDoor.KeydecBack
open Go.RowKit Go.Lib Go.Shelf ChangeShapes Mem Utf UtfP Edit Law

/-- the loop over the keys -/
def RB (w : World) (d a c m : Nat) (s5 s31 : Value) (wr : World) : Prop :=
  ∃ (i : Nat) (ps : Bool), s5 = .bool ps ∧ s31 = .int .i64 (i : Int) ∧ i ≤ m ∧ Hid (Dw w wr d a c 40 [] ps) ∧ Hid (Below w.heap.size w wr)

set_option maxRecDepth 200000 in
set_option maxHeartbeats 4000000 in
theorem walk (l : List (Int × Int)) (Q : Option Addr) (cap : Nat) (w : World) (hT : Tabs w) (hA : RowsAt w 2 (fun k => [Value.int .i64 k.1, .int .i64 k.2]) Q l) (hcap : l.length ≤ cap) (hm : l.length ≤ 17592186044416) (_ : ∀ r ∈ l, (Lit.int .i64 r.1).wf = true) :
    Calls Tryd.prog 9 #[.slice Q l.length cap] w fun e w' => e = .returned (.bool true) ∧ Below w.heap.size w w' := by
  have HA := Lib.hid hA
  have HT := Lib.hid hT
  have H1 := Lib.hid (begin_c w hT)
  clear hT hA
  go_enter Tryd.func9, Tryd.ntmps9
  go_wp2_with fail
  refine (H1.out).mono ?_
  rintro e w1 ⟨a, c, d, rfl, hd1, hb1⟩
  have HB1 := Lib.hid hb1
  have HD1 := Lib.hid hd1
  have HAL := Lib.hid (alive_c w1 hd1.tab)
  clear hd1 hb1
  go_wp2_with fail
  refine (HAL.out).mono ?_
  rintro e w3 ⟨rfl, hb3⟩
  have HD3 := Lib.hid (HD1.out.below hb3)
  have HB3 : Hid (Below w.heap.size w w3) := HB1.out.trans (hb3.mono HB1.out.size)
  clear hb3
  by_cases hs : l.length ≤ 200
  · have k1 : decide (200 < (l.length : Int)) = false := by simp; omega
    go_wp2
    go_loopw [5, 31] (fun s5 s31 wr => RB w d a c l.length s5 s31 wr) (fun _ i _ => l.length - (RowKit.intOf i).toNat)
    case atStart => exact ⟨0, false, rfl, rfl, Nat.zero_le _, HD3, HB3⟩
    case round =>
      obtain ⟨i, ps, rfl, rfl, hi, HD, HB⟩ := hrel
      by_cases hlt : i < l.length
      · have k0 : (i : Int) < (l.length : Int) := by omega
        obtain ⟨B, off, rfl, hBl, hc⟩ := HA.out (List.length_pos_iff.1 (by omega : 0 < l.length))
        obtain ⟨x, hx⟩ : ∃ x, l[i]? = some x := ⟨_, List.getElem?_eq_getElem hlt⟩
        have p0 := hc i x hx 0 _ rfl
        have p1 := hc i x hx 1 _ rfl
        rw [Nat.add_zero] at p0
        rw [← World.cell?_of_block (w := w) (w' := wr) (a := ⟨B, off + i * 2, none⟩) (HB.out.block B hBl)] at p0
        rw [← World.cell?_of_block (w := w) (w' := wr) (a := ⟨B, off + i * 2 + 1, none⟩) (HB.out.block B hBl)] at p1
        obtain ⟨k, kc⟩ := x
        simp only at p0 p1
        have hal : Below wr.heap.size wr (wr.alloc (.cells #[.int .i64 k, .int .i64 kc] 54)) := (Below.refl _ _).alloc (Nat.le_refl _) _
        have HALW := Lib.hid hal
        have HBK := Lib.hid (Blk.new wr #[.int .i64 k, .int .i64 kc] 54)
        have HX := Lib.hid hx
        have HBL := Lib.hid hBl
        have HC := Lib.hid hc
        clear hal hx hBl hc
        by_cases hck : checkE k kc = 0
        · have HBY := Lib.hid (bytes_c k kc (wr.alloc (.cells #[.int .i64 k, .int .i64 kc] 54)) hck)
          have hfb := feed_bytes ps k kc hck
          have hle := bytesOf_le k kc
          have HFB := Lib.hid hfb
          have HLE := Lib.hid hle
          clear hck hfb hle
          go_wp2_with fail
          refine (HBY.out).mono ?_
          rintro e w4 ⟨A4, c4, rfl, hc4, hby4, hA4, hb4⟩
          have hb4' : Below wr.heap.size wr w4 := HALW.out.trans (hb4.mono HALW.out.size)
          have HD4 := Lib.hid (HD.out.below hb4')
          have HB4 : Hid (Below w.heap.size w w4) := HB.out.trans (hb4'.mono HB.out.size)
          have hbk4 := HBK.out.but (But.of_below (S := []) hb4) (by simp)
          have HBK4 := Lib.hid hbk4
          have hlt := HD.out.lt
          have hfd := feed_c (bytesOf k kc) A4 c4 w4 HD4.out rfl hby4 hc4 (by have := HLE.out; omega) (fun ad had _ => by
            have h1 := hA4 ad had
            have h2 : wr.heap.size ≤ (wr.alloc (.cells #[.int .i64 k, .int .i64 kc] 54)).heap.size := HALW.out.size
            simp; omega)
          rw [HFB.out] at hfd
          have HFD := Lib.hid hfd
          have HLT := Lib.hid hlt
          have HS4 := Lib.hid hb4'.size
          have HS4b := Lib.hid hbk4.lt
          clear hb4 hb4' hbk4 hby4 hA4 hc4 hfd hlt p0 p1
          go_wp2_with fail
          refine (HFD.out).mono ?_
          rintro e w5 ⟨v5, rfl, ho5, hd5, hb5⟩
          obtain ⟨A5, c5, rfl, _, hk5, hA5, _⟩ := ho5.form
          have hlt := HLT.out
          have hbk5 := HBK4.out.but hb5 (by simp; omega)
          obtain ⟨g5, o5, rfl, hg5, q0, q1⟩ := hk5.cell (j := 0) (k := (wantE ps k kc).1) rfl
          have q0' : w5.cell? ⟨g5, o5, none⟩ = some (.int .i64 (wantE ps k kc).1.1) := by simpa using q0
          have q1' : w5.cell? ⟨g5, o5 + 1, none⟩ = some (.int .i64 (wantE ps k kc).1.2) := by simpa using q1
          have c0 := hbk5.cell (j := 0) (v := .int .i64 k) rfl
          have c1 := hbk5.cell (j := 1) (v := .int .i64 kc) rfl
          have hsz5 := hbk5.lt
          have HD5 := Lib.hid hd5
          have HB5 : Hid (Below w.heap.size w w5) := HB4.out.trans (hb5.below HB4.out.size (by have := HD4.out.low; simp; omega))
          rw [show [(wantE ps k kc).1].length = 1 from rfl]
          clear ho5 hk5 hA5 hbk5 q0 q1 hd5 hb5
          cases ps
          · by_cases k14 : k = 14
            · subst k14
              have hw : wantE false 14 kc = ((15, 0), false) := by unfold wantE; simp
              rw [hw] at q0' q1' HD5
              simp only at q0' q1' HD5
              have hal7 : Below w5.heap.size w5 (w5.alloc (.cells #[.int .i64 (15), .int .i64 (0)] 54)) := (Below.refl _ _).alloc (Nat.le_refl _) _
              have HP : Hid (∀ n, Calls Tryd.prog 24 #[.pointer (some ⟨d, 0, none⟩)] ((w5.alloc (.cells #[.int .i64 (15), .int .i64 (0)] 54)).drewN n) fun e w' => e = .returned (.bool false) ∧ w' = ((w5.alloc (.cells #[.int .i64 (15), .int .i64 (0)] 54)).drewN n)) := fun n => pastes_w _ ((HD5.out.below hal7).but (But.drewS [] _ n) (by simp) (by simp) (by simp) (by simp))
              have HH : Hid (∀ n, Calls Tryd.prog 25 #[.pointer (some ⟨d, 0, none⟩)] ((w5.alloc (.cells #[.int .i64 (15), .int .i64 (0)] 54)).drewN n) fun e w' => e = .returned (.int .i64 0) ∧ w' = ((w5.alloc (.cells #[.int .i64 (15), .int .i64 (0)] 54)).drewN n)) := fun n => held_w _ ((HD5.out.below hal7).but (But.drewS [] _ n) (by simp) (by simp) (by simp) (by simp))
              have HD7 : Hid (Dw w (w5.alloc (.cells #[.int .i64 (15), .int .i64 (0)] 54)) d a c 40 [] false) := HD5.out.below hal7
              have HB7 : Hid (Below w.heap.size w (w5.alloc (.cells #[.int .i64 (15), .int .i64 (0)] 54))) := HB5.out.trans (hal7.mono HB5.out.size)
              have ex1 : ((15 : Int) == 15) = true := by simp
              have ex2 : ((0 : Int) == 0) = true := by simp
              clear hw hal7 HFD HBY 
              go_wp2
              go_quiet (first | (go_at_call 24; exact Calls.quiet_of_same (HP.out _)) | (go_at_call 25; exact Calls.quiet_of_same (HH.out _)))
              go_wp2
              go_roundw
              case rel => exact ⟨i + 1, false, rfl, by go_num, by omega, HD7.out.but (But.drewS [] _ _) (by simp) (by simp) (by simp) (by simp), HB7.out.trans ((But.drewS [] _ _).below HB7.out.size (by simp))⟩
              case measure => simp [RowKit.intOf]; omega
            · by_cases k13 : k = 13
              · subst k13
                have hw : wantE false 13 kc = ((13, kc), true) := by unfold wantE; simp
                rw [hw] at q0' q1' HD5
                simp only at q0' q1' HD5
                have hal7 : Below w5.heap.size w5 (w5.alloc (.cells #[.int .i64 (13), .int .i64 (kc)] 54)) := (Below.refl _ _).alloc (Nat.le_refl _) _
                have HP : Hid (∀ n, Calls Tryd.prog 24 #[.pointer (some ⟨d, 0, none⟩)] ((w5.alloc (.cells #[.int .i64 (13), .int .i64 (kc)] 54)).drewN n) fun e w' => e = .returned (.bool true) ∧ w' = ((w5.alloc (.cells #[.int .i64 (13), .int .i64 (kc)] 54)).drewN n)) := fun n => pastes_w _ ((HD5.out.below hal7).but (But.drewS [] _ n) (by simp) (by simp) (by simp) (by simp))
                have HH : Hid (∀ n, Calls Tryd.prog 25 #[.pointer (some ⟨d, 0, none⟩)] ((w5.alloc (.cells #[.int .i64 (13), .int .i64 (kc)] 54)).drewN n) fun e w' => e = .returned (.int .i64 0) ∧ w' = ((w5.alloc (.cells #[.int .i64 (13), .int .i64 (kc)] 54)).drewN n)) := fun n => held_w _ ((HD5.out.below hal7).but (But.drewS [] _ n) (by simp) (by simp) (by simp) (by simp))
                have HD7 : Hid (Dw w (w5.alloc (.cells #[.int .i64 (13), .int .i64 (kc)] 54)) d a c 40 [] true) := HD5.out.below hal7
                have HB7 : Hid (Below w.heap.size w (w5.alloc (.cells #[.int .i64 (13), .int .i64 (kc)] 54))) := HB5.out.trans (hal7.mono HB5.out.size)
                have ex1 : ((13 : Int) == 13) = true := by simp
                have ex2 : ((kc : Int) == kc) = true := by simp
                clear hw hal7 HFD HBY 
                go_wp2
                go_quiet (first | (go_at_call 24; exact Calls.quiet_of_same (HP.out _)) | (go_at_call 25; exact Calls.quiet_of_same (HH.out _)))
                go_wp2
                go_roundw
                case rel => exact ⟨i + 1, true, rfl, by go_num, by omega, HD7.out.but (But.drewS [] _ _) (by simp) (by simp) (by simp) (by simp), HB7.out.trans ((But.drewS [] _ _).below HB7.out.size (by simp))⟩
                case measure => simp [RowKit.intOf]; omega
              · have e14 : (k == 14) = false := by simpa using k14
                have e13 : (k == 13) = false := by simpa using k13
                have hw : wantE false k kc = ((k, kc), false) := by unfold wantE; simp [k14, k13]
                rw [hw] at q0' q1' HD5
                simp only at q0' q1' HD5
                have hal7 : Below w5.heap.size w5 (w5.alloc (.cells #[.int .i64 (k), .int .i64 (kc)] 54)) := (Below.refl _ _).alloc (Nat.le_refl _) _
                have HP : Hid (∀ n, Calls Tryd.prog 24 #[.pointer (some ⟨d, 0, none⟩)] ((w5.alloc (.cells #[.int .i64 (k), .int .i64 (kc)] 54)).drewN n) fun e w' => e = .returned (.bool false) ∧ w' = ((w5.alloc (.cells #[.int .i64 (k), .int .i64 (kc)] 54)).drewN n)) := fun n => pastes_w _ ((HD5.out.below hal7).but (But.drewS [] _ n) (by simp) (by simp) (by simp) (by simp))
                have HH : Hid (∀ n, Calls Tryd.prog 25 #[.pointer (some ⟨d, 0, none⟩)] ((w5.alloc (.cells #[.int .i64 (k), .int .i64 (kc)] 54)).drewN n) fun e w' => e = .returned (.int .i64 0) ∧ w' = ((w5.alloc (.cells #[.int .i64 (k), .int .i64 (kc)] 54)).drewN n)) := fun n => held_w _ ((HD5.out.below hal7).but (But.drewS [] _ n) (by simp) (by simp) (by simp) (by simp))
                have HD7 : Hid (Dw w (w5.alloc (.cells #[.int .i64 (k), .int .i64 (kc)] 54)) d a c 40 [] false) := HD5.out.below hal7
                have HB7 : Hid (Below w.heap.size w (w5.alloc (.cells #[.int .i64 (k), .int .i64 (kc)] 54))) := HB5.out.trans (hal7.mono HB5.out.size)
                have ex1 : ((k : Int) == k) = true := by simp
                have ex2 : ((kc : Int) == kc) = true := by simp
                clear hw hal7 HFD HBY k14 k13
                go_wp2
                go_quiet (first | (go_at_call 24; exact Calls.quiet_of_same (HP.out _)) | (go_at_call 25; exact Calls.quiet_of_same (HH.out _)))
                go_wp2
                go_roundw
                case rel => exact ⟨i + 1, false, rfl, by go_num, by omega, HD7.out.but (But.drewS [] _ _) (by simp) (by simp) (by simp) (by simp), HB7.out.trans ((But.drewS [] _ _).below HB7.out.size (by simp))⟩
                case measure => simp [RowKit.intOf]; omega
          · by_cases k14 : k = 14
            · subst k14
              have hw : wantE true 14 kc = ((14, kc), false) := by unfold wantE; simp
              rw [hw] at q0' q1' HD5
              simp only at q0' q1' HD5
              have hal7 : Below w5.heap.size w5 (w5.alloc (.cells #[.int .i64 (14), .int .i64 (kc)] 54)) := (Below.refl _ _).alloc (Nat.le_refl _) _
              have HP : Hid (∀ n, Calls Tryd.prog 24 #[.pointer (some ⟨d, 0, none⟩)] ((w5.alloc (.cells #[.int .i64 (14), .int .i64 (kc)] 54)).drewN n) fun e w' => e = .returned (.bool false) ∧ w' = ((w5.alloc (.cells #[.int .i64 (14), .int .i64 (kc)] 54)).drewN n)) := fun n => pastes_w _ ((HD5.out.below hal7).but (But.drewS [] _ n) (by simp) (by simp) (by simp) (by simp))
              have HH : Hid (∀ n, Calls Tryd.prog 25 #[.pointer (some ⟨d, 0, none⟩)] ((w5.alloc (.cells #[.int .i64 (14), .int .i64 (kc)] 54)).drewN n) fun e w' => e = .returned (.int .i64 0) ∧ w' = ((w5.alloc (.cells #[.int .i64 (14), .int .i64 (kc)] 54)).drewN n)) := fun n => held_w _ ((HD5.out.below hal7).but (But.drewS [] _ n) (by simp) (by simp) (by simp) (by simp))
              have HD7 : Hid (Dw w (w5.alloc (.cells #[.int .i64 (14), .int .i64 (kc)] 54)) d a c 40 [] false) := HD5.out.below hal7
              have HB7 : Hid (Below w.heap.size w (w5.alloc (.cells #[.int .i64 (14), .int .i64 (kc)] 54))) := HB5.out.trans (hal7.mono HB5.out.size)
              have ex1 : ((14 : Int) == 14) = true := by simp
              have ex2 : ((kc : Int) == kc) = true := by simp
              clear hw hal7 HFD HBY 
              go_wp2
              go_quiet (first | (go_at_call 24; exact Calls.quiet_of_same (HP.out _)) | (go_at_call 25; exact Calls.quiet_of_same (HH.out _)))
              go_wp2
              go_roundw
              case rel => exact ⟨i + 1, false, rfl, by go_num, by omega, HD7.out.but (But.drewS [] _ _) (by simp) (by simp) (by simp) (by simp), HB7.out.trans ((But.drewS [] _ _).below HB7.out.size (by simp))⟩
              case measure => simp [RowKit.intOf]; omega
            · by_cases k0' : k = 0
              · subst k0'
                have hw : wantE true 0 kc = ((0, kc), true) := by unfold wantE; simp
                rw [hw] at q0' q1' HD5
                simp only at q0' q1' HD5
                have hal7 : Below w5.heap.size w5 (w5.alloc (.cells #[.int .i64 (0), .int .i64 (kc)] 54)) := (Below.refl _ _).alloc (Nat.le_refl _) _
                have HP : Hid (∀ n, Calls Tryd.prog 24 #[.pointer (some ⟨d, 0, none⟩)] ((w5.alloc (.cells #[.int .i64 (0), .int .i64 (kc)] 54)).drewN n) fun e w' => e = .returned (.bool true) ∧ w' = ((w5.alloc (.cells #[.int .i64 (0), .int .i64 (kc)] 54)).drewN n)) := fun n => pastes_w _ ((HD5.out.below hal7).but (But.drewS [] _ n) (by simp) (by simp) (by simp) (by simp))
                have HH : Hid (∀ n, Calls Tryd.prog 25 #[.pointer (some ⟨d, 0, none⟩)] ((w5.alloc (.cells #[.int .i64 (0), .int .i64 (kc)] 54)).drewN n) fun e w' => e = .returned (.int .i64 0) ∧ w' = ((w5.alloc (.cells #[.int .i64 (0), .int .i64 (kc)] 54)).drewN n)) := fun n => held_w _ ((HD5.out.below hal7).but (But.drewS [] _ n) (by simp) (by simp) (by simp) (by simp))
                have HD7 : Hid (Dw w (w5.alloc (.cells #[.int .i64 (0), .int .i64 (kc)] 54)) d a c 40 [] true) := HD5.out.below hal7
                have HB7 : Hid (Below w.heap.size w (w5.alloc (.cells #[.int .i64 (0), .int .i64 (kc)] 54))) := HB5.out.trans (hal7.mono HB5.out.size)
                have ex1 : ((0 : Int) == 0) = true := by simp
                have ex2 : ((kc : Int) == kc) = true := by simp
                clear hw hal7 HFD HBY k14
                go_wp2
                go_quiet (first | (go_at_call 24; exact Calls.quiet_of_same (HP.out _)) | (go_at_call 25; exact Calls.quiet_of_same (HH.out _)))
                go_wp2
                go_roundw
                case rel => exact ⟨i + 1, true, rfl, by go_num, by omega, HD7.out.but (But.drewS [] _ _) (by simp) (by simp) (by simp) (by simp), HB7.out.trans ((But.drewS [] _ _).below HB7.out.size (by simp))⟩
                case measure => simp [RowKit.intOf]; omega
              · have e14 : (k == 14) = false := by simpa using k14
                have e0 : (k == 0) = false := by simpa using k0'
                have f14 : (k != 14) = true := by simpa using k14
                have f0 : (k != 0) = true := by simpa using k0'
                have hw : wantE true k kc = ((15, 0), true) := by unfold wantE; simp [k14, k0']
                rw [hw] at q0' q1' HD5
                simp only at q0' q1' HD5
                have hal7 : Below w5.heap.size w5 (w5.alloc (.cells #[.int .i64 (15), .int .i64 (0)] 54)) := (Below.refl _ _).alloc (Nat.le_refl _) _
                have HP : Hid (∀ n, Calls Tryd.prog 24 #[.pointer (some ⟨d, 0, none⟩)] ((w5.alloc (.cells #[.int .i64 (15), .int .i64 (0)] 54)).drewN n) fun e w' => e = .returned (.bool true) ∧ w' = ((w5.alloc (.cells #[.int .i64 (15), .int .i64 (0)] 54)).drewN n)) := fun n => pastes_w _ ((HD5.out.below hal7).but (But.drewS [] _ n) (by simp) (by simp) (by simp) (by simp))
                have HH : Hid (∀ n, Calls Tryd.prog 25 #[.pointer (some ⟨d, 0, none⟩)] ((w5.alloc (.cells #[.int .i64 (15), .int .i64 (0)] 54)).drewN n) fun e w' => e = .returned (.int .i64 0) ∧ w' = ((w5.alloc (.cells #[.int .i64 (15), .int .i64 (0)] 54)).drewN n)) := fun n => held_w _ ((HD5.out.below hal7).but (But.drewS [] _ n) (by simp) (by simp) (by simp) (by simp))
                have HD7 : Hid (Dw w (w5.alloc (.cells #[.int .i64 (15), .int .i64 (0)] 54)) d a c 40 [] true) := HD5.out.below hal7
                have HB7 : Hid (Below w.heap.size w (w5.alloc (.cells #[.int .i64 (15), .int .i64 (0)] 54))) := HB5.out.trans (hal7.mono HB5.out.size)
                have ex1 : ((15 : Int) == 15) = true := by simp
                have ex2 : ((0 : Int) == 0) = true := by simp
                clear hw hal7 HFD HBY k14 k0'
                go_wp2
                go_quiet (first | (go_at_call 24; exact Calls.quiet_of_same (HP.out _)) | (go_at_call 25; exact Calls.quiet_of_same (HH.out _)))
                go_wp2
                go_roundw
                case rel => exact ⟨i + 1, true, rfl, by go_num, by omega, HD7.out.but (But.drewS [] _ _) (by simp) (by simp) (by simp) (by simp), HB7.out.trans ((But.drewS [] _ _).below HB7.out.size (by simp))⟩
                case measure => simp [RowKit.intOf]; omega
        · have HBY := Lib.hid (bytes_bad k kc (wr.alloc (.cells #[.int .i64 k, .int .i64 kc] 54)) hck)
          clear hck
          go_wp2_with fail
          refine (HBY.out).mono ?_
          rintro e w4 ⟨⟨x, hx0, rfl⟩, hb4⟩
          have hb4' : Below wr.heap.size wr w4 := HALW.out.trans (hb4.mono HALW.out.size)
          have HD4 := Lib.hid (HD.out.below hb4')
          have HB4 : Hid (Below w.heap.size w w4) := HB.out.trans (hb4'.mono HB.out.size)
          have kx : (x != 0) = true := by simpa using hx0
          clear hb4 hb4' hx0 p0 p1
          go_wp2
          go_roundw
          case rel => exact ⟨i + 1, ps, rfl, by go_num, by omega, HD4, HB4⟩
          case measure => simp [RowKit.intOf]; omega
      · have hil : i = l.length := by omega
        have kk : decide ((i : Int) < (l.length : Int)) = false := by simp; omega
        have kk' : decide (i < l.length) = false := by simp; omega
        clear hlt hil
        go_wp2
        go_ret
        exact ⟨rfl, HB.out⟩
  · have k1 : decide (200 < (l.length : Int)) = true := by simp; omega
    have HA2 := Lib.hid (alive_c w3 HD3.out.tab)
    clear hs
    go_wp2_with fail
    refine (HA2.out).mono ?_
    rintro e w4 ⟨rfl, hb4⟩
    have HB4 : Hid (Below w.heap.size w w4) := HB3.out.trans (hb4.mono HB3.out.size)
    clear hb4
    go_wp2
    go_ret
    exact ⟨rfl, HB4.out⟩

end Go.Proofs.YtcakeolnokninaaDoor.KeydecBack

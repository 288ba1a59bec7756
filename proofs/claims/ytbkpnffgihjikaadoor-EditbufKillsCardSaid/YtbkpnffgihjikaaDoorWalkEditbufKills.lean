/- EditbufKills, the walk: a text that is cut at a place by KillEnd, and another by KillStart, is both, one behind the other. -/
import Derived.Test.YtbkpnffgihjikaaDoorTabs
import Derived.Test.YtbkpnffgihjikaaDoorEdL
import Derived.LoopN
import Derived.Deep.RegionHeldLaw
import Derived.Laws.Bits64
set_option linter.unusedVariables false
namespace Go.Proofs.YtbkpnffgihjikaaDoor.EditbufKills
open Go.RowKit Go.Lib Go.Shelf ChangeShapes Mem Utf UtfP Edit Law

attribute [local go_sem] strOf_toList strOf_append strOf_size

/-- the two buffers: which one, and where it lies -/
structure Two (w : World) (bf af cf : Nat → Nat) (cs : List Int) (f : Nat → List Int × List Int) : Prop where
  ed : ∀ m, m < 2 → Ed w (bf m) (af m) (cf m) 1000 (f m).1 (f m).2

def Apart (bf af cf : Nat → Nat) : Prop := ∀ m n, m < 2 → n < 2 → m ≠ n → (bf m ≠ bf n ∧ bf m ≠ af n ∧ bf m ≠ cf n) ∧ (af m ≠ bf n ∧ af m ≠ af n ∧ af m ≠ cf n) ∧ (cf m ≠ bf n ∧ cf m ≠ af n ∧ cf m ≠ cf n)

/-- a change to one buffer leaves the other -/
theorem two_step {w w' : World} {bf af cf : Nat → Nat} {cs : List Int} {f g : Nat → List Int × List Int} (hap : Apart bf af cf) (h : Two w bf af cf cs f) (m : Nat) (hm : m < 2) (hb : But [bf m, af m, cf m] w w') (he : Ed w' (bf m) (af m) (cf m) 1000 (g m).1 (g m).2) (hg : ∀ n, n < 2 → n ≠ m → g n = f n) : Two w' bf af cf cs g := by
  refine ⟨fun n hn => ?_⟩
  by_cases e : n = m
  · subst e; exact he
  · rw [hg n hn e]
    obtain ⟨h1, h2, h3⟩ := hap n m hn hm e
    exact (h.ed n hn).but hb (by simp; omega) (by simp; omega) (by simp; omega)

def fO (cs : List Int) (k j n : Nat) : List Int × List Int := if n < j then (cs.take k, cs.drop k) else (cs, [])
def fI (cs : List Int) (k j i n : Nat) : List Int × List Int := if n = j then (cs.take i, cs.drop i) else fO cs k j n

def RO (w : World) (bf af cf : Nat → Nat) (cs : List Int) (k g : Nat) (i : Value) (wr : World) : Prop :=
  ∃ j : Nat, i = .int .i64 (j : Int) ∧ j ≤ 2 ∧ Two wr bf af cf cs (fO cs k j) ∧ Blk wr g #[.pointer (some ⟨bf 0, 0, none⟩), .pointer (some ⟨bf 1, 0, none⟩)] 38 ∧ Below w.heap.size w wr
def RI (w : World) (bf af cf : Nat → Nat) (cs : List Int) (k j g : Nat) (i : Value) (wr : World) : Prop :=
  ∃ x : Nat, i = .int .i64 (x : Int) ∧ x ≤ k ∧ Two wr bf af cf cs (fI cs k j x) ∧ Blk wr g #[.pointer (some ⟨bf 0, 0, none⟩), .pointer (some ⟨bf 1, 0, none⟩)] 38 ∧ Below w.heap.size w wr

theorem doHome (A B : List Int) : doE 1000 6 0 A B = ([], A ++ B, chg A B ([], A ++ B), 0) := rfl
theorem doRight (cs : List Int) (i : Nat) (hi : i < cs.length) : doE 1000 5 0 (cs.take i) (cs.drop i) = (cs.take (i + 1), cs.drop (i + 1), true, 0) := by
  have e : keyE 5 (cs.take i) (cs.drop i) = (cs.take (i + 1), cs.drop (i + 1)) := by
    show ((cs.take i ++ (cs.drop i).take 1, (cs.drop i).tail) : List Int × List Int) = _
    rw [← List.take_add, List.tail_drop]
  unfold doE
  rw [if_neg (by decide), e]
  have : chg (cs.take i) (cs.drop i) (cs.take (i + 1), cs.drop (i + 1)) = true := by
    unfold chg
    simp
    omega
  rw [this]
theorem doKillEnd (A B : List Int) : doE 1000 9 0 A B = (A, [], chg A B (A, []), 0) := rfl
theorem doKillStart (A B : List Int) : doE 1000 8 0 A B = ([], B, chg A B ([], B), 0) := rfl

set_option maxRecDepth 200000 in
set_option maxHeartbeats 4000000 in
theorem walk (l : List UInt8) (Q : Option Addr) (cap : Nat) (x : Int) (w : World) (hT : Tabs w) (hA : BytesAt w Q l) (hcap : l.length ≤ cap) (hm : l.length ≤ 140737488355328) (wx : (Lit.int .i64 x).wf = true) :
    Calls Tryd.prog 5 #[.slice Q l.length cap, .int .i64 x] w fun e w' => e = .returned (.bool true) ∧ Below w.heap.size w w' := by
  have HT := Lib.hid hT
  have HA := Lib.hid hA
  clear hT hA
  have HAL : Hid (∀ W, Calls Tryd.prog 31 #[] W fun e w' => e = .returned (.bool true) ∧ Below W.heap.size W w') := fun W => Edit.alive W
  have HBG : Hid (∀ W, Calls Tryd.prog 30 #[.int .i64 1000] W fun e w' => ∃ b a c, e = .returned (.tuple #[.pointer (some ⟨a, 0, none⟩), .pointer (some ⟨b, 0, none⟩)]) ∧ W.heap.size ≤ b ∧ W.heap.size ≤ a ∧ W.heap.size ≤ c ∧ Ed w' b a c 1000 [] [] ∧ Below W.heap.size W w') := fun W => begin_c 1000 (by decide) (by decide) W
  go_enter Tryd.func5, Tryd.ntmps5
  go_wp2_with fail
  refine (HBG.out _).mono ?_
  rintro e w1 ⟨b1, a1, c1, rfl, hlb, hla, hlc, hed, hb1⟩
  have HL1 := Lib.hid (show w.heap.size ≤ b1 ∧ w.heap.size ≤ a1 ∧ w.heap.size ≤ c1 from ⟨hlb, hla, hlc⟩)
  have HW1 := Lib.hid hb1
  have HED1 := Lib.hid hed
  clear hlb hla hlc hed hb1
  go_wp2_with fail
  refine (HBG.out _).mono ?_
  rintro e w2 ⟨b2, a2, c2, rfl, hlb, hla, hlc, hed, hb2⟩
  have HAP : Hid ((b1 < b2 ∧ a1 < b2 ∧ c1 < b2) ∧ (b1 < a2 ∧ a1 < a2 ∧ c1 < a2) ∧ (b1 < c2 ∧ a1 < c2 ∧ c1 < c2)) := by
    have h1 := HED1.out.buf.head.lt
    have h2 := HED1.out.buf.ar.head.lt
    have h3 := HED1.out.buf.ar.body.lt
    refine ⟨⟨?_, ?_, ?_⟩, ⟨?_, ?_, ?_⟩, ⟨?_, ?_, ?_⟩⟩ <;> omega
  have HL2 : Hid (w.heap.size ≤ b2 ∧ w.heap.size ≤ a2 ∧ w.heap.size ≤ c2) := by
    have := HW1.out.size
    refine ⟨?_, ?_, ?_⟩ <;> omega
  have HE1 : Hid (Ed w2 b1 a1 c1 1000 [] []) := HED1.out.but (But.of_below (S := []) hb2) (by simp) (by simp) (by simp)
  have HE2 := Lib.hid hed
  have HW2 : Hid (Below w.heap.size w w2) := HW1.out.trans (hb2.mono HW1.out.size)
  clear hlb hla hlc hed hb2
  go_wp2_with fail
  refine (HAL.out _).mono ?_
  rintro e w3 ⟨rfl, hb3⟩
  have HE13 : Hid (Ed w3 b1 a1 c1 1000 [] []) := HE1.out.but (But.of_below (S := []) hb3) (by simp) (by simp) (by simp)
  have HE23 : Hid (Ed w3 b2 a2 c2 1000 [] []) := HE2.out.but (But.of_below (S := []) hb3) (by simp) (by simp) (by simp)
  have HW3 : Hid (Below w.heap.size w w3) := HW2.out.trans (hb3.mono HW2.out.size)
  clear hb3
  by_cases hl : l.length ≤ 1000
  · have k1 : decide (1000 < (l.length : Int)) = false := by simp; omega
    have hne : ∀ ad, Q = some ad → l ≠ [] → ad.block ≠ c1 ∧ ad.block ≠ c2 ∧ ad.block < w.heap.size := fun ad h h' => by
      obtain ⟨g, off, e, hlt, _⟩ := HA.out h'
      rw [e] at h
      injection h with h
      have := HL1.out
      have := HL2.out
      subst h
      refine ⟨?_, ?_, hlt⟩ <;> (show g ≠ _; omega)
    have HNE := Lib.hid hne
    clear hne
    go_wp2_with fail
    refine (ins_e Q l cap w3 (HT.out.below HW3.out) HE13.out (HA.out.below HW3.out) hcap hm (fun ad h h' => (HNE.out ad h h').1)).mono ?_
    rintro e w4 ⟨er, A', rfl, hed4, hbt4, hcase⟩
    have HW4 : Hid (Below w.heap.size w w4) := HW3.out.trans (hbt4.below HW3.out.size (by have := HL1.out; simp; omega))
    rcases hcase with ⟨_, rfl, _⟩ | ⟨_, hx, _⟩ | ⟨hfine, _, rfl, hA'⟩
    · go_wp2_with fail
      refine (HAL.out _).mono ?_
      rintro e w5 ⟨rfl, hb5⟩
      go_wp2
      go_ret
      exact ⟨rfl, HW4.out.trans (hb5.mono HW4.out.size)⟩
    · simp [encs_nil] at hx; omega
    rw [hA', List.nil_append] at hed4
    have hcs := (charsOf_spec hfine).1
    obtain ⟨cs, hcse⟩ : ∃ cs, charsOf l = cs := ⟨_, rfl⟩
    rw [hcse] at hed4 hcs
    have HCE := Lib.hid hcse
    clear hcse
    have HFINE := Lib.hid hfine
    have HCS := Lib.hid hcs
    have HED4 := Lib.hid hed4
    have HE24 : Hid (Ed w4 b2 a2 c2 1000 [] []) := HE23.out.but hbt4 (by have := HAP.out; simp; omega) (by have := HAP.out; simp; omega) (by have := HAP.out; simp; omega)
    clear hfine hcs hed4 hbt4 hA'
    go_wp2_with fail
    refine (ins_e Q l cap w4 (HT.out.below HW4.out) HE24.out (HA.out.below HW4.out) hcap hm (fun ad h h' => (HNE.out ad h h').2.1)).mono ?_
    rintro e w5 ⟨er, A', rfl, hed5, hbt5, hcase⟩
    have HW5 : Hid (Below w.heap.size w w5) := HW4.out.trans (hbt5.below HW4.out.size (by have := HL2.out; simp; omega))
    rcases hcase with ⟨hx, _⟩ | ⟨_, hx, _⟩ | ⟨_, _, rfl, hA'⟩
    · rw [HFINE.out] at hx; cases hx
    · simp [encs_nil] at hx; omega
    rw [hA', List.nil_append, HCE.out] at hed5
    have HED5 := Lib.hid hed5
    have HE15 : Hid (Ed w5 b1 a1 c1 1000 cs []) := HED4.out.but hbt5 (by have := HAP.out; simp; omega) (by have := HAP.out; simp; omega) (by have := HAP.out; simp; omega)
    clear hed5 hbt5 hA'
    have hn1000 : cs.length ≤ 1000 := by
      have := encs_len cs
      rw [← HCS.out] at this
      omega
    obtain ⟨n, hn⟩ : ∃ n, cs.length = n := ⟨_, rfl⟩
    have HC := fun W (h : Ed W b1 a1 c1 1000 cs []) => count_e W h
    rw [List.length_nil, Nat.add_zero, hn] at HC
    have HC := Lib.hid HC
    rw [hn] at hn1000
    have HN := Lib.hid hn
    clear hn
    obtain ⟨u, hu⟩ : ∃ u, IntKind.u64.wrap x = u := ⟨_, rfl⟩
    have hu0 : 0 ≤ u := by rw [← hu]; rw [IntKind.wrap_u64]; omega
    have e1 : IntKind.u64.wrap ((n : Int) + 1) = (n : Int) + 1 := by rw [IntKind.wrap_u64]; omega
    obtain ⟨k, hk⟩ : ∃ k : Nat, u.tmod ((n : Int) + 1) = (k : Int) := ⟨(u.tmod ((n : Int) + 1)).toNat, by
      rw [Int.tmod_eq_emod_of_nonneg hu0]
      have := Int.emod_nonneg u (show (n : Int) + 1 ≠ 0 by omega)
      omega⟩
    have hkn : k ≤ n := by
      rw [Int.tmod_eq_emod_of_nonneg hu0] at hk
      have := Int.emod_lt_of_pos u (show (0 : Int) < (n : Int) + 1 by omega)
      omega
    have e2 : IntKind.i64.wrap (k : Int) = (k : Int) := by rw [IntKind.wrap_i64]; omega
    go_wp2_with fail
    refine (HC.out _ HE15.out).mono ?_
    rintro e w6 ⟨rfl, hq⟩
    obtain rfl := hq.symm
    obtain ⟨bf, hbf⟩ : ∃ bf : Nat → Nat, bf = fun m => if m = 0 then b1 else b2 := ⟨_, rfl⟩
    obtain ⟨af, haf⟩ : ∃ af : Nat → Nat, af = fun m => if m = 0 then a1 else a2 := ⟨_, rfl⟩
    obtain ⟨cf, hcf⟩ : ∃ cf : Nat → Nat, cf = fun m => if m = 0 then c1 else c2 := ⟨_, rfl⟩
    have hbf0 : bf 0 = b1 := by rw [hbf]; rfl
    have hbf1 : bf 1 = b2 := by rw [hbf]; rfl
    have haf0 : af 0 = a1 := by rw [haf]; rfl
    have haf1 : af 1 = a2 := by rw [haf]; rfl
    have hcf0 : cf 0 = c1 := by rw [hcf]; rfl
    have hcf1 : cf 1 = c2 := by rw [hcf]; rfl
    have hap : Apart bf af cf := by
      have hh := HAP.out
      intro m n hm hn hne
      rcases (by omega : (m = 0 ∧ n = 1) ∨ (m = 1 ∧ n = 0)) with ⟨rfl, rfl⟩ | ⟨rfl, rfl⟩
      · rw [hbf0, hbf1, haf0, haf1, hcf0, hcf1]; omega
      · rw [hbf0, hbf1, haf0, haf1, hcf0, hcf1]; omega
    have htwo : Two w5 bf af cf cs (fO cs k 0) := ⟨fun m hm => by
      rcases (by omega : m = 0 ∨ m = 1) with rfl | rfl
      · rw [hbf0, haf0, hcf0]; exact HE15.out
      · rw [hbf1, haf1, hcf1]; exact HED5.out⟩
    have hlo : ∀ m, m < 2 → w.heap.size ≤ bf m ∧ w.heap.size ≤ af m ∧ w.heap.size ≤ cf m := fun m hm => by
      have := HL1.out
      have := HL2.out
      rcases (by omega : m = 0 ∨ m = 1) with rfl | rfl
      · rw [hbf0, haf0, hcf0]; omega
      · rw [hbf1, haf1, hcf1]; omega
    have HAPT := Lib.hid hap
    have HTWO := Lib.hid htwo
    have HLO := Lib.hid hlo
    have HB := Lib.hid (show b1 = bf 0 ∧ b2 = bf 1 from ⟨hbf0.symm, hbf1.symm⟩)
    clear hbf haf hcf hbf0 hbf1 haf0 haf1 hcf0 hcf1 hap htwo hlo
    go_wp2
    rw [HB.out.1, HB.out.2]
    obtain ⟨g, hg⟩ : ∃ g, g = w5.heap.size := ⟨_, rfl⟩
    have HG := Lib.hid hg
    clear hg
    rw [← HG.out]
    have hgo : ∀ m, m < 2 → g ≠ bf m ∧ g ≠ af m ∧ g ≠ cf m := fun m hm => by
      have h1 := (HTWO.out.ed m hm).buf.head.lt
      have h2 := (HTWO.out.ed m hm).buf.ar.head.lt
      have h3 := (HTWO.out.ed m hm).buf.ar.body.lt
      have := HG.out
      omega
    have HGO := Lib.hid hgo
    have HKN := Lib.hid hkn
    clear hgo hk
    go_loopw [63] (fun i wr => RO w bf af cf cs k g i wr) (fun i _ => 2 - (RowKit.intOf i).toNat)
    case atStart =>
      refine ⟨0, rfl, by omega, ⟨fun m hm => (HTWO.out.ed m hm).but (But.of_below (S := []) ((Below.refl _ _).alloc (Nat.le_refl _) _)) (by simp) (by simp) (by simp)⟩, ?_, HW5.out.alloc HW5.out.size _⟩
      rw [HG.out]
      exact Blk.new _ _ _
    case round =>
      obtain ⟨j, rfl, hj, htw, hblk, hbw⟩ := hrel
      have HTW := Lib.hid htw
      have HBLK := Lib.hid hblk
      have HBW := Lib.hid hbw
      clear htw hblk hbw
      by_cases hlt : j < 2
      · have k0 : (j : Int) < 2 := by omega
        have q0 : wr.cell? ⟨g, j, none⟩ = some (.pointer (some ⟨bf j, 0, none⟩)) := HBLK.out.cell (by
          rcases (by omega : j = 0 ∨ j = 1) with rfl | rfl <;> rfl)
        go_wp2_with fail
        have hx := HTW.out.ed j hlt
        rw [show fO cs k j j = (cs, []) from if_neg (Nat.lt_irrefl _)] at hx
        refine (do_any 6 0 _ hx).mono ?_
        rw [doHome, List.append_nil]
        rintro e w7 ⟨rfl, hed7, hbt7⟩
        have htw7 : Two w7 bf af cf cs (fI cs k j 0) := two_step HAPT.out HTW.out j hlt hbt7 (by rw [show fI cs k j 0 j = ([], cs) from if_pos rfl]; exact hed7) (fun n _ hn => if_neg hn)
        have HTW7 := Lib.hid htw7
        have HBLK7 : Hid (Blk w7 g _ 38) := HBLK.out.but hbt7 (by have := HGO.out j hlt; simp; omega)
        have HBW7 : Hid (Below w.heap.size w w7) := HBW.out.trans (hbt7.below HBW.out.size (by have := HLO.out j hlt; simp; omega))
        clear htw7 hed7 hbt7 hx
        go_wp2
        go_loopw [71] (fun i wr => RI w bf af cf cs k j g i wr) (fun i _ => k - (RowKit.intOf i).toNat)
        case atStart => exact ⟨0, rfl, by omega, HTW7.out, HBLK7.out, HBW7.out⟩
        case round =>
          obtain ⟨y, rfl, hy, htw, hblk, hbw⟩ := hrel
          have HTWY := Lib.hid htw
          have HBLKY := Lib.hid hblk
          have HBWY := Lib.hid hbw
          clear htw hblk hbw
          by_cases hlty : y < k
          · have k0y : (y : Int) < (k : Int) := by omega
            go_wp2_with fail
            have hx := HTWY.out.ed j hlt
            rw [show fI cs k j y j = (cs.take y, cs.drop y) from if_pos rfl] at hx
            refine (do_any 5 0 _ hx).mono ?_
            rw [doRight cs y (by have := HN.out; have := HKN.out; omega)]
            rintro e w8 ⟨rfl, hed8, hbt8⟩
            have htw8 : Two w8 bf af cf cs (fI cs k j (y + 1)) := two_step HAPT.out HTWY.out j hlt hbt8 (by rw [show fI cs k j (y + 1) j = (cs.take (y + 1), cs.drop (y + 1)) from if_pos rfl]; exact hed8) (fun n _ hn => by unfold fI; rw [if_neg hn, if_neg hn])
            have HTW8 := Lib.hid htw8
            have HBLK8 : Hid (Blk w8 g _ 38) := HBLKY.out.but hbt8 (by have := HGO.out j hlt; simp; omega)
            have HBW8 : Hid (Below w.heap.size w w8) := HBWY.out.trans (hbt8.below HBWY.out.size (by have := HLO.out j hlt; simp; omega))
            clear htw8 hed8 hbt8 hx
            go_wp2
            go_roundw
            case rel => exact ⟨y + 1, by go_num, by omega, HTW8.out, HBLK8.out, HBW8.out⟩
            case measure => simp [RowKit.intOf]; omega
          · have k0y : decide ((y : Int) < (k : Int)) = false := by simp; omega
            have k0y' : decide (y < k) = false := by simp; omega
            have HY : Hid (y = k) := (by omega : y = k)
            go_wp2
            go_roundw
            case rel =>
              refine ⟨j + 1, by go_num, by omega, ?_, HBLKY.out, HBWY.out⟩
              refine ⟨fun m hm => ?_⟩
              have := HTWY.out.ed m hm
              rw [HY.out] at this
              rw [show fO cs k (j + 1) m = fI cs k j k m from ?_]
              · exact this
              · unfold fI fO
                by_cases e : m = j
                · rw [if_pos e, if_pos (by omega)]
                · rw [if_neg e]
                  by_cases e2 : m < j
                  · rw [if_pos (by omega), if_pos e2]
                  · rw [if_neg (by omega), if_neg e2]
            case measure => simp [RowKit.intOf]; omega
      · have hge : decide ((j : Int) < 2) = false := by simp; omega
        have hge' : decide (j < 2) = false := by simp; omega
        obtain rfl : j = 2 := by omega
        have e3 : (cs.take k).length = k := by rw [List.length_take]; have := HN.out; omega
        have e4 : (cs.drop k).length = n - k := by rw [List.length_drop]; have := HN.out; omega
        have hx0 := HTW.out.ed 0 (by decide)
        have hx1 := HTW.out.ed 1 (by decide)
        rw [show fO cs k 2 0 = (cs.take k, cs.drop k) from rfl] at hx0
        rw [show fO cs k 2 1 = (cs.take k, cs.drop k) from rfl] at hx1
        have hcnt := count_e wr hx0
        rw [e3, e4, Nat.add_sub_cancel' hkn] at hcnt
        have HCNT := Lib.hid hcnt
        have HX0 := Lib.hid hx0
        have HX1 := Lib.hid hx1
        have HE3 := Lib.hid e3
        have HE4 := Lib.hid e4
        clear hcnt hx0 hx1 e3 e4
        go_wp2_with fail
        refine (HCNT.out).mono ?_
        rintro e w6 ⟨rfl, hq⟩
        obtain rfl := hq.symm
        go_wp2_with fail
        refine (do_any 9 0 _ HX0.out).mono ?_
        rw [doKillEnd]
        rintro e w7 ⟨rfl, hed7, hbt7⟩
        have hx1 : Ed w7 (bf 1) (af 1) (cf 1) 1000 (cs.take k) (cs.drop k) := by
          obtain ⟨h1, h2, h3⟩ := HAPT.out 1 0 (by decide) (by decide) (by decide)
          exact HX1.out.but hbt7 (by simp; omega) (by simp; omega) (by simp; omega)
        have HX17 := Lib.hid hx1
        have HX07 := Lib.hid hed7
        have HBW7 : Hid (Below w.heap.size w w7) := HBW.out.trans (hbt7.below HBW.out.size (by have := HLO.out 0 (by decide); simp; omega))
        clear hx1 hed7 hbt7
        go_wp2_with fail
        refine (do_any 8 0 _ HX17.out).mono ?_
        rw [doKillStart]
        rintro e w8 ⟨rfl, hed8, hbt8⟩
        have hx0 : Ed w8 (bf 0) (af 0) (cf 0) 1000 (cs.take k) [] := by
          obtain ⟨h1, h2, h3⟩ := HAPT.out 0 1 (by decide) (by decide) (by decide)
          exact HX07.out.but hbt8 (by simp; omega) (by simp; omega) (by simp; omega)
        have HX08 := Lib.hid hx0
        have HX18 := Lib.hid hed8
        have HBW8 : Hid (Below w.heap.size w w8) := HBW7.out.trans (hbt8.below HBW7.out.size (by have := HLO.out 1 (by decide); simp; omega))
        clear hx0 hed8 hbt8
        have HCV : Hid (∀ W, Below w.heap.size w W → (convert 22 9 (.slice Q l.length cap)).run Tryd.prog W = .ok (.string (strOf l)) W) := fun W hW => conv_str (HA.out.below hW)
        have HT0 : Hid (∀ W, Below w8.heap.size w8 W → Calls Tryd.prog 35 #[.pointer (some ⟨bf 0, 0, none⟩)] W fun e w' => e = .returned (.string (strOf (encs (cs.take k)))) ∧ Below w8.heap.size w8 w') := fun W hW => by
          have := text_e W (HX08.out.but (But.of_below (S := []) hW) (by simp) (by simp) (by simp))
          rw [encs_nil, List.append_nil] at this
          exact this.mono fun e w' ⟨he, hb⟩ => ⟨he, hW.trans (hb.mono hW.size)⟩
        have HT1 : Hid (∀ W, Below w8.heap.size w8 W → Calls Tryd.prog 35 #[.pointer (some ⟨bf 1, 0, none⟩)] W fun e w' => e = .returned (.string (strOf (encs (cs.drop k)))) ∧ Below w8.heap.size w8 w') := fun W hW => by
          have := text_e W (HX18.out.but (But.of_below (S := []) hW) (by simp) (by simp) (by simp))
          rw [encs_nil, List.nil_append] at this
          exact this.mono fun e w' ⟨he, hb⟩ => ⟨he, hW.trans (hb.mono hW.size)⟩
        have HC0 : Hid (∀ W, Below w8.heap.size w8 W → Calls Tryd.prog 33 #[.pointer (some ⟨bf 0, 0, none⟩)] W fun e w' => e = .returned (.int .i64 (k : Int)) ∧ Below w8.heap.size w8 w') := fun W hW => by
          have := count_e W (HX08.out.but (But.of_below (S := []) hW) (by simp) (by simp) (by simp))
          rw [HE3.out, List.length_nil, Nat.add_zero] at this
          exact this.mono fun e w' ⟨he, hb⟩ => ⟨he, by rw [hb]; exact hW⟩
        have HC1 : Hid (∀ W, Below w8.heap.size w8 W → Calls Tryd.prog 33 #[.pointer (some ⟨bf 1, 0, none⟩)] W fun e w' => e = .returned (.int .i64 ((n - k : Nat) : Int)) ∧ Below w8.heap.size w8 w') := fun W hW => by
          have := count_e W (HX18.out.but (But.of_below (S := []) hW) (by simp) (by simp) (by simp))
          rw [HE4.out, List.length_nil, Nat.zero_add] at this
          exact this.mono fun e w' ⟨he, hb⟩ => ⟨he, by rw [hb]; exact hW⟩
        have HA0 : Hid (∀ W, Below w8.heap.size w8 W → Calls Tryd.prog 36 #[.pointer (some ⟨bf 0, 0, none⟩)] W fun e w' => e = .returned (.int .i64 (k : Int)) ∧ Below w8.heap.size w8 w') := fun W hW => by
          have := at_e W (HX08.out.but (But.of_below (S := []) hW) (by simp) (by simp) (by simp))
          rw [HE3.out] at this
          exact this.mono fun e w' ⟨he, hb⟩ => ⟨he, by rw [hb]; exact hW⟩
        have HA1 : Hid (∀ W, Below w8.heap.size w8 W → Calls Tryd.prog 36 #[.pointer (some ⟨bf 1, 0, none⟩)] W fun e w' => e = .returned (.int .i64 0) ∧ Below w8.heap.size w8 w') := fun W hW => by
          have := at_e W (HX18.out.but (But.of_below (S := []) hW) (by simp) (by simp) (by simp))
          exact this.mono fun e w' ⟨he, hb⟩ => ⟨he, by rw [hb]; exact hW⟩
        obtain ⟨sA, hsA⟩ : ∃ s, encs (cs.take k) = s := ⟨_, rfl⟩
        obtain ⟨sB, hsB⟩ : ∃ s, encs (cs.drop k) = s := ⟨_, rfl⟩
        have hjoin : sA ++ sB = l := by
          rw [← hsA, ← hsB, ← encs_append, List.take_append_drop, ← HCS.out]
        have hsl : sA.length + sB.length ≤ 1000 := by
          rw [← List.length_append, hjoin]; exact hl
        rw [hsA] at HT0
        rw [hsB] at HT1
        clear hsA hsB
        have hnk : IntKind.i64.wrap ((n : Int) - (k : Int)) = ((n - k : Nat) : Int) := by rw [IntKind.wrap_i64]; omega
        have HS : Hid (∀ W, Below w8.heap.size w8 W → Below w8.heap.size w8 W ∧ (convert 22 9 (.slice Q l.length cap)).run Tryd.prog W = .ok (.string (strOf l)) W) := fun W hW => ⟨hW, HCV.out W (HBW8.out.trans (hW.mono HBW8.out.size))⟩
        have hd0 : Below w8.heap.size w8 w8.drew := (Below.refl _ _).drew
        go_wp2_with fail
        go_region_held_law (fun W => Below w8.heap.size w8 W ∧ (convert 22 9 (.slice Q l.length cap)).run Tryd.prog W = .ok (.string (strOf l)) W)
          (first | assumption | exact HS.out _ (by assumption)) (first
          | (go_at_call_of 35 (bf 0); refine (HT0.out _ ?_).mono ?_; (go_split_ands; assumption); rintro e w9 ⟨rfl, hb9⟩)
          | (go_at_call_of 35 (bf 1); refine (HT1.out _ ?_).mono ?_; (go_split_ands; assumption); rintro e w10 ⟨rfl, hb10⟩)
          | (go_at_call_of 33 (bf 0); refine (HC0.out _ ?_).mono ?_; (go_split_ands; assumption); rintro e w11 ⟨rfl, hb11⟩)
          | (go_at_call_of 33 (bf 1); refine (HC1.out _ ?_).mono ?_; (go_split_ands; assumption); rintro e w12 ⟨rfl, hb12⟩)
          | (go_at_call_of 36 (bf 0); refine (HA0.out _ ?_).mono ?_; (go_split_ands; assumption); rintro e w13 ⟨rfl, hb13⟩)
          | (go_at_call_of 36 (bf 1); refine (HA1.out _ ?_).mono ?_; (go_split_ands; assumption); rintro e w14 ⟨rfl, hb14⟩))
        go_wp2
        go_ret
        exact ⟨rfl, HBW8.out.trans (hb14.mono HBW8.out.size)⟩
  · have k1 : decide (1000 < (l.length : Int)) = true := by simp; omega
    go_wp2_with fail
    refine (HAL.out _).mono ?_
    rintro e w5 ⟨rfl, hb5⟩
    go_wp2
    go_ret
    exact ⟨rfl, HW3.out.trans (hb5.mono HW3.out.size)⟩

end Go.Proofs.YtbkpnffgihjikaaDoor.EditbufKills

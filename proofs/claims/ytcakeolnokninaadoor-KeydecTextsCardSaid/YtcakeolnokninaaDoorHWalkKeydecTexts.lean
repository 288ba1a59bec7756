/- KeydecTexts, the walk: of bytes without control characters, at the end, the Runes are the characters of layer 1's text. -/
import Derived.Test.YtcakeolnokninaaDoorGA
import Derived.Test.YtcakeolnokninaaDoorGK4
import Derived.Test.YtcakeolnokninaaDoorGF
import Derived.Test.YtcakeolnokninaaDoorGC
import Derived.Lib.SlBytesConst
set_option linter.unusedVariables false
set_option linter.unusedSimpArgs false
namespace Go.Proofs.YtcakeolnokninaaDoor.KeydecTexts
open Go.RowKit Go.Lib Go.Shelf ChangeShapes Mem Utf UtfP Edit Law

def okB (c : UInt8) : Bool := decide (32 ≤ c.toNat) && decide (c.toNat ≠ 127)
def filt (l : List UInt8) : List UInt8 := l.filter okB
theorem filt_ctl (l : List UInt8) : NoCtl (filt l) := by
  intro b hb
  have := (List.mem_filter.1 hb).2
  unfold okB at this
  simpa using this
theorem filt_step {l : List UInt8} {i : Nat} {u : UInt8} (h : l[i]? = some u) : filt (l.take (i + 1)) = filt (l.take i) ++ (if okB u then [u] else []) := by
  unfold filt
  rw [List.take_add_one, h, List.filter_append]
  cases hu : okB u <;> simp [hu]
theorem filt_le (l : List UInt8) : (filt l).length ≤ l.length := List.length_filter_le _ _

theorem bytes_but {S : List Nat} {w w' : World} {A : Option Addr} {l : List UInt8} (h : BytesAt w A l) (hb : But S w w') (hS : ∀ ad, A = some ad → ad.block ∉ S) : BytesAt w' A l := by
  intro hne
  obtain ⟨b, off, rfl, hlt, hc⟩ := h hne
  refine ⟨b, off, rfl, Nat.lt_of_lt_of_le hlt hb.size, fun j hj => ?_⟩
  rw [But.cell hb (p := ⟨b, off + j, none⟩) hlt (hS ⟨b, off, none⟩ rfl)]
  exact hc j hj

theorem conv_lit (w : World) (C : Array Value) (n c : Nat) : (convert 22 22 (.slice (some ⟨w.heap.size, 0, none⟩) n c)).run Tryd.prog (w.alloc (.cells C 5)) = .ok (.slice (some ⟨w.heap.size, 0, none⟩) n c) (w.alloc (.cells C 5 (C.size, C.size + 1))) :=
  Lib.run_convert_bytes_const w 22 5 C n c Tryd.underlying22 Tryd.underlying5

theorem bytes_lit (w : World) (l : List UInt8) (C : Array Value) (t : TypeId) (fr : Nat × Nat) (hC : C = (l.map fun c => Value.int .u8 (c.toNat : Int)).toArray) : BytesAt (w.alloc (.cells C t fr)) (some ⟨w.heap.size, 0, none⟩) l := by
  intro hne
  refine ⟨w.heap.size, 0, rfl, by simp, fun j hj => ?_⟩
  have h : (w.alloc (.cells C t fr)).heap[w.heap.size]? = some (.cells C t fr) := heap_alloc_new w _
  rw [cell_of_row _ _ _ C t fr h, hC]
  simp only [Nat.zero_add, List.getElem?_toArray, List.getElem?_map, List.getElem?_eq_getElem hj, Option.map_some]
  unfold bt
  rw [List.getD_eq_getElem?_getD, List.getElem?_eq_getElem hj]; rfl

theorem feed_gen {w0 : World} {d a c N : Nat} {t : List UInt8} {ps : Bool} (l : List UInt8) (A : Option Addr) (n cap : Nat) (w W : World) (h : Dw w0 w d a c N t ps) (hn : nxE t ps = none) (hb : Below w.heap.size w W) (hA : BytesAt W A l) (hl : l.length = n) (hcap : n ≤ cap) (hm : n ≤ 1000000) (hA2 : ∀ ad, A = some ad → w.heap.size ≤ ad.block) (R : List (Int × Int) × List UInt8 × Bool) (hR : feed l t ps = R) :
    Calls Tryd.prog 21 #[.pointer (some ⟨d, 0, none⟩), .slice A n cap] W fun e w' => ∃ v, e = .returned (.tuple #[v, .int .i64 0]) ∧ OwnK w' w.heap.size v R.1 ∧ Dw w0 w' d a c N R.2.1 R.2.2 ∧ But [d, a, c] w w' := by
  subst hl hR
  have hlt := h.lt
  refine (feed_c l A cap W (h.below hb) hn hA hcap hm (fun ad had _ => by have := hA2 ad had; simp; omega)).mono ?_
  rintro e w' ⟨v, he, ho, hd, hb'⟩
  exact ⟨v, he, ho.base hb.size, hd, (But.of_below hb).trans hb'⟩

/-- the loop that takes the bytes -/
def R1 (w3 : World) (l : List UInt8) (s7 s35 : Value) (wr : World) : Prop :=
  ∃ i : Nat, s35 = .int .i64 (i : Int) ∧ i ≤ l.length ∧ Hid (OwnB wr w3.heap.size s7 (filt (l.take i))) ∧ Hid (Below w3.heap.size w3 wr)

set_option maxRecDepth 200000 in
set_option maxHeartbeats 4000000 in
theorem walk_long (l : List UInt8) (A : Option Addr) (cap : Nat) (ps : Bool) (w : World) (hT : Tabs w) (hs : 1500 < l.length) :
    Calls Tryd.prog 7 #[.slice A l.length cap, .bool ps] w fun e w' => e = .returned (.bool true) ∧ Below w.heap.size w w' := by
  have HT := Lib.hid hT
  have H1 := Lib.hid (begin_c w hT)
  clear hT
  have k1 : decide (1500 < (l.length : Int)) = true := by simp; omega
  go_enter Tryd.func7, Tryd.ntmps7
  go_wp2_with fail
  refine (H1.out).mono ?_
  rintro e w1 ⟨a, c, d, rfl, hd1, hb1⟩
  have HB1 := Lib.hid hb1
  have HD1 := Lib.hid hd1
  have HAL := Lib.hid (alive_c w1 hd1.tab)
  clear hd1 hb1
  go_wp2_with fail
  refine (HAL.out).mono ?_
  rintro e w3 ⟨rfl, hb3⟩
  have HD3 := Lib.hid (HD1.out.below hb3)
  have HB3 : Hid (Below w.heap.size w w3) := HB1.out.trans (hb3.mono HB1.out.size)
  have HA2 := Lib.hid (alive_c w3 HD3.out.tab)
  clear hb3
  go_wp2_with fail
  refine (HA2.out).mono ?_
  rintro e w4 ⟨rfl, hb4⟩
  have HB4 : Hid (Below w.heap.size w w4) := HB3.out.trans (hb4.mono HB3.out.size)
  clear hb4
  go_wp2
  go_ret
  exact ⟨rfl, HB4.out⟩

attribute [local go_sem ↓] conv_lit
set_option maxRecDepth 200000 in
set_option maxHeartbeats 4000000 in
theorem walk_false (l : List UInt8) (A : Option Addr) (cap : Nat) (w : World) (hT : Tabs w) (hA : BytesAt w A l) (hcap : l.length ≤ cap) (hl1 : l.length ≤ 1500) :
    Calls Tryd.prog 7 #[.slice A l.length cap, .bool false] w fun e w' => e = .returned (.bool true) ∧ Below w.heap.size w w' := by
  have HA := Lib.hid hA
  have HT := Lib.hid hT
  have H1 := Lib.hid (begin_c w hT)
  clear hT hA
  have k1 : decide (1500 < (l.length : Int)) = false := by simp; omega
  go_enter Tryd.func7, Tryd.ntmps7
  go_wp2_with fail
  refine (H1.out).mono ?_
  rintro e w1 ⟨a, c, d, rfl, hd1, hb1⟩
  have HB1 := Lib.hid hb1
  have HD1 := Lib.hid hd1
  have HAL := Lib.hid (alive_c w1 hd1.tab)
  clear hd1 hb1
  go_wp2_with fail
  refine (HAL.out).mono ?_
  rintro e w3 ⟨rfl, hb3⟩
  have HD3 := Lib.hid (HD1.out.below hb3)
  have HB3 : Hid (Below w.heap.size w w3) := HB1.out.trans (hb3.mono HB1.out.size)
  clear hb3
  go_wp2
  go_loopw [7, 35] (fun s7 s35 wr => R1 w3 l s7 s35 wr) (fun _ i _ => l.length - (RowKit.intOf i).toNat)
  case atStart => exact ⟨0, rfl, Nat.zero_le _, Lib.hid (OwnB.nil _ _), Lib.hid (Below.refl _ _)⟩
  case round =>
    obtain ⟨i, rfl, hi, HO, HB⟩ := hrel
    have HBW : Hid (Below w.heap.size w wr) := HB3.out.trans (HB.out.mono HB3.out.size)
    by_cases hlt : i < l.length
    · have k0 : (i : Int) < (l.length : Int) := by omega
      obtain ⟨B, off, rfl, hBl, hc⟩ := HA.out (List.length_pos_iff.1 (by omega : 0 < l.length))
      obtain ⟨u, hu⟩ : ∃ u, l[i]? = some u := ⟨_, List.getElem?_eq_getElem hlt⟩
      have hbu : bt l i = u.toNat := by unfold bt; rw [List.getD_eq_getElem?_getD, hu]; rfl
      have q0 : wr.cell? ⟨B, off + i, none⟩ = some (.int .u8 (u.toNat : Int)) := by
        rw [World.cell?_of_block (w := w) (HBW.out.block B hBl), hc i hlt, hbu]
      have hst := filt_step hu
      have hfl := filt_le (l.take i)
      rw [List.length_take] at hfl
      have HST := Lib.hid hst
      have HFL := Lib.hid hfl
      obtain ⟨x, hx⟩ : ∃ x, u.toNat = x := ⟨_, rfl⟩
      rw [hx] at q0
      have HX := Lib.hid hx
      have HBL := Lib.hid hBl
      have hok : okB u = (decide (32 ≤ x) && decide (x ≠ 127)) := by unfold okB; rw [hx]
      by_cases h1 : 32 ≤ x
      · have k2 : decide ((32 : Int) ≤ (x : Int)) = true := by simp; omega
        by_cases h2 : x = 127
        · subst h2
          have hok2 : Hid (filt (l.take (i + 1)) = filt (l.take i)) := by rw [HST.out, hok]; unfold Hid; simp
          clear hc hBl hu hbu hst hfl hx hok h1
          go_wp2
          go_roundw
          case rel => exact ⟨i + 1, by go_num, by omega, by rw [hok2.out]; exact HO, HB⟩
          case measure => simp [RowKit.intOf]; omega
        · have k3 : ((x : Int) != 127) = true := by rw [bne_iff_ne]; omega
          have hok2 : Hid (filt (l.take (i + 1)) = filt (l.take i) ++ [u]) := by rw [HST.out, hok]; unfold Hid; simp [h1, h2]
          have hsrc : BytesAt (wr.alloc (.cells #[.int .u8 (x : Int)] 5)) (some ⟨wr.heap.size, 0, none⟩) [u] := bytes_new wr [u] _ _ (by rw [← hx]; rfl)
          have HSRC := Lib.hid hsrc
          have HOW : Hid (OwnB (wr.alloc (.cells #[.int .u8 (x : Int)] 5)) w3.heap.size u7 (filt (l.take i))) := by
            unfold Hid OwnB
            obtain ⟨h1', h2' | ⟨g', cap', cur', h3', h4', h5', h6'⟩⟩ := HO.out
            · exact ⟨h1', Or.inl h2'⟩
            · refine ⟨h1', Or.inr ⟨g', cap', cur', h3', h4', ?_, h6'⟩⟩
              have hlt' : g' < wr.heap.size := by
                rcases Nat.lt_or_ge g' wr.heap.size with h' | h'
                · exact h'
                · rw [Array.getElem?_eq_none h'] at h5'; cases h5'
              rw [Below.heap_alloc _ _ _ hlt']
              exact h5'
          have hbs : w3.heap.size ≤ (wr.alloc (.cells #[.int .u8 (x : Int)] 5)).heap.size := by have := HB.out.size; simp; omega
          have HBS := Lib.hid hbs
          have hbd : (filt (l.take i)).length + [u].length ≤ 140737488355328 := by simp; omega
          have HBD := Lib.hid hbd
          clear hc hBl hu hbu hst hfl hx hok h1 h2 hsrc hbs hbd
          go_wp2_with (at_builtin; (refine wpList_append_bytes (B := w3.heap.size) (l := filt (l.take i)) (src := [u]) rfl _ _ rfl rfl HOW.out rfl rfl HSRC.out HBD.out HBS.out ?_))
          intro v' w5 hown5 hg5
          have HO5 : Hid (OwnB w5 w3.heap.size v' (filt (l.take (i + 1)))) := by rw [hok2.out]; exact hown5
          have HB5 : Hid (Below w3.heap.size w3 w5) := by
            refine (HB.out.alloc HB.out.size _).grown hg5 HBS.out (fun k hk => (OwnB.lt HOW.out hk).1)
          clear hown5 hg5
          go_wp2
          go_roundw
          case rel => exact ⟨i + 1, by go_num, by omega, HO5, HB5⟩
          case measure => simp [RowKit.intOf]; omega
      · have k2 : decide ((32 : Int) ≤ (x : Int)) = false := by simp; omega
        have hok2 : Hid (filt (l.take (i + 1)) = filt (l.take i)) := by rw [HST.out, hok]; unfold Hid; simp [h1]
        clear hc hBl hu hbu hst hfl hx hok h1
        go_wp2
        go_roundw
        case rel => exact ⟨i + 1, by go_num, by omega, by rw [hok2.out]; exact HO, HB⟩
        case measure => simp [RowKit.intOf]; omega
    · have hil : i = l.length := by omega
      have kk : decide ((i : Int) < (l.length : Int)) = false := by simp; omega
      have kk' : decide (i < l.length) = false := by simp; omega
      obtain ⟨own, how⟩ : ∃ own, filt (l.take i) = own := ⟨_, rfl⟩
      have hctl := filt_ctl (l.take i)
      have hfl := filt_le (l.take i)
      rw [List.length_take] at hfl
      rw [how] at hctl hfl HO
      have hown15 : own.length ≤ 1500 := by omega
      obtain ⟨A7, c7, rfl, hc7, hby7, hA7, _⟩ := OwnB.form HO.out
      have HBY7 := Lib.hid hby7
      have HCTL := Lib.hid hctl
      have HA7 := Lib.hid hA7
      have HD7 := Lib.hid (HD3.out.below HB.out)
      have HLT := Lib.hid HD3.out.lt
      clear hlt hil how hctl hfl hby7 hA7 HO
      have HD8 : Hid (Dw w wr d a c 40 [] false) := HD7
      have HB8 : Hid (But [d, a, c] wr wr) := But.refl _ _
      have hap : ∀ ad, A7 = some ad → ad.block ∉ [d, a, c] := fun ad had => by
        have h1 := (HA7.out ad had).1
        have h2 := HLT.out
        simp; omega
      have HAP := Lib.hid hap
      have hfd := feed_c own A7 c7 wr HD8.out rfl (bytes_but HBY7.out HB8.out hap) hc7 (by omega) (fun ad had _ => hap ad had)
      have hkeys := text_keys false own.length own (Nat.le_refl _) HCTL.out
      have hfe := feed_drain own [] false rfl
      rw [List.nil_append] at hfe
      have hcnt := feed_count own [] false
      obtain ⟨K, T, P, hR⟩ : ∃ K T P, feed own [] false = (K, T, P) := ⟨_, _, _, rfl⟩
      rw [hR] at hfd hcnt
      rw [← hfe, hR] at hkeys
      simp only at hkeys hcnt
      have HFD := Lib.hid hfd
      have HK := Lib.hid hkeys
      have HCNT := Lib.hid hcnt
      clear hap hfd hkeys hfe hR hcnt
      go_wp2_with fail
      refine (HFD.out).mono ?_
      rintro e w9 ⟨v9, rfl, ho9, hd9, hb9⟩
      have HB9 : Hid (But [d, a, c] wr w9) := HB8.out.trans hb9
      have HO9 := Lib.hid ho9
      have HS9 := Lib.hid hb9.size
      have HFI := Lib.hid (finish_w w9 hd9)
      have HLT8 := Lib.hid HD8.out.lt
      clear ho9 hd9 hb9
      go_wp2_with fail
      refine (HFI.out).mono ?_
      rintro e w10 ⟨v10, rfl, ho10, hd10, hb10⟩
      have HB10 : Hid (But [d, a, c] wr w10) := HB9.out.trans hb10
      have hlt8 := HLT8.out
      have HO10 := Lib.hid (HO9.out.but hb10 (by simp; omega))
      obtain ⟨A10, c10, rfl, _, hk10, _, _⟩ := ho10.form
      have HK10 := Lib.hid hk10
      have hbs : wr.heap.size ≤ w10.heap.size := Nat.le_trans HS9.out hb10.size
      have HBS := Lib.hid hbs
      have hlk : (lastKs T).length ≤ 1 := by unfold lastKs; split <;> simp
      have hbd : K.length + (lastKs T).length ≤ 1099511627776 := by have h1 := HCNT.out; simp at h1; omega
      have HBD := Lib.hid hbd
      clear ho10 hd10 hb10 hlt8 hk10 hbs hbd hlk
      go_wp2_with (at_builtin; (refine wpList_append_keys (B := wr.heap.size) (l := K) (src := lastKs T) rfl _ _ rfl rfl HO10.out rfl rfl HK10.out HBD.out HBS.out ?_))
      intro v11 w11 hown11 hg11
      rw [HK.out] at hown11
      have HB11 : Hid (But [d, a, c] wr w11) := But.of_grown HB10.out hg11 (fun k hk => Or.inr (Nat.le_trans HB8.out.size (HO10.out.lt hk).1))
      have hck := chars_kind own.length own (Nat.le_refl _) HCTL.out
      have hrc := refChars own A7 c7 w11 (bytes_but HBY7.out HB11.out HAP.out) hc7 (by omega)
      have hcl := chars_length_le own
      obtain ⟨cs, hcs⟩ : ∃ cs, chars own = cs := ⟨_, rfl⟩
      rw [hcs] at hown11 hck hrc hcl
      obtain ⟨A11, c11, rfl, _, hk11, hA11, _⟩ := hown11.form
      rw [List.length_map]
      have HK11 := Lib.hid hk11
      have HA11 := Lib.hid hA11
      have HRC := Lib.hid hrc
      have HCK := Lib.hid hck
      clear hown11 hg11 hck hrc hcs hk11 hA11
      go_wp2_with fail
      refine (HRC.out).mono ?_
      rintro e w12 ⟨v12, rfl, ho12, hb12⟩
      obtain ⟨A12, c12, rfl, _, hk12, _, _⟩ := ho12.form
      have HK12 := Lib.hid hk12
      have HK13 : Hid (KeysAt w12 A11 (cs.map (charK false))) := KeysAt.but (S := []) HK11.out (But.of_below hb12) (by simp)
      have HBW12 : Hid (Below w.heap.size w w12) := (HBW.out.trans (HB11.out.below HBW.out.size (by have := HD7.out.low; simp; omega))).trans (hb12.mono (by have h1 := HBW.out.size; have h2 := HB11.out.size; omega))
      have hcs15 : cs.length ≤ 1500 := by omega
      clear ho12 hb12 hk12 HK11 HA11 HRC
      go_wp2
      go_loopw [78] (fun s78 wz => ∃ j : Nat, s78 = .int .i64 (j : Int) ∧ j ≤ cs.length ∧ w12 = wz) (fun i _ => cs.length - (RowKit.intOf i).toNat)
      case atStart => exact ⟨0, rfl, Nat.zero_le _, rfl⟩
      case round =>
        obtain ⟨j, rfl, hj, hwz⟩ := hrel
        obtain rfl := hwz
        by_cases hlt : j < cs.length
        · have k0 : (j : Int) < (cs.length : Int) := by omega
          obtain ⟨x, hx⟩ : ∃ x, cs[j]? = some x := ⟨_, List.getElem?_eq_getElem hlt⟩
          have hkx := HCK.out x (List.mem_of_getElem? hx)
          obtain ⟨b2, o2, rfl, hb2, hc2⟩ := HK12.out (by
            intro e
            have h0 : cs.length = 0 := by rw [← cellsI_length, e]; rfl
            omega)
          have q0 := hc2 j (.int .i64 x) (by unfold cellsI; rw [List.getElem?_map, hx]; rfl)
          have hkey : (cs.map (charK false))[j]? = some (charK false x) := by rw [List.getElem?_map, hx]; rfl
          obtain ⟨b1, o1, rfl, hb1, p0, p1⟩ := HK13.out.cell hkey
          have HPR := Lib.hid (refPrintable x w12)
          cases hp : printC x
          · rw [charK_not false hp hkx] at p0 p1
            rw [hp] at HPR
            simp only at p0 p1
            clear hkx hx hkey hc2 hb1 hb2 hp
            go_wp2_with (go_at_call 30; (with_reducible refine (HPR.out).mono ?_); rintro e w14 ⟨rfl, hq⟩; obtain rfl := hq)
            go_roundw
            case rel => exact ⟨j + 1, by go_num, by omega, trivial⟩
            case measure => simp [RowKit.intOf]; omega
          · rw [charK_print false hp] at p0 p1
            rw [hp] at HPR
            simp only at p0 p1
            have hxx : (x == x) = true := by simp
            clear hkx hx hkey hc2 hb1 hb2 hp
            go_wp2_with (go_at_call 30; (with_reducible refine (HPR.out).mono ?_); rintro e w14 ⟨rfl, hq⟩; obtain rfl := hq)
            go_roundw
            case rel => exact ⟨j + 1, by go_num, by omega, trivial⟩
            case measure => simp [RowKit.intOf]; omega
        · have hil : j = cs.length := by omega
          have kk : decide ((j : Int) < (cs.length : Int)) = false := by simp; omega
          have kk' : decide (j < cs.length) = false := by simp; omega
          clear hlt hil
          go_wp2
          go_ret
          exact ⟨rfl, HBW12.out⟩

attribute [local go_sem ↓] conv_lit
set_option maxRecDepth 200000 in
set_option maxHeartbeats 4000000 in
theorem walk_true (l : List UInt8) (A : Option Addr) (cap : Nat) (w : World) (hT : Tabs w) (hA : BytesAt w A l) (hcap : l.length ≤ cap) (hl1 : l.length ≤ 1500) :
    Calls Tryd.prog 7 #[.slice A l.length cap, .bool true] w fun e w' => e = .returned (.bool true) ∧ Below w.heap.size w w' := by
  have HA := Lib.hid hA
  have HT := Lib.hid hT
  have H1 := Lib.hid (begin_c w hT)
  clear hT hA
  have k1 : decide (1500 < (l.length : Int)) = false := by simp; omega
  go_enter Tryd.func7, Tryd.ntmps7
  go_wp2_with fail
  refine (H1.out).mono ?_
  rintro e w1 ⟨a, c, d, rfl, hd1, hb1⟩
  have HB1 := Lib.hid hb1
  have HD1 := Lib.hid hd1
  have HAL := Lib.hid (alive_c w1 hd1.tab)
  clear hd1 hb1
  go_wp2_with fail
  refine (HAL.out).mono ?_
  rintro e w3 ⟨rfl, hb3⟩
  have HD3 := Lib.hid (HD1.out.below hb3)
  have HB3 : Hid (Below w.heap.size w w3) := HB1.out.trans (hb3.mono HB1.out.size)
  clear hb3
  go_wp2
  go_loopw [7, 35] (fun s7 s35 wr => R1 w3 l s7 s35 wr) (fun _ i _ => l.length - (RowKit.intOf i).toNat)
  case atStart => exact ⟨0, rfl, Nat.zero_le _, Lib.hid (OwnB.nil _ _), Lib.hid (Below.refl _ _)⟩
  case round =>
    obtain ⟨i, rfl, hi, HO, HB⟩ := hrel
    have HBW : Hid (Below w.heap.size w wr) := HB3.out.trans (HB.out.mono HB3.out.size)
    by_cases hlt : i < l.length
    · have k0 : (i : Int) < (l.length : Int) := by omega
      obtain ⟨B, off, rfl, hBl, hc⟩ := HA.out (List.length_pos_iff.1 (by omega : 0 < l.length))
      obtain ⟨u, hu⟩ : ∃ u, l[i]? = some u := ⟨_, List.getElem?_eq_getElem hlt⟩
      have hbu : bt l i = u.toNat := by unfold bt; rw [List.getD_eq_getElem?_getD, hu]; rfl
      have q0 : wr.cell? ⟨B, off + i, none⟩ = some (.int .u8 (u.toNat : Int)) := by
        rw [World.cell?_of_block (w := w) (HBW.out.block B hBl), hc i hlt, hbu]
      have hst := filt_step hu
      have hfl := filt_le (l.take i)
      rw [List.length_take] at hfl
      have HST := Lib.hid hst
      have HFL := Lib.hid hfl
      obtain ⟨x, hx⟩ : ∃ x, u.toNat = x := ⟨_, rfl⟩
      rw [hx] at q0
      have HX := Lib.hid hx
      have HBL := Lib.hid hBl
      have hok : okB u = (decide (32 ≤ x) && decide (x ≠ 127)) := by unfold okB; rw [hx]
      by_cases h1 : 32 ≤ x
      · have k2 : decide ((32 : Int) ≤ (x : Int)) = true := by simp; omega
        by_cases h2 : x = 127
        · subst h2
          have hok2 : Hid (filt (l.take (i + 1)) = filt (l.take i)) := by rw [HST.out, hok]; unfold Hid; simp
          clear hc hBl hu hbu hst hfl hx hok h1
          go_wp2
          go_roundw
          case rel => exact ⟨i + 1, by go_num, by omega, by rw [hok2.out]; exact HO, HB⟩
          case measure => simp [RowKit.intOf]; omega
        · have k3 : ((x : Int) != 127) = true := by rw [bne_iff_ne]; omega
          have hok2 : Hid (filt (l.take (i + 1)) = filt (l.take i) ++ [u]) := by rw [HST.out, hok]; unfold Hid; simp [h1, h2]
          have hsrc : BytesAt (wr.alloc (.cells #[.int .u8 (x : Int)] 5)) (some ⟨wr.heap.size, 0, none⟩) [u] := bytes_new wr [u] _ _ (by rw [← hx]; rfl)
          have HSRC := Lib.hid hsrc
          have HOW : Hid (OwnB (wr.alloc (.cells #[.int .u8 (x : Int)] 5)) w3.heap.size u7 (filt (l.take i))) := by
            unfold Hid OwnB
            obtain ⟨h1', h2' | ⟨g', cap', cur', h3', h4', h5', h6'⟩⟩ := HO.out
            · exact ⟨h1', Or.inl h2'⟩
            · refine ⟨h1', Or.inr ⟨g', cap', cur', h3', h4', ?_, h6'⟩⟩
              have hlt' : g' < wr.heap.size := by
                rcases Nat.lt_or_ge g' wr.heap.size with h' | h'
                · exact h'
                · rw [Array.getElem?_eq_none h'] at h5'; cases h5'
              rw [Below.heap_alloc _ _ _ hlt']
              exact h5'
          have hbs : w3.heap.size ≤ (wr.alloc (.cells #[.int .u8 (x : Int)] 5)).heap.size := by have := HB.out.size; simp; omega
          have HBS := Lib.hid hbs
          have hbd : (filt (l.take i)).length + [u].length ≤ 140737488355328 := by simp; omega
          have HBD := Lib.hid hbd
          clear hc hBl hu hbu hst hfl hx hok h1 h2 hsrc hbs hbd
          go_wp2_with (at_builtin; (refine wpList_append_bytes (B := w3.heap.size) (l := filt (l.take i)) (src := [u]) rfl _ _ rfl rfl HOW.out rfl rfl HSRC.out HBD.out HBS.out ?_))
          intro v' w5 hown5 hg5
          have HO5 : Hid (OwnB w5 w3.heap.size v' (filt (l.take (i + 1)))) := by rw [hok2.out]; exact hown5
          have HB5 : Hid (Below w3.heap.size w3 w5) := by
            refine (HB.out.alloc HB.out.size _).grown hg5 HBS.out (fun k hk => (OwnB.lt HOW.out hk).1)
          clear hown5 hg5
          go_wp2
          go_roundw
          case rel => exact ⟨i + 1, by go_num, by omega, HO5, HB5⟩
          case measure => simp [RowKit.intOf]; omega
      · have k2 : decide ((32 : Int) ≤ (x : Int)) = false := by simp; omega
        have hok2 : Hid (filt (l.take (i + 1)) = filt (l.take i)) := by rw [HST.out, hok]; unfold Hid; simp [h1]
        clear hc hBl hu hbu hst hfl hx hok h1
        go_wp2
        go_roundw
        case rel => exact ⟨i + 1, by go_num, by omega, by rw [hok2.out]; exact HO, HB⟩
        case measure => simp [RowKit.intOf]; omega
    · have hil : i = l.length := by omega
      have kk : decide ((i : Int) < (l.length : Int)) = false := by simp; omega
      have kk' : decide (i < l.length) = false := by simp; omega
      obtain ⟨own, how⟩ : ∃ own, filt (l.take i) = own := ⟨_, rfl⟩
      have hctl := filt_ctl (l.take i)
      have hfl := filt_le (l.take i)
      rw [List.length_take] at hfl
      rw [how] at hctl hfl HO
      have hown15 : own.length ≤ 1500 := by omega
      obtain ⟨A7, c7, rfl, hc7, hby7, hA7, _⟩ := OwnB.form HO.out
      have HBY7 := Lib.hid hby7
      have HCTL := Lib.hid hctl
      have HA7 := Lib.hid hA7
      have HD7 := Lib.hid (HD3.out.below HB.out)
      have HLT := Lib.hid HD3.out.lt
      clear hlt hil how hctl hfl hby7 hA7 HO
      have hal : Below wr.heap.size wr (wr.alloc (.cells #[.int .u8 27, .int .u8 91, .int .u8 50, .int .u8 48, .int .u8 48, .int .u8 126] 5 (6, 7))) := (Below.refl _ _).alloc (Nat.le_refl _) _
      have HFS := Lib.hid (feed_gen [27, 91, 50, 48, 48, 126] (some ⟨wr.heap.size, 0, none⟩) 6 6 wr _ HD7.out rfl hal (bytes_lit wr [27, 91, 50, 48, 48, 126] _ _ _ rfl) rfl (Nat.le_refl _) (by decide) (fun ad had => by cases had; exact Nat.le_refl _) _ feed_start)
      clear hal
      go_wp2_with fail
      refine (HFS.out).mono ?_
      rintro e w8 ⟨v8, rfl, _, hd8, hb8⟩
      have HD8 := Lib.hid hd8
      have HB8 := Lib.hid hb8
      clear hd8 hb8
      have hap : ∀ ad, A7 = some ad → ad.block ∉ [d, a, c] := fun ad had => by
        have h1 := (HA7.out ad had).1
        have h2 := HLT.out
        simp; omega
      have HAP := Lib.hid hap
      have hfd := feed_c own A7 c7 w8 HD8.out rfl (bytes_but HBY7.out HB8.out hap) hc7 (by omega) (fun ad had _ => hap ad had)
      have hkeys := text_keys true own.length own (Nat.le_refl _) HCTL.out
      have hfe := feed_drain own [] true rfl
      rw [List.nil_append] at hfe
      have hcnt := feed_count own [] true
      obtain ⟨K, T, P, hR⟩ : ∃ K T P, feed own [] true = (K, T, P) := ⟨_, _, _, rfl⟩
      rw [hR] at hfd hcnt
      rw [← hfe, hR] at hkeys
      simp only at hkeys hcnt
      have HFD := Lib.hid hfd
      have HK := Lib.hid hkeys
      have HCNT := Lib.hid hcnt
      clear hap hfd hkeys hfe hR hcnt
      go_wp2_with fail
      refine (HFD.out).mono ?_
      rintro e w9 ⟨v9, rfl, ho9, hd9, hb9⟩
      have HB9 : Hid (But [d, a, c] wr w9) := HB8.out.trans hb9
      have HO9 := Lib.hid ho9
      have HS9 := Lib.hid hb9.size
      have HFI := Lib.hid (finish_w w9 hd9)
      have HLT8 := Lib.hid HD8.out.lt
      clear ho9 hd9 hb9
      go_wp2_with fail
      refine (HFI.out).mono ?_
      rintro e w10 ⟨v10, rfl, ho10, hd10, hb10⟩
      have HB10 : Hid (But [d, a, c] wr w10) := HB9.out.trans hb10
      have hlt8 := HLT8.out
      have HO10 := Lib.hid (HO9.out.but hb10 (by simp; omega))
      obtain ⟨A10, c10, rfl, _, hk10, _, _⟩ := ho10.form
      have HK10 := Lib.hid hk10
      have hbs : w8.heap.size ≤ w10.heap.size := Nat.le_trans HS9.out hb10.size
      have HBS := Lib.hid hbs
      have hlk : (lastKs T).length ≤ 1 := by unfold lastKs; split <;> simp
      have hbd : K.length + (lastKs T).length ≤ 1099511627776 := by have h1 := HCNT.out; simp at h1; omega
      have HBD := Lib.hid hbd
      clear ho10 hd10 hb10 hlt8 hk10 hbs hbd hlk
      go_wp2_with (at_builtin; (refine wpList_append_keys (B := w8.heap.size) (l := K) (src := lastKs T) rfl _ _ rfl rfl HO10.out rfl rfl HK10.out HBD.out HBS.out ?_))
      intro v11 w11 hown11 hg11
      rw [HK.out] at hown11
      have HB11 : Hid (But [d, a, c] wr w11) := But.of_grown HB10.out hg11 (fun k hk => Or.inr (Nat.le_trans HB8.out.size (HO10.out.lt hk).1))
      have hck := chars_kind own.length own (Nat.le_refl _) HCTL.out
      have hrc := refChars own A7 c7 w11 (bytes_but HBY7.out HB11.out HAP.out) hc7 (by omega)
      have hcl := chars_length_le own
      obtain ⟨cs, hcs⟩ : ∃ cs, chars own = cs := ⟨_, rfl⟩
      rw [hcs] at hown11 hck hrc hcl
      obtain ⟨A11, c11, rfl, _, hk11, hA11, _⟩ := hown11.form
      rw [List.length_map]
      have HK11 := Lib.hid hk11
      have HA11 := Lib.hid hA11
      have HRC := Lib.hid hrc
      have HCK := Lib.hid hck
      clear hown11 hg11 hck hrc hcs hk11 hA11
      go_wp2_with fail
      refine (HRC.out).mono ?_
      rintro e w12 ⟨v12, rfl, ho12, hb12⟩
      obtain ⟨A12, c12, rfl, _, hk12, _, _⟩ := ho12.form
      have HK12 := Lib.hid hk12
      have HK13 : Hid (KeysAt w12 A11 (cs.map (charK true))) := KeysAt.but (S := []) HK11.out (But.of_below hb12) (by simp)
      have HBW12 : Hid (Below w.heap.size w w12) := (HBW.out.trans (HB11.out.below HBW.out.size (by have := HD7.out.low; simp; omega))).trans (hb12.mono (by have h1 := HBW.out.size; have h2 := HB11.out.size; omega))
      have hcs15 : cs.length ≤ 1500 := by omega
      clear ho12 hb12 hk12 HK11 HA11 HRC
      go_wp2
      go_loopw [78] (fun s78 wz => ∃ j : Nat, s78 = .int .i64 (j : Int) ∧ j ≤ cs.length ∧ w12 = wz) (fun i _ => cs.length - (RowKit.intOf i).toNat)
      case atStart => exact ⟨0, rfl, Nat.zero_le _, rfl⟩
      case round =>
        obtain ⟨j, rfl, hj, hwz⟩ := hrel
        obtain rfl := hwz
        by_cases hlt : j < cs.length
        · have k0 : (j : Int) < (cs.length : Int) := by omega
          obtain ⟨x, hx⟩ : ∃ x, cs[j]? = some x := ⟨_, List.getElem?_eq_getElem hlt⟩
          have hkx := HCK.out x (List.mem_of_getElem? hx)
          obtain ⟨b2, o2, rfl, hb2, hc2⟩ := HK12.out (by
            intro e
            have h0 : cs.length = 0 := by rw [← cellsI_length, e]; rfl
            omega)
          have q0 := hc2 j (.int .i64 x) (by unfold cellsI; rw [List.getElem?_map, hx]; rfl)
          have hkey : (cs.map (charK true))[j]? = some (charK true x) := by rw [List.getElem?_map, hx]; rfl
          obtain ⟨b1, o1, rfl, hb1, p0, p1⟩ := HK13.out.cell hkey
          have HPR := Lib.hid (refPrintable x w12)
          cases hp : printC x
          · rw [charK_not true hp hkx] at p0 p1
            rw [hp] at HPR
            simp only at p0 p1
            clear hkx hx hkey hc2 hb1 hb2 hp
            go_wp2_with (go_at_call 30; (with_reducible refine (HPR.out).mono ?_); rintro e w14 ⟨rfl, hq⟩; obtain rfl := hq)
            go_roundw
            case rel => exact ⟨j + 1, by go_num, by omega, trivial⟩
            case measure => simp [RowKit.intOf]; omega
          · rw [charK_print true hp] at p0 p1
            rw [hp] at HPR
            simp only at p0 p1
            have hxx : (x == x) = true := by simp
            clear hkx hx hkey hc2 hb1 hb2 hp
            go_wp2_with (go_at_call 30; (with_reducible refine (HPR.out).mono ?_); rintro e w14 ⟨rfl, hq⟩; obtain rfl := hq)
            go_roundw
            case rel => exact ⟨j + 1, by go_num, by omega, trivial⟩
            case measure => simp [RowKit.intOf]; omega
        · have hil : j = cs.length := by omega
          have kk : decide ((j : Int) < (cs.length : Int)) = false := by simp; omega
          have kk' : decide (j < cs.length) = false := by simp; omega
          clear hlt hil
          go_wp2
          go_ret
          exact ⟨rfl, HBW12.out⟩

theorem walk (l : List UInt8) (A : Option Addr) (cap : Nat) (ps : Bool) (w : World) (hT : Tabs w) (hA : BytesAt w A l) (hcap : l.length ≤ cap) (hm : l.length ≤ 140737488355328) :
    Calls Tryd.prog 7 #[.slice A l.length cap, .bool ps] w fun e w' => e = .returned (.bool true) ∧ Below w.heap.size w w' := by
  by_cases hs : l.length ≤ 1500
  · cases ps
    · exact walk_false l A cap w hT hA hcap hs
    · exact walk_true l A cap w hT hA hcap hs
  · exact walk_long l A cap ps w hT (by omega)

end Go.Proofs.YtcakeolnokninaaDoor.KeydecTexts

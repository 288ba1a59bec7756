/- EditbufTypes, the walk: characters that may be shown are there as they were typed; that many Backs take all of them; typed ahead of one another, by Home each time, they are there the other way about. -/
import Derived.Test.YtbkpnffgihjikaaEdL
import Derived.Test.YtbkpnffgihjikaaOwnI
import Derived.Test.YtbkpnffgihjikaaRefPut
import Derived.Test.YtbkpnffgihjikaaListIn
import Derived.LoopN
set_option linter.unusedVariables false
namespace Go.Proofs.Ytbkpnffgihjikaa.EditbufTypes
open Go.RowKit Go.Lib Go.Shelf ChangeShapes Mem Utf UtfP Edit Law

attribute [local go_sem] strOf_toList strOf_append strOf_size
attribute [local go_sem ↓] conv_str

theorem encs_len4 (cs : List Int) : (encs cs).length ≤ 4 * cs.length := by
  induction cs with
  | nil => simp [encs_nil]
  | cons x cs ih =>
    have := (enc_length x).2
    rw [encs_cons, List.length_append, List.length_cons]; omega

theorem str_nil : (ByteArray.mk #[]) = strOf [] := rfl

theorem take_snoc (l : List Int) (j : Nat) (x : Int) (h : l[j]? = some x) : l.take (j + 1) = l.take j ++ [x] := by
  obtain ⟨hj, rfl⟩ := List.getElem?_eq_some_iff.1 h
  rw [List.take_add_one, List.getElem?_eq_getElem hj]
  rfl

theorem doRune (x : Int) (hp : printC x = true) (A B : List Int) (h : (encs A ++ encs B).length + (enc x).length ≤ 1024) : doE 1024 0 x A B = (A ++ [x], B, true, 0) := by
  unfold doE runeE
  rw [if_pos rfl, if_pos hp, if_pos h]
  rfl
theorem doHome (A B : List Int) : doE 1024 6 0 A B = ([], A ++ B, chg A B ([], A ++ B), 0) := rfl
theorem doBack (A : List Int) : doE 1024 2 0 A [] = (A.dropLast, [], decide (A ≠ []), 0) := by
  show ((A.dropLast, [], chg A [] (A.dropLast, []), 0) : List Int × List Int × Bool × Int) = _
  have : chg A [] (A.dropLast, []) = decide (A ≠ []) := by
    unfold chg
    rw [Bool.eq_iff_iff]
    cases A with
    | nil => simp
    | cons y A => simp
  rw [this]

/-- two buffers that lie apart -/
structure Both (w : World) (b a c b' a' c' : Nat) (A B A' B' : List Int) : Prop where
  one : Ed w b a c 1024 A B
  two : Ed w b' a' c' 1024 A' B'
  apart : (b < b' ∧ a < b' ∧ c < b') ∧ (b < a' ∧ a < a' ∧ c < a') ∧ (b < c' ∧ a < c' ∧ c < c')

theorem Both.below {w w' : World} {b a c b' a' c' : Nat} {A B A' B' : List Int} (h : Both w b a c b' a' c' A B A' B') (hb : Below w.heap.size w w') : Both w' b a c b' a' c' A B A' B' :=
  ⟨h.one.but (But.of_below (S := []) hb) (by simp) (by simp) (by simp), h.two.but (But.of_below (S := []) hb) (by simp) (by simp) (by simp), h.apart⟩
theorem Both.fst {w w' : World} {b a c b' a' c' : Nat} {A B A' B' A1 B1 : List Int} (h : Both w b a c b' a' c' A B A' B') (he : Ed w' b a c 1024 A1 B1) (hb : But [b, a, c] w w') : Both w' b a c b' a' c' A1 B1 A' B' :=
  ⟨he, h.two.but hb (by have := h.apart; simp; omega) (by have := h.apart; simp; omega) (by have := h.apart; simp; omega), h.apart⟩
theorem Both.snd {w w' : World} {b a c b' a' c' : Nat} {A B A' B' A1 B1 : List Int} (h : Both w b a c b' a' c' A B A' B') (he : Ed w' b' a' c' 1024 A1 B1) (hb : But [b', a', c'] w w') : Both w' b a c b' a' c' A B A1 B1 :=
  ⟨h.one.but hb (by have := h.apart; simp; omega) (by have := h.apart; simp; omega) (by have := h.apart; simp; omega), he, h.apart⟩

def R1 (w3 : World) (zs : List Int) (own : Value) (i : Value) (wr : World) : Prop :=
  ∃ j : Nat, i = .int .i64 (j : Int) ∧ j ≤ zs.length ∧ OwnI wr w3.heap.size own ((zs.take j).filter printC) ∧ Below w3.heap.size w3 wr

def R2 (w w5 : World) (b a c b' a' c' : Nat) (own : List Int) (want turned : Value) (i : Value) (wr : World) : Prop :=
  ∃ (j : Nat) (A B : List Int), i = .int .i64 (j : Int) ∧ j ≤ own.length ∧ want = .string (strOf (encs (own.take j))) ∧ turned = .string (strOf (encs (own.take j).reverse)) ∧ A ++ B = (own.take j).reverse ∧
    Both wr b a c b' a' c' (own.take j) [] A B ∧ (But [b, a, c, b', a', c'] w5 wr) ∧ Below w.heap.size w wr

def R3 (w : World) (b a c : Nat) (own : List Int) (i : Value) (wr : World) : Prop :=
  ∃ j : Nat, i = .int .i64 (j : Int) ∧ j ≤ own.length ∧ Ed wr b a c 1024 (own.take (own.length - j)) [] ∧ Below w.heap.size w wr

set_option maxRecDepth 200000 in
set_option maxHeartbeats 4000000 in
theorem walk (zs : List Int) (Q : Option Addr) (cap : Nat) (w : World) (hA : RowsAt w 1 (fun z => [Value.int .i64 z]) Q zs) (hcap : zs.length ≤ cap) (hm : zs.length ≤ 17592186044416) (_ : ∀ z ∈ zs, (Lit.int .i64 z).wf = true) :
    Calls Try.prog 3 #[.slice Q zs.length cap] w fun e w' => e = .returned (.bool true) ∧ Below w.heap.size w w' := by
  have HA := Lib.hid hA
  clear hA
  have HAL : Hid (∀ W, Calls Try.prog 5 #[] W fun e w' => e = .returned (.bool true) ∧ Below W.heap.size W w') := fun W => Edit.alive W
  have HBG : Hid (∀ W, Calls Try.prog 4 #[.int .i64 1024] W fun e w' => ∃ b a c, e = .returned (.tuple #[.pointer (some ⟨a, 0, none⟩), .pointer (some ⟨b, 0, none⟩)]) ∧ W.heap.size ≤ b ∧ W.heap.size ≤ a ∧ W.heap.size ≤ c ∧ Ed w' b a c 1024 [] [] ∧ Below W.heap.size W w') := fun W => begin_c 1024 (by decide) (by decide) W
  go_enter Try.func3, Try.ntmps3
  go_wp2_with fail
  refine (HBG.out _).mono ?_
  rintro e w1 ⟨b, a, c, rfl, hlb, hla, hlc, hed, hb1⟩
  have HL1 := Lib.hid (show w.heap.size ≤ b ∧ w.heap.size ≤ a ∧ w.heap.size ≤ c from ⟨hlb, hla, hlc⟩)
  have HW1 := Lib.hid hb1
  have HED1 := Lib.hid hed
  clear hlb hla hlc hed hb1
  go_wp2_with fail
  refine (HBG.out _).mono ?_
  rintro e w2 ⟨b', a', c', rfl, hlb, hla, hlc, hed, hb2⟩
  have HBO : Hid (Both w2 b a c b' a' c' [] [] [] []) := by
    refine ⟨HED1.out.but (But.of_below (S := []) hb2) (by simp) (by simp) (by simp), hed, ?_⟩
    have h1 := HED1.out.buf.head.lt
    have h2 := HED1.out.buf.ar.head.lt
    have h3 := HED1.out.buf.ar.body.lt
    refine ⟨⟨?_, ?_, ?_⟩, ⟨?_, ?_, ?_⟩, ⟨?_, ?_, ?_⟩⟩ <;> omega
  have HL2 : Hid (w.heap.size ≤ b' ∧ w.heap.size ≤ a' ∧ w.heap.size ≤ c') := by
    have := HW1.out.size
    refine ⟨?_, ?_, ?_⟩ <;> omega
  have HW2 : Hid (Below w.heap.size w w2) := HW1.out.trans (hb2.mono HW1.out.size)
  clear hlb hla hlc hed hb2
  go_wp2_with fail
  refine (HAL.out _).mono ?_
  rintro e w3 ⟨rfl, hb3⟩
  have HBO3 : Hid (Both w3 b a c b' a' c' [] [] [] []) := HBO.out.below hb3
  have HW3 : Hid (Below w.heap.size w w3) := HW2.out.trans (hb3.mono HW2.out.size)
  clear hb3
  by_cases hl : zs.length ≤ 200
  · have k1 : decide (200 < (zs.length : Int)) = false := by simp; omega
    go_wp2
    go_loopw [7, 45] (fun own i wr => R1 w3 zs own i wr) (fun _ i _ => zs.length - (RowKit.intOf i).toNat)
    case atStart => exact ⟨0, rfl, by omega, by rw [List.take_zero, List.filter_nil]; exact OwnI.nil _ _, Below.refl _ _⟩
    case round =>
      obtain ⟨j, rfl, hj, hown, hbw⟩ := hrel
      have HOWN := Lib.hid hown
      have HBW := Lib.hid hbw
      clear hown hbw
      by_cases hlt : j < zs.length
      · have k0 : (j : Int) < (zs.length : Int) := by omega
        obtain ⟨z, hz⟩ : ∃ z, zs[j]? = some z := ⟨_, List.getElem?_eq_getElem hlt⟩
        obtain ⟨gz, off, rfl, hgz, hcz⟩ := HA.out (List.length_pos_iff.1 (by omega : 0 < zs.length))
        have q0 : wr.cell? ⟨gz, off + j, none⟩ = some (.int .i64 z) := by
          rw [(HW3.out.trans (HBW.out.mono HW3.out.size)).cell hgz]
          have := hcz j z hz 0 _ rfl
          rwa [Nat.mul_one, Nat.add_zero] at this
        have hstep := take_snoc zs j z hz
        have HST : Hid ((zs.take (j + 1)).filter printC = (zs.take j).filter printC ++ (if printC z then [z] else [])) := by
          show _ = _
          rw [hstep, List.filter_append]
          congr 1
          cases h : printC z <;> simp [h]
        have hol : ((zs.take j).filter printC).length ≤ 200 := by
          have := List.length_filter_le printC (zs.take j)
          rw [List.length_take] at this
          omega
        have HPR := Lib.hid (printable z wr)
        clear hstep hcz hgz hz
        cases hp : printC z
        · rw [hp] at HPR
          rw [hp, if_neg (by decide), List.append_nil] at HST
          go_wp2_with fail
          refine (HPR.out).mono ?_
          rintro e w4 ⟨rfl, hb4⟩
          have hown4 := HOWN.out.below hb4
          have hbw4 : Below w3.heap.size w3 w4 := HBW.out.trans (hb4.mono HBW.out.size)
          go_wp2
          go_roundw
          case rel => exact ⟨j + 1, by go_num, by omega, by rw [HST.out]; exact hown4, hbw4⟩
          case measure => simp [RowKit.intOf]; omega
        · rw [hp] at HPR
          rw [hp, if_pos rfl] at HST
          go_wp2_with fail
          refine (HPR.out).mono ?_
          rintro e w4 ⟨rfl, hb4⟩
          have hown4 := HOWN.out.below hb4
          have hbw4 : Below w3.heap.size w3 w4 := HBW.out.trans (hb4.mono HBW.out.size)
          have HO4 := Lib.hid hown4
          have HB4 := Lib.hid hbw4
          clear hown4 hbw4
          go_wp2_with (at_builtin; refine wpList_append_ints rfl _ _ rfl rfl (HO4.out.below ((Below.refl _ _).alloc (Nat.le_refl _) _)) rfl (src := [z]) rfl (CellsAt.new _ _ _ _ rfl) ?_ ?_ ?_)
          · simp; omega
          · have := HB4.out.size; simp; omega
          intro v' w5 hown5 hg5
          have hb5 : Below w3.heap.size w3 w5 := by
            have hs := HB4.out.size
            refine (HB4.out.alloc hs _).grown hg5 (by simp; omega) (fun k hk => (HO4.out.lt hk).1)
          clear hg5
          go_wp2
          go_roundw
          case rel => exact ⟨j + 1, by go_num, by omega, by rw [HST.out]; exact hown5, hb5⟩
          case measure => simp [RowKit.intOf]; omega
      · have hge : decide ((j : Int) < (zs.length : Int)) = false := by simp; omega
        have hge' : decide (j < zs.length) = false := by simp; omega
        have hj' : j = zs.length := by omega
        rw [hj', List.take_length] at HOWN
        clear hlt hj'
        obtain ⟨own, hown'⟩ : ∃ own, zs.filter printC = own := ⟨_, rfl⟩
        have hpr : AllPrint own := by
          intro y hy
          rw [← hown'] at hy
          exact (List.mem_filter.1 hy).2
        have hol : own.length ≤ 200 := by
          have := List.length_filter_le printC zs
          rw [hown'] at this
          omega
        rw [hown'] at HOWN
        obtain ⟨A5, cap5, rfl, hcap5, hA5, hob5, _⟩ := HOWN.out.form
        have HBO5 : Hid (Both wr b a c b' a' c' [] [] [] []) := HBO3.out.below HBW.out
        have HW5 : Hid (Below w.heap.size w wr) := HW3.out.trans (HBW.out.mono HW3.out.size)
        have HA5 := Lib.hid hA5
        have HOB : Hid (∀ ad, A5 = some ad → w3.heap.size ≤ ad.block) := fun ad h => (hob5 ad h).1
        have HPRN := Lib.hid hpr
        obtain ⟨n, hn⟩ : ∃ n, own.length = n := ⟨_, rfl⟩
        have HN := Lib.hid hn
        rw [hn] at hol hcap5 ⊢
        clear hown' hA5 hob5 hpr hn HOWN
        obtain ⟨w5, hw5⟩ : ∃ u, u = wr := ⟨_, rfl⟩
        subst hw5
        go_wp2_with fail
        go_loopw [10, 11, 58] (fun want turned i wx => R2 w w5 b a c b' a' c' own want turned i wx) (fun _ _ i _ => n - (RowKit.intOf i).toNat)
        case atStart => exact ⟨0, [], [], rfl, by omega, by rw [List.take_zero]; rfl, by rw [List.take_zero]; rfl, by rw [List.take_zero]; rfl, by rw [List.take_zero]; exact HBO5.out, But.refl _ _, HW5.out⟩
        case round =>
          obtain ⟨j, A, B, rfl, hj, rfl, rfl, hAB, hbo, hbut, hbw⟩ := hrel
          have HBOJ := Lib.hid hbo
          have HBUT := Lib.hid hbut
          have HBW2 := Lib.hid hbw
          have HAB := Lib.hid hAB
          rw [HN.out] at hj
          clear hbo hbut hbw hAB
          by_cases hlt : j < n
          · have k0 : (j : Int) < (n : Int) := by omega
            obtain ⟨x, hx⟩ : ∃ x, own[j]? = some x := ⟨_, List.getElem?_eq_getElem (by rw [HN.out]; exact hlt)⟩
            have hpx : printC x = true := HPRN.out x (List.mem_of_getElem? hx)
            obtain ⟨go, off, rfl, hgo, hco⟩ := HA5.out (by
              intro e
              have := congrArg List.length e
              rw [cellsI_length, HN.out] at this
              simp at this
              omega)
            have hng : go ∉ [b, a, c, b', a', c'] := by
              have h0 : w3.heap.size ≤ go := HOB.out _ rfl
              have h1 := HBO3.out.one.buf.head.lt
              have h2 := HBO3.out.one.buf.ar.head.lt
              have h3 := HBO3.out.one.buf.ar.body.lt
              have h4 := HBO3.out.two.buf.head.lt
              have h5 := HBO3.out.two.buf.ar.head.lt
              have h6 := HBO3.out.two.buf.ar.body.lt
              simp
              omega
            have q0 : wr.cell? ⟨go, off + j, none⟩ = some (.int .i64 x) := by
              rw [HBUT.out.cell hgo hng]
              exact hco j _ (by unfold cellsI; rw [List.getElem?_map, hx]; rfl)
            have hstep := take_snoc own j x hx
            have hl1 : (encs (own.take j)).length ≤ 800 := by
              have := encs_len4 (own.take j)
              rw [List.length_take] at this
              omega
            have hlr : (encs (own.take j).reverse).length ≤ 800 := by
              have := encs_len4 (own.take j).reverse
              rw [List.length_reverse, List.length_take] at this
              omega
            have hl4 := (enc_length x).2
            have HST := Lib.hid hstep
            have hrp : Calls Try.prog 7 #[.int .i64 x] wr fun e w' => ∃ A' cap', e = .returned (.slice A' (enc x).length cap') ∧ BytesAt w' A' (enc x) ∧ Below wr.heap.size wr w' :=
              (refPut x wr (printC_fine hpx)).mono fun e w' ⟨v, he, hown, hb⟩ => by obtain ⟨A', cap, rfl, _, hba, _⟩ := hown.form; exact ⟨A', cap, he, hba, hb⟩
            have HRP := Lib.hid hrp
            have HPX := Lib.hid hpx
            have HGO := Lib.hid (And.intro hgo hng)
            have HCO := Lib.hid hco
            clear hrp hstep hx hpx hgo hng hco
            obtain ⟨s1, hs1⟩ : ∃ s, encs (own.take j) = s := ⟨_, rfl⟩
            obtain ⟨s2, hs2⟩ : ∃ s, encs (own.take j).reverse = s := ⟨_, rfl⟩
            obtain ⟨sx, hsx⟩ : ∃ s, enc x = s := ⟨_, rfl⟩
            rw [hsx] at HRP hl4
            rw [hs1] at hl1 ⊢
            rw [hs2] at hlr ⊢
            have HS1 := Lib.hid hs1
            have HS2 := Lib.hid hs2
            have HSX := Lib.hid hsx
            clear hs1 hs2 hsx
            go_wp2_with fail
            refine (HRP.out).mono ?_
            rintro e w6 ⟨A6, cap6, rfl, hA6, hb6⟩
            have HBO6 : Hid (Both w6 b a c b' a' c' (own.take j) [] A B) := HBOJ.out.below hb6
            have HBUT6 : Hid (But [b, a, c, b', a', c'] w5 w6) := HBUT.out.trans (But.of_below hb6)
            have HBW6 : Hid (Below w.heap.size w w6) := HBW2.out.trans (hb6.mono HBW2.out.size)
            clear hb6
            go_wp2_with fail
            have hcap1 : (encs (own.take j) ++ encs []).length + (enc x).length ≤ 1024 := by
              rw [encs_nil, List.append_nil, HS1.out, HSX.out]; omega
            refine (do_any 0 x w6 HBO6.out.one).mono ?_
            rw [doRune x HPX.out _ _ hcap1]
            rintro e w7 ⟨rfl, hed7, hbt7⟩
            have HBO7 : Hid (Both w7 b a c b' a' c' (own.take j ++ [x]) [] A B) := HBO6.out.fst hed7 hbt7
            have HBUT7 : Hid (But [b, a, c, b', a', c'] w5 w7) := HBUT6.out.trans (hbt7.mono (fun k hk _ => by simp at hk ⊢; omega))
            have HBW7 : Hid (Below w.heap.size w w7) := HBW6.out.trans (hbt7.below HBW6.out.size (by have := HL1.out; simp; omega))
            clear hed7 hbt7 hcap1
            go_wp2_with fail
            refine (do_any 6 0 w7 HBO7.out.two).mono ?_
            rw [doHome]
            rintro e w8 ⟨rfl, hed8, hbt8⟩
            have HBO8 : Hid (Both w8 b a c b' a' c' (own.take j ++ [x]) [] [] (A ++ B)) := HBO7.out.snd hed8 hbt8
            have HBUT8 : Hid (But [b, a, c, b', a', c'] w5 w8) := HBUT7.out.trans (hbt8.mono (fun k hk _ => by simp at hk ⊢; omega))
            have HBW8 : Hid (Below w.heap.size w w8) := HBW7.out.trans (hbt8.below HBW7.out.size (by have := HL2.out; simp; omega))
            clear hed8 hbt8
            go_wp2_with fail
            have hcap2 : (encs [] ++ encs (A ++ B)).length + (enc x).length ≤ 1024 := by
              rw [encs_nil, List.nil_append, HAB.out, HS2.out, HSX.out]; omega
            refine (do_any 0 x w8 HBO8.out.two).mono ?_
            rw [doRune x HPX.out _ _ hcap2]
            rintro e w9 ⟨rfl, hed9, hbt9⟩
            have HBO9 : Hid (Both w9 b a c b' a' c' (own.take j ++ [x]) [] ([] ++ [x]) (A ++ B)) := HBO8.out.snd hed9 hbt9
            have HBUT9 : Hid (But [b, a, c, b', a', c'] w5 w9) := HBUT8.out.trans (hbt9.mono (fun k hk _ => by simp at hk ⊢; omega))
            have HBW9 : Hid (Below w.heap.size w w9) := HBW8.out.trans (hbt9.below HBW8.out.size (by have := HL2.out; simp; omega))
            clear hed9 hbt9 hcap2
            go_wp2
            go_roundw
            case rel =>
              refine ⟨j + 1, [] ++ [x], A ++ B, by go_num, by rw [HN.out]; omega, ?_, ?_, ?_, ?_, HBUT9.out, HBW9.out⟩
              · rw [HST.out, encs_append, encs_one, HS1.out, HSX.out]
              · rw [HST.out, List.reverse_append, List.reverse_singleton, encs_append, encs_one, HS2.out, HSX.out]
              · rw [HST.out, List.reverse_append, List.reverse_singleton, HAB.out]; rfl
              · rw [HST.out]; exact HBO9.out
            case measure => simp [RowKit.intOf]; omega
          · have hge : decide ((j : Int) < (n : Int)) = false := by simp; omega
            have hge' : decide (j < n) = false := by simp; omega
            have HJ : Hid (j = n) := (by omega : j = n)
            clear hlt
            rw [HJ.out, List.take_of_length_le (by rw [HN.out]; exact Nat.le_refl _)] at HBOJ HAB ⊢
            have hTB : Calls Try.prog 9 #[.pointer (some ⟨b, 0, none⟩)] wr fun e w' => e = .returned (.string (strOf (encs own))) ∧ Below wr.heap.size wr w' := by
              have := text_e wr HBOJ.out.one
              rwa [encs_nil, List.append_nil] at this
            have hTC : ∀ W, Below wr.heap.size wr W → Calls Try.prog 9 #[.pointer (some ⟨b', 0, none⟩)] W fun e w' => e = .returned (.string (strOf (encs own.reverse))) ∧ Below wr.heap.size wr w' := fun W hW => by
              have := text_e W (HBOJ.out.below hW).two
              rw [← encs_append, HAB.out] at this
              exact this.mono fun e w' ⟨he, hb⟩ => ⟨he, hW.trans (hb.mono hW.size)⟩
            have hAT : ∀ W, Below wr.heap.size wr W → Calls Try.prog 10 #[.pointer (some ⟨b, 0, none⟩)] W fun e w' => e = .returned (.int .i64 (n : Int)) ∧ w' = W := fun W hW => by
              have := at_e W (HBOJ.out.below hW).one
              rwa [HN.out] at this
            have HTB := Lib.hid hTB
            have HTC := Lib.hid hTC
            have HAT := Lib.hid hAT
            clear hTB hTC hAT
            generalize strOf (encs own) = so at *
            generalize strOf (encs own.reverse) = sr at *
            go_wp2_with fail
            refine (HTB.out).mono ?_
            rintro e w6 ⟨rfl, hb6⟩
            go_wp2_with fail
            refine (HTC.out _ hb6).mono ?_
            rintro e w7 ⟨rfl, hb7⟩
            have HED7 : Hid (Ed w7 b a c 1024 own []) := (HBOJ.out.below hb7).one
            have HBW7 : Hid (Below w.heap.size w w7) := HBW2.out.trans (hb7.mono HBW2.out.size)
            have HAT7 := Lib.hid (HAT.out w7 hb7)
            clear hb6 hb7
            go_wp2_with (go_at_call 10; refine (HAT7.out).mono ?_; rintro e w15 ⟨rfl, hq⟩; obtain rfl := hq.symm)
            go_loopw [102] (fun i wx => R3 w b a c own i wx) (fun i _ => n - (RowKit.intOf i).toNat)
            case atStart => exact ⟨0, rfl, by omega, by rw [Nat.sub_zero, List.take_length]; exact HED7.out, HBW7.out⟩
            case round =>
              obtain ⟨j3, rfl, hj3, hed3, hbw3⟩ := hrel
              rw [HN.out] at hj3 hed3
              have HED3 := Lib.hid hed3
              have HBW3 := Lib.hid hbw3
              have hdb := do_any 2 0 wr HED3.out
              rw [doBack] at hdb
              have HDB := Lib.hid hdb
              clear hed3 hbw3 hdb
              by_cases hlt3 : j3 < n
              · have k0 : (j3 : Int) < (n : Int) := by omega
                have e1 : decide (own.take (n - j3) ≠ []) = true := by
                  simp only [decide_eq_true_eq]
                  intro h
                  have := congrArg List.length h
                  rw [List.length_take, HN.out] at this
                  simp at this
                  omega
                have e2 : (own.take (n - j3)).dropLast = own.take (n - (j3 + 1)) := by
                  rw [List.dropLast_eq_take, List.length_take, List.take_take, HN.out]
                  congr 1
                  omega
                rw [e1, e2] at HDB
                clear e1 e2
                go_wp2_with fail
                refine (HDB.out).mono ?_
                rintro e w8 ⟨rfl, hed8, hbt8⟩
                have HED8 := Lib.hid hed8
                have HBW8 : Hid (Below w.heap.size w w8) := HBW3.out.trans (hbt8.below HBW3.out.size (by have := HL1.out; simp; omega))
                clear hed8 hbt8
                go_wp2
                go_roundw
                case rel => exact ⟨j3 + 1, by go_num, by rw [HN.out]; omega, by rw [HN.out]; exact HED8.out, HBW8.out⟩
                case measure => simp [RowKit.intOf]; omega
              · have hge3 : decide ((j3 : Int) < (n : Int)) = false := by simp; omega
                have hge3' : decide (j3 < n) = false := by simp; omega
                have e0 : n - j3 = 0 := by omega
                rw [e0, List.take_zero] at HDB
                clear hlt3 e0
                go_wp2_with fail
                refine (HDB.out).mono ?_
                rintro e w8 ⟨rfl, hed8, hbt8⟩
                have HLN := Lib.hid (len_e w8 hed8)
                have HBW8 : Hid (Below w.heap.size w w8) := HBW3.out.trans (hbt8.below HBW3.out.size (by have := HL1.out; simp; omega))
                clear hed8 hbt8
                go_wp2_with (go_at_call 11; refine (HLN.out).mono ?_; rintro e w15 ⟨rfl, hq⟩; obtain rfl := hq.symm)
                go_ret
                exact ⟨rfl, HBW8.out⟩
  · have k1 : decide (200 < (zs.length : Int)) = true := by simp; omega
    go_wp2_with fail
    refine (HAL.out _).mono ?_
    rintro e w5 ⟨rfl, hb5⟩
    go_wp2
    go_ret
    exact ⟨rfl, HW3.out.trans (hb5.mono HW3.out.size)⟩

end Go.Proofs.Ytbkpnffgihjikaa.EditbufTypes

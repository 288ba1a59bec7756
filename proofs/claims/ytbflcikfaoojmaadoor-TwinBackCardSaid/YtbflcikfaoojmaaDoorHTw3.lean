/- The secret characters of bytes: twin.secret's closure, walked in the wide fence. -/
import Derived.RangeFuncNested
import Derived.RangeFuncBound
import Derived.RangeFuncCalls
import Derived.RangeFuncLeaves
import Derived.Shelf.Abstract
import Derived.Shelf.RegionOpen
import Derived.WalkKit
import Derived.OwnWalkIn
import Derived.TacticsInMore
import Derived.LoopNIn
import Derived.LoopIn
import Derived.Test.YtbflcikfaoojmaaDoorGC
import Derived.Test.YtbflcikfaoojmaaDoorGF
set_option linter.unusedVariables false
set_option linter.unusedSimpArgs false
namespace Go.Proofs.YtbflcikfaoojmaaDoor.Edit
open Go.RowKit Go.Lib Go.Shelf ChangeShapes Mem Utf UtfP

theorem begins_c (l : List UInt8) (A : Option Addr) (cap : Nat) (w : World) (hA : BytesAt w A l) (hcap : l.length ≤ cap) (hm : l.length ≤ 1000000) :
    Calls Tryd.prog 50 #[.slice A l.length cap] w fun e w' => e = .returned (.bool (begE l)) ∧ Below w.heap.size w w' := by
  have H1 := Lib.hid (escseq_next l A cap w hA hcap hm)
  have hb : begE l = ((seqN l).2.2 == 7) := by unfold begE; rw [Bool.eq_iff_iff]; simp
  rw [hb]
  generalize seqN l = R at *
  obtain ⟨k, n, er⟩ := R
  clear hA hb
  go_enter Tryd.func50, Tryd.ntmps50
  go_wp2_with fail
  refine (H1.out).mono ?_
  rintro e w1 ⟨rfl, hb1⟩
  have HB1 := Lib.hid hb1
  clear hb1
  go_wp2
  go_ret
  exact ⟨rfl, HB1.out.alloc HB1.out.size _⟩

/-- a secret character of these bytes -/
abbrev SC (b : List UInt8) := { x : Nat × Int // x ∈ secE b }
def encS {b : List UInt8} (x : SC b) : Array Value := #[.int .i64 (x.1.1 : Int), .int .i64 x.1.2]
/-- what a round keeps -/
def KpS (n1 : Nat) (S : List Nat) (W W' : World) : Prop := Below n1 W W' ∧ ∀ k ∈ S, W'.heap[k]? = W.heap[k]?
theorem KpS.trans {n1 : Nat} {S : List Nat} {A B C : World} (h : KpS n1 S A B) (k : KpS n1 S B C) : KpS n1 S A C := ⟨h.1.trans k.1, fun i hi => (k.2 i hi).trans (h.2 i hi)⟩
theorem KpS.refl (n1 : Nat) (S : List Nat) (A : World) : KpS n1 S A A := ⟨Below.refl _ _, fun _ _ => rfl⟩
theorem KpS.below {n1 : Nat} {S : List Nat} {A B C : World} (h : KpS n1 S A B) (k : Below B.heap.size B C) (hn : n1 ≤ B.heap.size) (hS : ∀ i ∈ S, i < B.heap.size) : KpS n1 S A C := h.trans ⟨k.mono hn, fun i hi => k.block i (hS i hi)⟩
theorem Below.grown0 {W W' : World} (h : Below W.heap.size W W') : W.grownBy W' none := ⟨h.os, h.tape, h.output, h.size, fun k hk _ => h.block k hk⟩

theorem bytes_same {W W' : World} {A : Option Addr} {b : List UInt8} (h : BytesAt W A b) (hs : W.heap.size ≤ W'.heap.size) (hA : ∀ ad, A = some ad → b ≠ [] → W'.heap[ad.block]? = W.heap[ad.block]?) : BytesAt W' A b := by
  intro hne
  obtain ⟨B, off, rfl, hlt, hc⟩ := h hne
  refine ⟨B, off, rfl, Nat.lt_of_lt_of_le hlt hs, fun j hj => ?_⟩
  rw [World.cell?_of_block (w := W) (a := ⟨B, off + j, none⟩) (hA ⟨B, off, none⟩ rfl hne)]
  exact hc j hj

section
attribute [local go_sem] Oper.semAt_some

/-- the iterator's loop -/
def RSc (w1 W : World) (b : List UInt8) (S : List Nat) (J : List (SC b) → World → Prop) (s3 s4 : Value) (wr : World) : Prop :=
  ∃ (i k : Nat) (br : Bool) (pre : List (SC b)), s3 = .bool br ∧ s4 = .int .i64 (i : Int) ∧ i ≤ b.length ∧ b.length ≤ i + k ∧ Hid (pre.map Subtype.val ++ secF b k i br = secE b) ∧ Hid (J pre wr) ∧ Hid (KpS w1.heap.size S W wr) ∧ W.heap.size ≤ wr.heap.size

set_option maxRecDepth 100000 in
set_option maxHeartbeats 4000000 in
theorem secret1_in (n l : Nat) (hn : 1 ≤ n) (b : List UInt8) (A : Option Addr) (cap bx : Nat) (w1 W : World) (hT : Tabs w1) (S : List Nat) (hbx : bx ∈ S) (hAS : ∀ ad, A = some ad → b ≠ [] → ad.block ∈ S) (hS : ∀ k ∈ S, k < W.heap.size)
    (J Jx : List (SC b) → World → Prop) (hJ : AbidesFrom W.heap.size J)
    (hY : ∀ pre x V, J pre V → pre.length < b.length → YieldAt Fence.wide (n - 1) Tryd.prog l (encS x) V fun e W' =>
      (e = .returned (.bool true) ∧ J (pre ++ [x]) W' ∧ KpS w1.heap.size S V W') ∨ (e = .returned (.bool false) ∧ Jx (pre ++ [x]) W'))
    (hBW : Below w1.heap.size w1 W) (hcell : W.cell? ⟨bx, 0, none⟩ = some (.slice A b.length cap)) (hby : BytesAt W A b) (hcap : b.length ≤ cap) (hm : b.length ≤ 1000000) (h0 : J [] W) :
    CallsIn Fence.wide n Tryd.prog 48 #[.func (.yield l) #[] #[], .pointer (some ⟨bx, 0, none⟩)] W fun e W' => (∃ v, e = .returned v) ∧
      ((∃ ys, ys.map Subtype.val = secE b ∧ J ys W') ∨ (∃ pre, True ∧ Jx pre W')) := by
  have HJ := Lib.hid hJ
  have HY := Lib.hid hY
  have HBY := Lib.hid hby
  have HS := Lib.hid hS
  have HAS := Lib.hid hAS
  have HT := Lib.hid hT
  have HBW := Lib.hid hBW
  have hsz1 : w1.heap.size ≤ W.heap.size := hBW.size
  clear hJ hY hby hS hAS hT hBW
  refine callsIn_of_wp Tryd.func48 rfl trivial ?_ rfl
  simp only [Tryd.ntmps48, List.size_toArray, List.length_cons, List.length_nil, Nat.reduceAdd, Nat.reduceSub, Array.replicate_succ, Array.replicate_zero, List.push_toArray, List.append_toArray, List.nil_append, List.cons_append]
  gi_wp2
  gi_loopw [3, 4] (fun s3 s4 wr => RSc w1 W b S J s3 s4 wr) (fun _ i _ => b.length - (RowKit.intOf i).toNat)
  case atStart => exact ⟨0, b.length, false, [], rfl, rfl, Nat.zero_le _, by omega, by unfold Hid; rfl, h0, Lib.hid (KpS.refl _ _ _), Nat.le_refl _⟩
  case round =>
    obtain ⟨i, k, br, pre, rfl, rfl, hi, hk, HP, HJP, HKP, hszr⟩ := hrel
    have hcr : wr.cell? ⟨bx, 0, none⟩ = some (.slice A b.length cap) := by rw [World.cell?_of_block (w := W) (HKP.out.2 bx hbx)]; exact hcell
    have hbyr := bytes_same HBY.out hszr (fun ad had hne => HKP.out.2 _ (HAS.out ad had hne))
    have HBYR := Lib.hid hbyr
    clear hbyr
    by_cases hlt : i < b.length
    · have k0 : (i : Int) < (b.length : Int) := by omega
      have hne : b ≠ [] := by intro e; rw [e] at hlt; simp at hlt
      obtain ⟨B, off, rfl, hBlt, hcx⟩ := HBYR.out hne
      have e0 := hcx i hlt
      have hcut : BytesAt wr (some ⟨B, off + i, none⟩) (b.drop i) := by
        have := BytesAt.cut HBYR.out hcap (k := i)
        rw [if_neg (by omega)] at this
        simpa [addr_add] using this
      have hd0 : bt (b.drop i) 0 = bt b i := by unfold bt; rw [List.getD_eq_getElem?_getD, List.getD_eq_getElem?_getD, List.getElem?_drop, Nat.add_zero]
      have hdl : (b.drop i).length = b.length - i := List.length_drop
      obtain ⟨k', rfl⟩ : ∃ k', k = k' + 1 := ⟨k - 1, by omega⟩
      have hsec := HP.out
      unfold secF at hsec
      rw [if_neg (by omega), hd0] at hsec
      obtain ⟨x, hx⟩ : ∃ x, bt b i = x := ⟨_, rfl⟩
      rw [hx] at e0 hsec hd0
      have hk1 : (i : Int) ≤ (cap : Int) := by omega
      have hk2 : (i : Int) ≤ (b.length : Int) := by omega
      have hdne : b.drop i ≠ [] := by intro e; rw [e] at hdl; simp at hdl; omega
      have HDL := Lib.hid hdl
      have HCUT := Lib.hid hcut
      have HD0 := Lib.hid hd0
      have HDNE := Lib.hid hdne
      have hSr : ∀ k ∈ S, k < wr.heap.size := fun k hk => by have := HS.out k hk; omega
      have HSR := Lib.hid hSr
      clear hcx hcut hd0 hdl hx hdne HBYR HP
      have hci : ¬ cap = i := by omega
      by_cases h27 : x = 27
      · subst h27
        rw [if_pos rfl] at hsec
        have hnx := escseq_next (b.drop i) (some ⟨B, off + i, none⟩) (cap - i) wr HCUT.out (by rw [HDL.out]; omega) (by rw [HDL.out]; omega)
        obtain ⟨K, m, er, hR⟩ : ∃ K m er, seqN (b.drop i) = (K, m, er) := ⟨_, _, _, rfl⟩
        have hml := tw_seqN_le (b.drop i)
        have hmp := tw_seqN_pos HDNE.out HD0.out
        rw [hR] at hnx hsec hml hmp
        simp only at hsec hml hmp
        rw [HDL.out] at hnx hml
        have HN := Lib.hid hnx
        have HSEC := Lib.hid hsec
        have HMP := Lib.hid hmp
        clear hnx hsec hR hmp
        gi_wp2_with fail
        refine ⟨trivial, (callsIn_wide.2 HN.out).mono ?_⟩
        rintro e w2 ⟨rfl, hb2⟩
        have hal : Below wr.heap.size wr (w2.alloc (.cells #[.int .i64 K, .int .i64 0] 62)) := hb2.alloc hb2.size _
        have HKP2 := Lib.hid (HKP.out.below hal (by omega) HSR.out)
        have HJ2 : Hid (J pre (w2.alloc (.cells #[.int .i64 K, .int .i64 0] 62))) := HJ.out pre _ _ none HJP.out (Below.grown0 hal) (fun r h => by cases h)
        have HAL := Lib.hid hal
        clear hal hb2
        by_cases her : er = 0
        · subst her
          rw [if_neg (by simp)] at HSEC
          have hmp := HMP.out rfl
          have htl : ((b.drop i).take m).length = m := by rw [List.length_take, HDL.out]; omega
          have hbg := begins_c ((b.drop i).take m) (some ⟨B, off + i, none⟩) (cap - i) _ ((HCUT.out.take m).below HAL.out) (by rw [htl]; omega) (by rw [htl]; omega)
          rw [htl] at hbg
          obtain ⟨br2, hbr⟩ : ∃ br2, begE ((b.drop i).take m) = br2 := ⟨_, rfl⟩
          rw [hbr] at hbg HSEC
          have HBG := Lib.hid hbg
          have hm1 : (m : Int) ≤ ((b.length : Int) - (i : Int)) := by omega
          have hm2 : (m : Int) ≤ ((cap : Int) - (i : Int)) := by omega
          have hm3 : m ≤ cap - i := by omega
          clear hbg hbr htl
          gi_wp2_with fail
          refine ⟨trivial, (callsIn_wide.2 HBG.out).mono ?_⟩
          rintro e w3 ⟨rfl, hb3⟩
          have hsz2 := HAL.out.size
          have HKP3 := Lib.hid (HKP2.out.below hb3 (by omega) (fun k hk => by have := HSR.out k hk; omega))
          have HJ3 : Hid (J pre w3) := HJ.out pre _ _ none HJ2.out (Below.grown0 hb3) (fun r h => by cases h)
          have hsz3 := hb3.size
          have hsum : IntKind.i64.wrap ((i : Int) + (m : Int)) = (i : Int) + (m : Int) := IntWalk.i64_in _ (by omega)
          clear hb3
          gi_wp2
          go_roundw
          case rel => exact ⟨i + m, k', br2, pre, rfl, by go_num, by omega, by omega, HSEC, HJ3, HKP3, by omega⟩
          case measure => simp [RowKit.intOf]; omega
        · have her' : (er != 0) = true := by simpa using her
          rw [if_pos her, List.append_nil] at HSEC
          gi_wp2
          refine bodyPost_ret (results_none rfl _ _ _) rfl ?_
          exact ⟨⟨_, rfl⟩, .inl ⟨pre, HSEC.out, HJ2.out⟩⟩
      · have h27' : ((x : Int) == 27) = false := by simp; omega
        rw [if_neg h27] at hsec
        have hnx := nextGo (b.drop i) (some ⟨B, off + i, none⟩) (cap - i) wr (HT.out.below (HBW.out.trans HKP.out.1)) HCUT.out (by rw [HDL.out]; omega) (by rw [HDL.out]; omega)
        obtain ⟨c, m, er, hR⟩ : ∃ c m er, next (b.drop i) = (c, m, er) := ⟨_, _, _, rfl⟩
        have hfc := next_facts HDNE.out
        rw [hR, HDL.out] at hfc
        rw [hR] at hnx hsec
        simp only at hsec
        rw [HDL.out] at hnx
        have HN := Lib.hid hnx
        have HSEC := Lib.hid hsec
        obtain ⟨f1, f2, f3, _, f5, _⟩ := hfc
        simp only at f1 f2 f3 f5
        clear hnx hsec hR
        have hsum : IntKind.i64.wrap ((i : Int) + (m : Int)) = (i : Int) + (m : Int) := IntWalk.i64_in _ (by omega)
        gi_wp2_with fail
        refine ⟨trivial, (callsIn_wide.2 HN.out).mono ?_⟩
        rintro e w2 ⟨rfl, hb2⟩
        have HKP2 := Lib.hid (HKP.out.below hb2 (by omega) HSR.out)
        have HJ2 : Hid (J pre w2) := HJ.out pre _ _ none HJP.out (Below.grown0 hb2) (fun r h => by cases h)
        have hsz2 := hb2.size
        have HPR := Lib.hid (printable (c : Int) w2)
        clear hb2
        simp only [res3]
        by_cases her : er = 0
        · subst her
          cases hpr : printC (c : Int) with
          | false =>
            rw [hpr] at HPR
            have hse : secC i (c, m, 0) br = [] := by unfold secC; rw [hpr]; simp
            rw [hse, List.nil_append] at HSEC
            have HSE2 := HSEC
            clear hse hpr
            gi_wp2_with fail
            refine ⟨trivial, (callsIn_wide.2 HPR.out).mono ?_⟩
            rintro e w3 ⟨rfl, hb3⟩
            have HKP3 := Lib.hid (HKP2.out.below hb3 (by omega) (fun k hk => by have := HSR.out k hk; omega))
            have HJ3 : Hid (J pre w3) := HJ.out pre _ _ none HJ2.out (Below.grown0 hb3) (fun r h => by cases h)
            have hsz3 := hb3.size
            clear hb3
            gi_wp2
            refine ⟨fun _ h => (by cases h), ?_⟩
            gi_wp2
            go_roundw
            case rel => exact ⟨i + m, k', false, pre, rfl, by go_num, by omega, by omega, HSE2, HJ3, HKP3, by omega⟩
            case measure => simp [RowKit.intOf]; omega
          | true =>
            rw [hpr] at HPR
            by_cases hcond : 1 < m ∨ br = false
            · have hse : secC i (c, m, 0) br = [(i, (c : Int))] := by unfold secC; rw [if_pos ⟨rfl, hpr, hcond⟩]
              rw [hse] at HSEC
              have hmem : ((i, (c : Int)) : Nat × Int) ∈ secE b := by rw [← HSEC.out]; exact List.mem_append_right _ (List.mem_append_left _ (List.mem_singleton.2 rfl))
              have hlen : pre.length < b.length := by
                have h1 := secE_len b
                rw [← HSEC.out] at h1
                simp at h1
                omega
              have HSE2 : Hid ((pre ++ [(⟨(i, (c : Int)), hmem⟩ : SC b)]).map Subtype.val ++ secF b k' (i + m) false = secE b) := by
                unfold Hid; refine Eq.trans ?_ HSEC.out; simp
              have HLEN := Lib.hid hlen
              clear hse hpr hlen HSEC
              have hct : Hid (∀ (K : Prop), (∀ (k1 : decide (1 < (m : Int)) = true), K) → (∀ (k1 : decide (1 < (m : Int)) = false) (k2 : br = false), K) → K) := by
                intro K h1 h2
                by_cases hm1 : 1 < m
                · exact h1 (by simp; omega)
                · exact h2 (by simp; omega) (by rcases hcond with h | h; exact absurd h hm1; exact h)
              refine hct.out _ (fun k1 => ?_) (fun k1 k2 => ?_)
              all_goals
                clear hct hcond
                (try subst k2)
                gi_wp2_with fail
                refine ⟨trivial, (callsIn_wide.2 HPR.out).mono ?_⟩
                rintro e w3 ⟨rfl, hb3⟩
                have HKP3 := Lib.hid (HKP2.out.below hb3 (by omega) (fun k hk => by have := HSR.out k hk; omega))
                have HJ3 : Hid (J pre w3) := HJ.out pre _ _ none HJ2.out (Below.grown0 hb3) (fun r h => by cases h)
                have hsz3 := hb3.size
                clear hb3
                obtain ⟨fn, tmps, assign, body, hy, hR⟩ := HY.out pre ⟨(i, (c : Int)), hmem⟩ w3 HJ3.out HLEN.out
                dsimp only [encS] at hy
                gi_wp2
                refine hR.mono ?_
                rintro e W3 (⟨rfl, hJ4, hk4⟩ | ⟨rfl, hJx4⟩)
                · have HKP4 := Lib.hid (HKP3.out.trans hk4)
                  have HJ4 := Lib.hid hJ4
                  have hsz4 := hk4.1.size
                  clear hJ4 hk4 hy hR
                  gi_wp2
                  go_roundw
                  case rel => exact ⟨i + m, k', false, _, rfl, by go_num, by omega, by omega, HSE2, HJ4, HKP4, by omega⟩
                  case measure => simp [RowKit.intOf]; omega
                · gi_wp2
                  refine bodyPost_ret (results_none rfl _ _ _) rfl ?_
                  exact ⟨⟨_, rfl⟩, .inr ⟨_, trivial, hJx4⟩⟩
            · have hse : secC i (c, m, 0) br = [] := by unfold secC; rw [if_neg (fun h => hcond h.2.2)]
              rw [hse, List.nil_append] at HSEC
              have HSE2 := HSEC
              have k1 : decide (1 < (m : Int)) = false := by simp; omega
              have k2 : br = true := by cases br; exact absurd (Or.inr rfl) hcond; rfl
              subst k2
              clear hse hpr hcond
              gi_wp2_with fail
              refine ⟨trivial, (callsIn_wide.2 HPR.out).mono ?_⟩
              rintro e w3 ⟨rfl, hb3⟩
              have HKP3 := Lib.hid (HKP2.out.below hb3 (by omega) (fun k hk => by have := HSR.out k hk; omega))
              have HJ3 : Hid (J pre w3) := HJ.out pre _ _ none HJ2.out (Below.grown0 hb3) (fun r h => by cases h)
              have hsz3 := hb3.size
              clear hb3
              gi_wp2
              refine ⟨fun _ h => (by cases h), ?_⟩
              gi_wp2
              go_roundw
              case rel => exact ⟨i + m, k', false, pre, rfl, by go_num, by omega, by omega, HSE2, HJ3, HKP3, by omega⟩
              case measure => simp [RowKit.intOf]; omega
        · have her' : ((er : Int) == 0) = false := by simp; omega
          have hse : secC i (c, m, er) br = [] := by unfold secC; rw [if_neg (fun h => her h.1)]
          rw [hse, List.nil_append] at HSEC
          have HSE2 := HSEC
          clear hse her
          gi_wp2
          refine ⟨trivial, ?_⟩
          gi_wp2
          refine ⟨fun _ h => (by cases h), ?_⟩
          gi_wp2
          go_roundw
          case rel => exact ⟨i + m, k', false, pre, rfl, by go_num, by omega, by omega, HSE2, HJ2, HKP2, by omega⟩
          case measure => simp [RowKit.intOf]; omega
    · have hge : decide ((i : Int) < (b.length : Int)) = false := by simp; omega
      have hge' : decide (i < b.length) = false := by simp; omega
      have hp := HP.out
      rw [secF_end (by omega), List.append_nil] at hp
      have HP2 := Lib.hid hp
      clear hp hlt
      gi_wp2
      go_end0
      exact ⟨⟨_, rfl⟩, .inl ⟨pre, HP2.out, HJP.out⟩⟩

end
end Go.Proofs.YtbflcikfaoojmaaDoor.Edit

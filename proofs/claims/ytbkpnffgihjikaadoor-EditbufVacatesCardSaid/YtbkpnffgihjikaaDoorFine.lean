/- Whether a text is of characters that may be shown: editbuf.fine and whispererref11.Fine, walked. -/
import Derived.Test.YtbkpnffgihjikaaDoorRows
import Derived.Test.YtbkpnffgihjikaaDoorUtfN
import Derived.Test.YtbkpnffgihjikaaDoorUtfS
import Derived.Test.YtbkpnffgihjikaaDoorPut
import Derived.Test.YtbkpnffgihjikaaDoorRefPrint
import Derived.Test.YtbkpnffgihjikaaDoorCut
import Derived.Test.YtbkpnffgihjikaaDoorEncP
set_option linter.unusedVariables false
namespace Go.Proofs.YtbkpnffgihjikaaDoor.Utf
open Go.RowKit Go.Lib Go.Shelf UtfP

def fineF : Nat → List UInt8 → Bool
  | 0, _ => true
  | d + 1, l => if l = [] then true else ((next l).2.2 == 0 && printC ((next l).1 : Int)) && fineF d (l.drop (next l).2.1)
/-- is a text of characters that may be shown? -/
def fineT (l : List UInt8) : Bool := fineF l.length l

theorem fineF_more : ∀ (d d' : Nat) (l : List UInt8), l.length ≤ d → l.length ≤ d' → fineF d l = fineF d' l := by
  intro d
  induction d with
  | zero =>
    intro d' l h _
    have : l = [] := List.eq_nil_of_length_eq_zero (by omega)
    subst this
    cases d' with
    | zero => rfl
    | succ d' => unfold fineF; rw [if_pos rfl]
  | succ d ih =>
    intro d' l h h'
    by_cases hl : l = []
    · subst hl
      unfold fineF
      cases d' with
      | zero => simp
      | succ d' => simp
    · obtain ⟨f1, f2, _⟩ := next_facts hl
      cases d' with
      | zero => exact absurd (List.eq_nil_of_length_eq_zero (by omega)) hl
      | succ d' =>
        unfold fineF
        rw [if_neg hl, if_neg hl, ih d' (l.drop (next l).2.1) (by rw [List.length_drop]; omega) (by rw [List.length_drop]; omega)]
theorem fineT_nil : fineT [] = true := rfl
theorem fineT_cons {l : List UInt8} (h : l ≠ []) : fineT l = (((next l).2.2 == 0 && printC ((next l).1 : Int)) && fineT (l.drop (next l).2.1)) := by
  obtain ⟨f1, f2, _⟩ := next_facts h
  have hl := List.length_pos_iff.2 h
  obtain ⟨d, hd⟩ : ∃ d, l.length = d + 1 := ⟨l.length - 1, by omega⟩
  unfold fineT
  rw [hd]
  conv => lhs; unfold fineF
  rw [if_neg h]
  rw [fineF_more d (l.drop (next l).2.1).length (l.drop (next l).2.1) (by rw [List.length_drop]; omega) (Nat.le_refl _)]

set_option maxHeartbeats 2000000 in
theorem fineGo (l : List UInt8) (A : Option Addr) (cap : Nat) (w : World) (hT : Tabs w) (hA : BytesAt w A l) (hcap : l.length ≤ cap) (hm : l.length ≤ 140737488355328) :
    Calls Tryd.prog 64 #[.slice A l.length cap] w fun e w' => e = .returned (.bool (fineT l)) ∧ Below w.heap.size w w' := by
  have HA := Lib.hid hA
  have HT := Lib.hid hT
  clear hA hT
  obtain ⟨R, hR⟩ : ∃ R, fineT l = R := ⟨_, rfl⟩
  rw [hR]
  have HR := Lib.hid hR
  clear hR
  go_enter Tryd.func64, Tryd.ntmps64
  go_wp2
  go_loopw [0] (fun b wr => ∃ (rest : List UInt8) (A' : Option Addr) (cap' : Nat), b = .slice A' rest.length cap' ∧ rest.length ≤ cap' ∧ rest.length ≤ l.length ∧ Hid (BytesAt w A' rest) ∧ Hid (fineT rest = R) ∧ Below w.heap.size w wr) (fun b _ => lenOf b)
  case atStart => exact ⟨l, A, cap, rfl, hcap, by omega, HA, HR, Below.refl _ _⟩
  case round =>
    obtain ⟨rest, A', cap', rfl, hcap', hlen, HA', HF, hbw⟩ := hrel
    by_cases hne : rest = []
    · subst hne
      have Hb := Lib.hid hbw
      clear hlen hbw
      go_wp2
      go_ret
      exact ⟨by rw [← HF.out]; rfl, Hb.out⟩
    · obtain ⟨f1, f2, f3, _, f5, f6⟩ := next_facts hne
      have hcons := fineT_cons hne
      obtain ⟨c, k, f, hc⟩ : ∃ c k f, next rest = (c, k, f) := ⟨_, _, _, rfl⟩
      have C1 := (nextGo rest A' cap' wr (HT.out.below hbw) (HA'.out.below hbw) hcap' (by omega)).mono (R' := fun e w' => e = .returned (.tuple #[.int .i64 c, .int .i64 k, .int .i64 f]) ∧ Below wr.heap.size wr w') (fun e w' ⟨he, hb⟩ => ⟨by rw [he, hc]; rfl, hb⟩)
      rw [hc] at f1 f2 f3 f5 hcons
      simp only at f1 f2 f3 f5 hcons
      rw [HF.out] at hcons
      have hpos : 0 < rest.length := List.length_pos_iff.2 hne
      have H1 := Lib.hid C1
      have H2 := Lib.hid (fun W => printable (c : Int) W)
      have k0 : (0 : Int) < (rest.length : Int) := by omega
      have k1 : (k : Int) ≤ (rest.length : Int) := by omega
      have HBW := Lib.hid hbw
      clear C1 hc hne f6 f5 hbw
      by_cases hf : f = 0
      · subst hf
        cases hp : printC (c : Int)
        · rw [hp] at H2 hcons
          have HC := Lib.hid hcons
          clear hcons hp
          go_wp2_with (first | (go_at_call 74; refine (H1.out).mono ?_; rintro e w1 ⟨rfl, hb1⟩) | (go_at_call 53; refine (H2.out _).mono ?_; rintro e w2 ⟨rfl, hb2⟩))
          go_ret
          exact ⟨by rw [HC.out]; rfl, HBW.out.trans ((hb1.trans (hb2.mono hb1.size)).mono HBW.out.size)⟩
        · rw [hp] at H2 hcons
          have HC := Lib.hid hcons
          clear hcons hp
          go_wp2_with (first | (go_at_call 74; refine (H1.out).mono ?_; rintro e w1 ⟨rfl, hb1⟩) | (go_at_call 53; refine (H2.out _).mono ?_; rintro e w2 ⟨rfl, hb2⟩))
          go_roundw
          case rel =>
            refine ⟨rest.drop k, _, cap' - k, ?_, ?_, ?_, BytesAt.cut HA'.out hcap', ?_, HBW.out.trans ((hb1.trans (hb2.mono hb1.size)).mono HBW.out.size)⟩
            · rw [List.length_drop]
            · rw [List.length_drop]; omega
            · rw [List.length_drop]; omega
            · unfold Hid; rw [HC.out]; rfl
          case measure => simp [lenOf]; omega
      · have k2 : ((f : Int) != 0) = true := by rw [bne_iff_ne]; omega
        have k3 : (f == 0) = false := by simpa using hf
        rw [k3] at hcons
        have HC := Lib.hid hcons
        clear hcons k3 hf
        go_wp2_with (go_at_call 74; refine (H1.out).mono ?_; rintro e w1 ⟨rfl, hb1⟩)
        go_ret
        exact ⟨by rw [HC.out]; rfl, HBW.out.trans (hb1.mono HBW.out.size)⟩

set_option maxHeartbeats 2000000 in
theorem refFineT (l : List UInt8) (A : Option Addr) (cap : Nat) (w : World) (hA : BytesAt w A l) (hcap : l.length ≤ cap) (hm : l.length ≤ 140737488355328) :
    Calls Tryd.prog 49 #[.slice A l.length cap] w fun e w' => e = .returned (.bool (fineT l)) ∧ Below w.heap.size w w' := by
  have HA := Lib.hid hA
  clear hA
  obtain ⟨R, hR⟩ : ∃ R, fineT l = R := ⟨_, rfl⟩
  rw [hR]
  have HR := Lib.hid hR
  clear hR
  go_enter Tryd.func49, Tryd.ntmps49
  go_wp2
  go_loopw [3] (fun i wr => ∃ (j : Nat), i = .int .i64 (j : Int) ∧ j ≤ l.length ∧ Hid (fineT (l.drop j) = R) ∧ Below w.heap.size w wr) (fun i _ => l.length - (RowKit.intOf i).toNat)
  case atStart => exact ⟨0, rfl, by omega, HR, Below.refl _ _⟩
  case round =>
    obtain ⟨j, rfl, hj, HF, hbw⟩ := hrel
    by_cases hlt : j < l.length
    · have hne : l.drop j ≠ [] := fun h => by have := congrArg List.length h; rw [List.length_drop] at this; simp at this; omega
      obtain ⟨f1, f2, f3, _, f5, f6⟩ := next_facts hne
      have hcons := fineT_cons hne
      obtain ⟨c, k, f, hc⟩ : ∃ c k f, next (l.drop j) = (c, k, f) := ⟨_, _, _, rfl⟩
      have C1 := (nextRef (l.drop j) (A.map (·.add j)) (cap - j) wr (by have := BytesAt.cut (HA.out.below hbw) (k := j) hcap; rwa [if_neg (by omega)] at this) (by rw [List.length_drop]; omega)).mono (R' := fun e w' => e = .returned (.tuple #[.int .i64 c, .int .i64 k, .int .i64 f]) ∧ Below wr.heap.size wr w') (fun e w' ⟨he, hb⟩ => ⟨by rw [he, hc]; rfl, hb⟩)
      rw [hc] at f1 f2 f3 f5 hcons
      simp only at f1 f2 f3 f5 hcons
      rw [HF.out] at hcons
      rw [List.length_drop] at C1 f2
      rw [List.drop_drop] at hcons
      have H1 := Lib.hid C1
      have H2 := Lib.hid (fun W => refPrintable (c : Int) W)
      have k0 : (j : Int) < (l.length : Int) := by omega
      have k00 : (j : Int) ≤ (l.length : Int) := by omega
      have hsum : IntKind.i64.wrap ((j : Int) + (k : Int)) = (j : Int) + (k : Int) := IntWalk.i64_in _ (by omega)
      have HBW := Lib.hid hbw
      clear C1 hc hne f6 f5 hbw
      by_cases hf : f = 0
      · subst hf
        cases hp : printC (c : Int)
        · rw [hp] at H2 hcons
          have HC := Lib.hid hcons
          clear hcons hp
          go_wp2_with (first | (go_at_call 70; refine (H1.out).mono ?_; rintro e w1 ⟨rfl, hb1⟩) | (go_at_call 68; refine (H2.out _).mono ?_; rintro e w2 ⟨rfl, rfl⟩))
          go_ret
          exact ⟨by rw [HC.out]; rfl, HBW.out.trans (hb1.mono HBW.out.size)⟩
        · rw [hp] at H2 hcons
          have HC := Lib.hid hcons
          clear hcons hp
          go_wp2_with (first | (go_at_call 70; refine (H1.out).mono ?_; rintro e w1 ⟨rfl, hb1⟩) | (go_at_call 68; refine (H2.out _).mono ?_; rintro e w2 ⟨rfl, rfl⟩))
          go_roundw
          case rel => exact ⟨j + k, by go_num, by omega, by unfold Hid; rw [HC.out]; rfl, HBW.out.trans (hb1.mono HBW.out.size)⟩
          case measure => simp [RowKit.intOf]; omega
      · have k2 : ((f : Int) != 0) = true := by rw [bne_iff_ne]; omega
        have k3 : (f == 0) = false := by simpa using hf
        rw [k3] at hcons
        have HC := Lib.hid hcons
        clear hcons k3 hf
        go_wp2_with (go_at_call 70; refine (H1.out).mono ?_; rintro e w1 ⟨rfl, hb1⟩)
        go_ret
        exact ⟨by rw [HC.out]; rfl, HBW.out.trans (hb1.mono HBW.out.size)⟩
    · have hge : decide ((j : Int) < (l.length : Int)) = false := by simp; omega
      have hge' : decide (j < l.length) = false := by simp; omega
      have Hb := Lib.hid hbw
      have hjl : j = l.length := by omega
      have Hj := Lib.hid hjl
      clear hbw hlt hjl
      go_wp2
      go_ret
      refine ⟨?_, Hb.out⟩
      have := HF.out
      rw [Hj.out, List.drop_length] at this
      rw [← this]; rfl

end Go.Proofs.YtbkpnffgihjikaaDoor.Utf

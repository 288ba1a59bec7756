/- utf.Text, walked. -/
import Derived.Test.YtbkpnffgihjikaaDoorUtfN
import Derived.Test.YtbkpnffgihjikaaDoorAppR
import Derived.Test.YtbkpnffgihjikaaDoorCut
import Derived.Test.YtbkpnffgihjikaaDoorTextP
set_option linter.unusedVariables false
namespace Go.Proofs.YtbkpnffgihjikaaDoor.Utf
open Go.RowKit Go.Lib Go.Shelf UtfP

set_option maxHeartbeats 2000000 in
theorem textGo (l : List UInt8) (A : Option Addr) (cap : Nat) (w : World) (hT : Tabs w) (hA : BytesAt w A l) (hcap : l.length ≤ cap) (hm : l.length ≤ 1099511627776) :
    Calls Tryd.prog 71 #[.slice A l.length cap] w fun e w' => ∃ v, e = .returned v ∧ OwnB w' w.heap.size v (text l) ∧ Below w.heap.size w w' := by
  have HA := Lib.hid hA
  have HT := Lib.hid hT
  clear hA hT
  go_enter Tryd.func71, Tryd.ntmps71
  go_wp2
  go_loopw [0, 3] (fun b out wr => ∃ (rest : List UInt8) (done : List Int) (A' : Option Addr) (cap' : Nat), b = .slice A' rest.length cap' ∧ rest.length ≤ cap' ∧ Hid (BytesAt w A' rest) ∧ Hid (chars l = done ++ chars rest) ∧ Hid (OwnB wr w.heap.size out (done.flatMap enc)) ∧ (done.flatMap enc).length + 4 * rest.length ≤ 4 * l.length ∧ Below w.heap.size w wr) (fun b _ _ => lenOf b)
  case atStart => exact ⟨l, [], A, cap, rfl, hcap, HA, Lib.hid rfl, OwnB.nil _ _, by simp, Below.refl _ _⟩
  case round =>
    obtain ⟨rest, done, A', cap', rfl, hcap', HA', Hch, Hown, hlen, hbw⟩ := hrel
    by_cases hne : rest = []
    · subst hne
      have Hb := Lib.hid hbw
      clear hlen hbw
      go_wp2
      go_ret
      exact ⟨_, rfl, by have := Hch.out; rw [chars_nil, List.append_nil] at this; unfold text; rw [this]; exact Hown.out, Hb.out⟩
    · obtain ⟨f1, f2, f3, _, f5, f6⟩ := next_facts hne
      have hcons := chars_cons hne
      have hhd := headC_bd rest
      obtain ⟨c, k, f, hc⟩ : ∃ c k f, next rest = (c, k, f) := ⟨_, _, _, rfl⟩
      have C1 := (nextGo rest A' cap' wr (HT.out.below hbw) (HA'.out.below hbw) hcap' (by omega)).mono (R' := fun e w' => e = .returned (.tuple #[.int .i64 c, .int .i64 k, .int .i64 f]) ∧ Below wr.heap.size wr w') (fun e w' ⟨he, hb⟩ => ⟨by rw [he, hc]; rfl, hb⟩)
      have hhc : headC rest = if f = 0 then (c : Int) else 65533 := by unfold headC; rw [hc]
      rw [hc] at f1 f2 f3 f5 hcons
      simp only at f1 f2 f3 f5 hcons
      have hen := enc_length (headC rest)
      have hpos : 0 < rest.length := List.length_pos_iff.2 hne
      have H1 := Lib.hid C1
      have Hcons := Lib.hid hcons
      have Hne := Lib.hid hne
      have C2 : ∀ w1, Below wr.heap.size wr w1 → Calls Tryd.prog 73 #[u3, .int .i32 (headC rest)] w1 fun e w2 => ∃ v', e = .returned v' ∧ Hid (OwnB w2 w.heap.size v' ((done ++ [headC rest]).flatMap enc)) ∧ Below w.heap.size w w2 := fun w1 hb1 => by
        have hs := hbw.size
        have hs1 := hb1.size
        refine (appendRune w.heap.size u3 (done.flatMap enc) (headC rest) (by omega) (by omega) w1 (Hown.out.below hb1) (by omega) (by omega)).mono ?_
        rintro e w2 ⟨v', he, hown, hg⟩
        refine ⟨v', he, ?_, ?_⟩
        · unfold Hid
          rw [List.flatMap_append, List.flatMap_singleton]
          exact hown
        · exact (hbw.trans (hb1.mono hs)).grown hg (by omega) (fun k hk => ((Hown.out.below hb1).lt hk).1)
      have H2 := Lib.hid C2
      have k0 : (0 : Int) < (rest.length : Int) := by omega
      have k1 : (k : Int) ≤ (rest.length : Int) := by omega
      have Hx : Hid ((done ++ [headC rest]).flatMap enc = done.flatMap enc ++ enc (headC rest)) := by unfold Hid; rw [List.flatMap_append, List.flatMap_singleton]
      have Hhd := Lib.hid hhd
      have Hen := Lib.hid hen
      clear C1 C2 hc hcons hne f6 hhd hen
      by_cases hf : f = 0
      · subst hf
        rw [if_pos rfl] at hhc
        have Hhc := Lib.hid hhc
        have hb := Hhd.out
        rw [hhc] at hb
        have b1 := hb.2
        clear hhc hb f5
        go_wp2_with (first | (go_at_call 74; refine (H1.out).mono ?_; rintro e w1 ⟨rfl, hb1⟩) | (go_at_call 73; rw [← Hhc.out]; refine (H2.out _ hb1).mono ?_; rintro e w2 ⟨v', rfl, hown2, hb2⟩))
        go_roundw
        case rel =>
          refine ⟨rest.drop k, done ++ [headC rest], _, cap' - k, ?_, ?_, BytesAt.cut HA'.out hcap', ?_, hown2, ?_, hb2⟩
          · rw [List.length_drop]
          · rw [List.length_drop]; omega
          · unfold Hid; rw [Hch.out, Hcons.out, List.append_assoc]; rfl
          · have := Hen.out; rw [Hx.out, List.length_append, List.length_drop]; omega
        case measure => simp [lenOf]; omega
      · rw [if_neg hf] at hhc
        have Hhc := Lib.hid hhc
        have k2 : ((f : Int) != 0) = true := by rw [bne_iff_ne]; omega
        clear hhc f5
        go_wp2_with (first | (go_at_call 74; refine (H1.out).mono ?_; rintro e w1 ⟨rfl, hb1⟩) | (go_at_call 73; rw [← Hhc.out]; refine (H2.out _ hb1).mono ?_; rintro e w2 ⟨v', rfl, hown2, hb2⟩))
        go_roundw
        case rel =>
          refine ⟨rest.drop k, done ++ [headC rest], _, cap' - k, ?_, ?_, BytesAt.cut HA'.out hcap', ?_, hown2, ?_, hb2⟩
          · rw [List.length_drop]
          · rw [List.length_drop]; omega
          · unfold Hid; rw [Hch.out, Hcons.out, List.append_assoc]; rfl
          · have := Hen.out; rw [Hx.out, List.length_append, List.length_drop]; omega
        case measure => simp [lenOf]; omega

end Go.Proofs.YtbkpnffgihjikaaDoor.Utf

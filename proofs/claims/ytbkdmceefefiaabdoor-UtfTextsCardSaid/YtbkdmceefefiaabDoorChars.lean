/- The reference's Chars and Text, walked. -/
import Derived.Test.YtbkdmceefefiaabDoorUtfS
import Derived.Test.YtbkdmceefefiaabDoorOwnI
import Derived.Test.YtbkdmceefefiaabDoorText
import Derived.Test.YtbkdmceefefiaabDoorEncP
set_option linter.unusedVariables false
namespace Go.Proofs.YtbkdmceefefiaabDoor.Utf
open Go.RowKit Go.Lib Go.Shelf UtfP

theorem chars_length_le : ∀ (l : List UInt8), (chars l).length ≤ l.length := by
  have : ∀ (n : Nat) (l : List UInt8), l.length ≤ n → (chars l).length ≤ l.length := by
    intro n
    induction n with
    | zero => intro l h; rw [List.eq_nil_of_length_eq_zero (by omega : l.length = 0)]; simp [chars_nil]
    | succ n ih =>
      intro l h
      by_cases hl : l = []
      · subst hl; simp [chars_nil]
      · rw [chars_cons hl]
        obtain ⟨f1, f2, _⟩ := next_facts hl
        have := ih (l.drop (next l).2.1) (by rw [List.length_drop]; omega)
        rw [List.length_drop] at this
        rw [List.length_cons]; omega
  intro l
  exact this l.length l (Nat.le_refl _)

set_option maxHeartbeats 2000000 in
theorem refChars (l : List UInt8) (A : Option Addr) (cap : Nat) (w : World) (hA : BytesAt w A l) (hcap : l.length ≤ cap) (hm : l.length ≤ 1099511627776) :
    Calls Tryd.prog 17 #[.slice A l.length cap] w fun e w' => ∃ v, e = .returned v ∧ OwnI w' w.heap.size v (chars l) ∧ Below w.heap.size w w' := by
  have HA := Lib.hid hA
  clear hA
  go_enter Tryd.func17, Tryd.ntmps17
  go_wp2
  go_loopw [3, 4] (fun out i wr => ∃ (j : Nat) (done : List Int), i = .int .i64 (j : Int) ∧ j ≤ l.length ∧ Hid (chars l = done ++ chars (l.drop j)) ∧ Hid (OwnI wr w.heap.size out done) ∧ done.length ≤ j ∧ Below w.heap.size w wr) (fun _ i _ => l.length - (RowKit.intOf i).toNat)
  case atStart => exact ⟨0, [], rfl, by omega, Lib.hid rfl, OwnI.nil _ _, by simp, Below.refl _ _⟩
  case round =>
    obtain ⟨j, done, rfl, hj, Hch, Hown, hdl, hbw⟩ := hrel
    by_cases hlt : j < l.length
    · have hne : l.drop j ≠ [] := fun h => by have := congrArg List.length h; rw [List.length_drop] at this; simp at this; omega
      obtain ⟨f1, f2, f3, _, f5, f6⟩ := next_facts hne
      have hcons := chars_cons hne
      obtain ⟨c, k, f, hc⟩ : ∃ c k f, next (l.drop j) = (c, k, f) := ⟨_, _, _, rfl⟩
      have C1 := (nextRef (l.drop j) (A.map (·.add j)) (cap - j) wr (by have := BytesAt.cut (HA.out.below hbw) (k := j) hcap; rwa [if_neg (by omega)] at this) (by rw [List.length_drop]; omega)).mono (R' := fun e w' => e = .returned (.tuple #[.int .i64 c, .int .i64 k, .int .i64 f]) ∧ Below wr.heap.size wr w') (fun e w' ⟨he, hb⟩ => ⟨by rw [he, hc]; rfl, hb⟩)
      have hhc : headC (l.drop j) = if f = 0 then (c : Int) else 65533 := by unfold headC; rw [hc]
      rw [hc] at f1 f2 f3 f5 hcons
      simp only at f1 f2 f3 f5 hcons
      rw [List.length_drop] at C1 f2
      rw [List.drop_drop] at hcons
      have H1 := Lib.hid C1
      have Hcons := Lib.hid hcons
      have k0 : (j : Int) < (l.length : Int) := by omega
      have k00 : (j : Int) ≤ (l.length : Int) := by omega
      have hsum : IntKind.i64.wrap ((j : Int) + (k : Int)) = (j : Int) + (k : Int) := IntWalk.i64_in _ (by omega)
      clear C1 hc hcons hne f6
      by_cases hf : f = 0
      · subst hf
        rw [if_pos rfl] at hhc
        have Hhc := Lib.hid hhc
        clear hhc f5
        go_wp2_with (first | (go_at_call 22; refine (H1.out).mono ?_; rintro e w1 ⟨rfl, hb1⟩) | (at_builtin; refine wpList_append_ints rfl _ _ rfl rfl ((Hown.out.below hb1).below ((Below.refl _ _).alloc (Nat.le_refl _) _)) rfl (src := [(c : Int)]) rfl (CellsAt.new _ _ _ _ rfl) ?_ ?_ ?_))
        · simp; omega
        · have := hbw.size; have := hb1.size; simp; omega
        intro v' w2 hown2 hg2
        have hb2 : Below w.heap.size w w2 := by
          have hs := hbw.size
          have hs1 := hb1.size
          refine ((hbw.trans (hb1.mono hs)).alloc (by omega) _).grown hg2 (by simp; omega) (fun k hk => ((Hown.out.below hb1).lt hk).1)
        clear hg2
        have Hown2 := Lib.hid hown2
        clear hown2
        go_wp2
        go_roundw
        case rel => exact ⟨j + k, done ++ [(c : Int)], by go_num, by omega, by unfold Hid; rw [Hch.out, Hcons.out, Hhc.out, List.append_assoc]; rfl, Hown2, by rw [List.length_append, List.length_singleton]; omega, hb2⟩
        case measure => simp [RowKit.intOf]; omega
      · rw [if_neg hf] at hhc
        have Hhc := Lib.hid hhc
        have k2 : ((f : Int) != 0) = true := by rw [bne_iff_ne]; omega
        clear hhc f5
        go_wp2_with (first | (go_at_call 22; refine (H1.out).mono ?_; rintro e w1 ⟨rfl, hb1⟩) | (at_builtin; refine wpList_append_ints rfl _ _ rfl rfl ((Hown.out.below hb1).below ((Below.refl _ _).alloc (Nat.le_refl _) _)) rfl (src := [(65533 : Int)]) rfl (CellsAt.new _ _ _ _ rfl) ?_ ?_ ?_))
        · simp; omega
        · have := hbw.size; have := hb1.size; simp; omega
        intro v' w2 hown2 hg2
        have hb2 : Below w.heap.size w w2 := by
          have hs := hbw.size
          have hs1 := hb1.size
          refine ((hbw.trans (hb1.mono hs)).alloc (by omega) _).grown hg2 (by simp; omega) (fun k hk => ((Hown.out.below hb1).lt hk).1)
        clear hg2
        have Hown2 := Lib.hid hown2
        clear hown2
        go_wp2
        go_roundw
        case rel => exact ⟨j + k, done ++ [(65533 : Int)], by go_num, by omega, by unfold Hid; rw [Hch.out, Hcons.out, Hhc.out, List.append_assoc]; rfl, Hown2, by rw [List.length_append, List.length_singleton]; omega, hb2⟩
        case measure => simp [RowKit.intOf]; omega
    · have hge : decide ((j : Int) < (l.length : Int)) = false := by simp; omega
      have hge' : decide (j < l.length) = false := by simp; omega
      have Hb := Lib.hid hbw
      have hjl : j = l.length := by omega
      have Hj := Lib.hid hjl
      clear hbw hlt hjl
      go_wp2
      go_ret
      refine ⟨_, rfl, ?_, Hb.out⟩
      have := Hch.out
      rw [Hj.out, List.drop_length, chars_nil, List.append_nil] at this
      rw [this]; exact Hown.out

end Go.Proofs.YtbkdmceefefiaabDoor.Utf

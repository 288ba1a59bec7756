/- UtfBack, the walks: what is put is what is next, whatever stands behind; less of it is a beginning. -/
import Derived.Test.YtbkdmceefefiaabDoorTabs
import Derived.Test.YtbkdmceefefiaabDoorUtfA
import Derived.Test.YtbkdmceefefiaabDoorPut
import Derived.Test.YtbkdmceefefiaabDoorEncP
import Derived.Test.YtbkdmceefefiaabDoorText
import Derived.Test.YtbkdmceefefiaabDoorStr
set_option linter.unusedVariables false
namespace Go.Proofs.YtbkdmceefefiaabDoor.UtfBack
open Go.ChangeShapes Go.WideShapes Go.ChangeAt Go.RowKit Utf UtfP Law

theorem next_enc_take {c : Int} {i : Nat} (h : fineC c = true) (h0 : 0 < i) (hi : i < (enc c).length) : next ((enc c).take i) = (0, i, 7) := by
  have hl : ((enc c).take i).length = i := by rw [List.length_take]; omega
  have hne : (enc c).take i ≠ [] := fun e => by rw [e] at hl; simp at hl; omega
  obtain ⟨f1, f2, f3, f4, f5, f6⟩ := next_facts hne
  have h7 : (next ((enc c).take i)).2.2 = 7 := by
    apply Classical.byContradiction
    intro h7
    have ha := next_append (m := (enc c).drop i) hne h7
    rw [List.take_append_drop] at ha
    have he := next_enc [] h
    rw [List.append_nil] at he
    rw [← ha, he] at f2
    rw [hl] at f2
    simp only at f2
    omega
  have hk := (f4 h7).1
  rw [hl] at hk
  have h1 := f6 (by rw [h7]; decide)
  exact Prod.ext h1 (Prod.ext hk h7)

theorem alive_at {w : World} (hT : Tabs w) (w0 : World) (h0 : Below w.heap.size w w0) : Calls Tryd.prog 8 #[] w0 fun e w' => e = .returned (.bool true) ∧ Below w.heap.size w w' :=
  (alive w0 (hT.below h0)).mono fun _ _ ⟨he, hb⟩ => ⟨he, h0.trans (hb.mono h0.size)⟩

set_option maxHeartbeats 1000000 in
theorem walk_bad (c : Int) (n : Nat) (A : Option Addr) (cap : Nat) (w : World) (hT : Tabs w) (h : fineC c = false) :
    Calls Tryd.prog 3 #[.int .i64 c, .slice A n cap] w fun e w' => e = .returned (.bool true) ∧ Below w.heap.size w w' := by
  have H1 := Lib.hid (put_bad c w h)
  have H2 := Lib.hid (alive_at hT)
  clear hT h
  go_enter Tryd.func3, Tryd.ntmps3
  go_wp2_with (first | (go_at_call 7; refine (H1.out).mono ?_; rintro e w1 ⟨rfl, rfl⟩) | (go_at_call 8; refine (H2.out _ (Below.refl _ _)).mono ?_; rintro e w2 ⟨rfl, hb2⟩))
  go_ret
  exact ⟨rfl, hb2⟩

set_option maxHeartbeats 1000000 in
theorem walk_long (c : Int) (n : Nat) (A : Option Addr) (cap : Nat) (w : World) (hT : Tabs w) (h : fineC c = true) (hn : decide (1000 < (n : Int)) = true) :
    Calls Tryd.prog 3 #[.int .i64 c, .slice A n cap] w fun e w' => e = .returned (.bool true) ∧ Below w.heap.size w w' := by
  have H1 := Lib.hid (put_ok c w h)
  have H2 := Lib.hid (alive_at hT)
  clear hT h
  go_enter Tryd.func3, Tryd.ntmps3
  go_wp2_with (first | (go_at_call 7; refine (H1.out).mono ?_; rintro e w1 ⟨v, rfl, _, hb1⟩) | (go_at_call 8; refine (H2.out _ hb1).mono ?_; rintro e w2 ⟨rfl, hb2⟩))
  go_ret
  exact ⟨rfl, hb2⟩

set_option maxHeartbeats 1000000 in
theorem walk_ok (c : Int) (s : List UInt8) (A : Option Addr) (cap : Nat) (w : World) (hT : Tabs w) (hA : BytesAt w A s) (h : fineC c = true) (hs : s.length ≤ 1000) :
    Calls Tryd.prog 3 #[.int .i64 c, .slice A s.length cap] w fun e w' => e = .returned (.bool true) ∧ Below w.heap.size w w' := by
  have hc0 : ((c.toNat : Nat) : Int) = c := by have := (fineC_iff.1.1 h).1; omega
  have hel := enc_length c
  obtain ⟨k, hk⟩ : ∃ k, (enc c).length = k := ⟨_, rfl⟩
  have C1 : Calls Tryd.prog 7 #[.int .i64 c] w fun e w' => ∃ A1 cap1, e = .returned (.tuple #[.slice A1 k cap1, .int .i64 0]) ∧ k ≤ cap1 ∧ Hid (BytesAt w' A1 (enc c)) ∧ Hid (Below w.heap.size w w') :=
    (put_ok c w h).mono fun e w' ⟨v, he, hown, hb⟩ => by obtain ⟨A1, cap1, rfl, hcap, hba, _⟩ := hown.form; exact ⟨A1, cap1, by rw [he, hk], by omega, hba, hb⟩
  have C2 : ∀ A2 n2 cap2 W, (enc c ++ s).length = n2 → n2 ≤ cap2 → BytesAt W A2 (enc c ++ s) → Below w.heap.size w W → Calls Tryd.prog 9 #[.slice A2 n2 cap2] W fun e w' => e = .returned (.tuple #[.int .i64 c, .int .i64 k, .int .i64 0]) ∧ Hid (Below W.heap.size W w') := fun A2 n2 cap2 W hn hcap hb hW => by
    subst hn
    refine (nextGo _ A2 cap2 W (hT.below hW) hb hcap (by rw [List.length_append]; omega)).mono fun e w' ⟨he, hb⟩ => ⟨?_, hb⟩
    rw [he, next_enc s h, hk]; simp only [res3, hc0]; rfl
  have C3 : ∀ A1 cap1 (i : Nat) W, 0 < i → i < k → k ≤ cap1 → BytesAt W A1 (enc c) → Below w.heap.size w W → Calls Tryd.prog 9 #[.slice A1 i cap1] W fun e w' => e = .returned (.tuple #[.int .i64 0, .int .i64 i, .int .i64 7]) ∧ Hid (Below W.heap.size W w') := fun A1 cap1 i W h0 hi hcap hb hW => by
    have hl : ((enc c).take i).length = i := by rw [List.length_take]; omega
    have := nextGo ((enc c).take i) A1 cap1 W (hT.below hW) (hb.take i) (by omega) (by omega)
    rw [hl, next_enc_take h h0 (by omega)] at this
    exact this
  have H1 := Lib.hid C1
  have H2 := Lib.hid C2
  have H3 := Lib.hid C3
  have H4 := Lib.hid (alive_at hT)
  have HA := Lib.hid hA
  have Hk := Lib.hid hk
  clear C1 C2 C3 hT hA h hc0
  rw [hk] at hel
  have hk1 := hel.1
  have hk4 := hel.2
  clear hel hk
  obtain ⟨m, hm⟩ : ∃ m, s.length = m := ⟨_, rfl⟩
  have Hm := Lib.hid hm
  rw [hm] at hs ⊢
  clear hm
  have k1 : decide (1000 < (m : Int)) = false := by simp; omega
  have k2 : (((k : Nat) : Int) == 0) = false := by simp; omega
  go_enter Tryd.func3, Tryd.ntmps3
  go_wp2_with fail
  refine (H1.out).mono ?_
  rintro e w1 ⟨A1, cap1, rfl, hc1, hx1, hb1⟩
  go_wp2_with (at_builtin; refine wpList_append_bytes rfl _ _ rfl rfl (OwnB.new w1 w1.heap.size #[] [] rfl (Nat.le_refl _) (by decide)) rfl Hk.out (hx1.out.below ((Below.refl _ _).alloc (Nat.le_refl _) _)) ?_ ?_ ?_)
  · simp; have := Hk.out; omega
  · simp
  intro v3 w3 hown3 hg3
  have hB3 : Below w1.heap.size w1 w3 := ((Below.refl _ _).alloc (Nat.le_refl _) _).grown hg3 (by simp) (fun k hk => by simp [Value.ownBlock] at hk; omega)
  have HO3 : Hid (OwnB w3 w1.heap.size v3 (enc c)) := hown3
  have HB3 := Lib.hid hB3
  clear hown3 hg3 hB3
  go_wp2_with (at_builtin; refine wpList_append_bytes rfl _ _ rfl rfl HO3.out rfl Hm.out ((HA.out.below hb1.out).below HB3.out) ?_ ?_ ?_)
  · have := Hk.out; have := Hm.out; omega
  · exact HB3.out.size
  intro v4 w4 hown4 hg4
  have hB4 : Below w1.heap.size w1 w4 := HB3.out.grown hg4 HB3.out.size (fun k hk => (HO3.out.lt hk).1)
  have HB4 := Lib.hid hB4
  obtain ⟨A4, n4, cap4, rfl, hn4, hc4, hy4⟩ := hown4.form'
  have Hn4 := Lib.hid hn4
  have Hc4 := Lib.hid hc4
  have Hy4 := Lib.hid hy4
  have HW4 : Hid (Below w.heap.size w w4) := hb1.out.trans (hB4.mono hb1.out.size)
  have Hx4 : Hid (BytesAt w4 A1 (enc c)) := hx1.out.below hB4
  clear hown4 hg4 hB4 hn4 hc4 hy4 HO3 HB3
  go_wp2_with fail
  refine (H2.out A4 n4 cap4 _ Hn4.out Hc4.out Hy4.out HW4.out).mono ?_
  rintro e w5 ⟨rfl, hb5⟩
  have HW5 : Hid (Below w.heap.size w w5) := HW4.out.trans (hb5.out.mono HW4.out.size)
  have Hx5 : Hid (BytesAt w5 A1 (enc c)) := Hx4.out.below hb5.out
  go_wp2_with fail
  go_loopw [10] (fun i wr => ∃ j : Nat, 1 ≤ j ∧ j ≤ k ∧ i = .int .i64 (j : Int) ∧ Hid (Below w.heap.size w wr) ∧ Hid (BytesAt wr A1 (enc c))) (fun i _ => k - (RowKit.intOf i).toNat)
  case atStart => exact ⟨1, by omega, by omega, rfl, HW5, Hx5⟩
  case round =>
    obtain ⟨j, hj1, hjk, rfl, hW, hX⟩ := hrel
    by_cases hlt : j < k
    · have k3 : (j : Int) < (k : Int) := by omega
      have k4 : (j : Int) ≤ (cap1 : Int) := by omega
      go_wp2_with (go_at_call 9; refine (H3.out A1 cap1 j _ ?_ ?_ ?_ hX.out hW.out).mono ?_; omega; omega; omega; rintro e w6 ⟨rfl, hb6⟩)
      go_roundw
      case rel => exact ⟨j + 1, by omega, by omega, by go_num, hW.out.trans (hb6.out.mono hW.out.size), hX.out.below hb6.out⟩
      case measure => simp [RowKit.intOf]; omega
    · have hge : decide ((j : Int) < (k : Int)) = false := by simp; omega
      have hge' : decide (j < k) = false := by simp; omega
      go_wp2_with (go_at_call 8; refine (H4.out _ hW.out).mono ?_; rintro e w7 ⟨rfl, hb7⟩)
      go_ret
      exact ⟨by simp, hb7⟩

theorem walk (c : Int) (s : List UInt8) (A : Option Addr) (cap : Nat) (w : World) (hT : Tabs w) (_ : (Lit.int .i64 c).wf = true) (hA : BytesAt w A s) (_ : s.length ≤ cap) (_ : s.length ≤ 140737488355328) :
    Calls Tryd.prog 3 #[.int .i64 c, .slice A s.length cap] w fun e w' => e = .returned (.bool true) ∧ Below w.heap.size w w' := by
  cases h : fineC c with
  | false => exact walk_bad c _ A cap w hT h
  | true =>
    by_cases hs : 1000 < s.length
    · exact walk_long c _ A cap w hT h (by simp; omega)
    · exact walk_ok c s A cap w hT hA h (by omega)

end Go.Proofs.YtbkdmceefefiaabDoor.UtfBack

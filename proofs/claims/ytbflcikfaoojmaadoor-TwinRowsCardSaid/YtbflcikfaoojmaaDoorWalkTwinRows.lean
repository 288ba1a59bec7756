/- whispererlaw20.TwinRows, walked. -/
import Derived.Test.YtbflcikfaoojmaaDoorTwD
import Derived.Test.YtbflcikfaoojmaaDoorTwE
import Derived.Test.YtbflcikfaoojmaaDoorLaw
set_option linter.unusedVariables false
set_option linter.unusedSimpArgs false
namespace Go.Proofs.YtbflcikfaoojmaaDoor.TwinRows
open Go.RowKit Go.Lib Go.Shelf ChangeShapes Mem Utf UtfP Edit

theorem put_any (c : Int) (w0 w : World) (k : Nat) (h : fineC c = true) (hk : (enc c).length = k) (hb : Below w0.heap.size w0 w) : Calls Tryd.prog 22 #[.int .i64 c] w fun e w' => ∃ A cap, e = .returned (.tuple #[.slice A k cap, .int .i64 0]) ∧ Below w0.heap.size w0 w' :=
  (put_ok c w h).mono fun e w' ⟨v, he, ho, hb2⟩ => by
    obtain ⟨A, cap, rfl, _⟩ := OwnB.form ho
    rw [hk] at he
    exact ⟨A, cap, he, hb.trans (hb2.mono hb.size)⟩
theorem turn_any (c z d : Int) (w0 w : World) (h : printC c = true) (hd : turnE c z = d) (hb : Below w0.heap.size w0 w) : Calls Tryd.prog 9 #[.int .i64 c, .int .i64 z] w fun e w' => e = .returned (.tuple #[.int .i64 d, .int .i64 0]) ∧ Below w0.heap.size w0 w' :=
  (turn_c c z w h).mono fun e w' ⟨he, hb2⟩ => ⟨by rw [he, hd], hb.trans (hb2.mono hb.size)⟩
theorem print_any (c : Int) (w0 w : World) (b : Bool) (h : printC c = b) (hb : Below w0.heap.size w0 w) : Calls Tryd.prog 21 #[.int .i64 c] w fun e w' => e = .returned (.bool b) ∧ Below w0.heap.size w0 w' :=
  (printable c w).mono fun e w' ⟨he, hb2⟩ => ⟨by rw [he, h], hb.trans (hb2.mono hb.size)⟩
theorem alive_any (w0 w : World) (hT : Tabs w0) (hb : Below w0.heap.size w0 w) : Calls Tryd.prog 11 #[] w fun e w' => e = .returned (.bool true) ∧ Below w0.heap.size w0 w' :=
  (alive_c w (hT.below hb)).mono fun e w' ⟨he, hb2⟩ => ⟨he, hb.trans (hb2.mono hb.size)⟩

set_option maxRecDepth 100000 in
set_option maxHeartbeats 1000000 in
theorem walk_bad (c y m : Int) (w : World) (hT : Tabs w) (h : printC c = false) :
    Calls Tryd.prog 6 #[.int .i64 c, .int .i64 y, .int .i64 m] w fun e w' => e = .returned (.bool true) ∧ Below w.heap.size w w' := by
  obtain ⟨a, ha⟩ : ∃ a, y.tmod 1000000 = a := ⟨_, rfl⟩
  obtain ⟨b, hb⟩ : ∃ b, m.tmod 1000000 = b := ⟨_, rfl⟩
  obtain ⟨a1, a2⟩ := tmod_bd y 1000000 (by decide)
  obtain ⟨b1, b2⟩ := tmod_bd m 1000000 (by decide)
  rw [ha] at a1 a2
  rw [hb] at b1 b2
  have e1 : IntKind.i64.wrap (y.tmod 1000000) = a := by rw [ha]; exact IntWalk.i64_in _ (by omega)
  have e2 : IntKind.i64.wrap (m.tmod 1000000) = b := by rw [hb]; exact IntWalk.i64_in _ (by omega)
  have e1' : wrap64 (y.tmod 1000000) = a := by rw [ha]; unfold wrap64; omega
  have e2' : wrap64 (m.tmod 1000000) = b := by rw [hb]; unfold wrap64; omega
  have HU := Lib.hid (turn_bad c a w h)
  have HPR := Lib.hid (fun w1 hb => print_any c w w1 false h hb)
  have HA := Lib.hid (fun w1 hb => alive_any w w1 hT hb)
  clear h hT
  go_enter Tryd.func6, Tryd.ntmps6
  go_wp2_with fail
  refine (HU.out).mono ?_
  rintro e w1 ⟨rfl, hb1⟩
  have HA1 := Lib.hid (HA.out w1 hb1)
  go_wp2_with fail
  refine (HA1.out).mono ?_
  rintro e w2 ⟨rfl, hb2⟩
  have HP1 := Lib.hid (HPR.out w2 hb2)
  go_wp2_with fail
  refine (HP1.out).mono ?_
  rintro e w3 ⟨rfl, hb3⟩
  go_wp2_with fail
  go_ret
  exact ⟨rfl, hb3⟩

set_option maxRecDepth 100000 in
set_option maxHeartbeats 4000000 in
theorem walk_ok (c y m : Int) (w : World) (hT : Tabs w) (h : printC c = true) (k : Nat) (n : Int) (hk : (enc c).length = k) (hn : (n = 95 ∧ k = 1) ∨ (n = 1888 ∧ k = 2) ∨ (n = 61440 ∧ k = 3) ∨ (n = 1048576 ∧ k = 4)) :
    Calls Tryd.prog 6 #[.int .i64 c, .int .i64 y, .int .i64 m] w fun e w' => e = .returned (.bool true) ∧ Below w.heap.size w w' := by
  obtain ⟨a, ha⟩ : ∃ a, y.tmod 1000000 = a := ⟨_, rfl⟩
  obtain ⟨b, hb⟩ : ∃ b, m.tmod 1000000 = b := ⟨_, rfl⟩
  obtain ⟨a1, a2⟩ := tmod_bd y 1000000 (by decide)
  obtain ⟨b1, b2⟩ := tmod_bd m 1000000 (by decide)
  rw [ha] at a1 a2
  rw [hb] at b1 b2
  have e1 : IntKind.i64.wrap (y.tmod 1000000) = a := by rw [ha]; exact IntWalk.i64_in _ (by omega)
  have e2 : IntKind.i64.wrap (m.tmod 1000000) = b := by rw [hb]; exact IntWalk.i64_in _ (by omega)
  have e1' : wrap64 (y.tmod 1000000) = a := by rw [ha]; unfold wrap64; omega
  have e2' : wrap64 (m.tmod 1000000) = b := by rw [hb]; unfold wrap64; omega
  have e3 : IntKind.i64.wrap (a + b) = a + b := IntWalk.i64_in _ (by omega)
  have htp := turnE_print a h
  have hrd : turnE c n = c := turn_round h (by rw [hk]; exact hn)
  have hon := turn_one h
  have htt := turn_turn a b h
  obtain ⟨d, hd⟩ : ∃ d, turnE c a = d := ⟨_, rfl⟩
  obtain ⟨x, hx⟩ : ∃ x, turnE c (a + b) = x := ⟨_, rfl⟩
  obtain ⟨v, hv⟩ : ∃ v, turnE c 1 = v := ⟨_, rfl⟩
  rw [hd, hx] at htt
  rw [hd] at htp
  rw [hv] at hon
  have hvc : (v != c) = true := by simp [hon]
  rw [hk] at htp
  have H1 := Lib.hid (fun w1 hb => turn_any c a d w w1 h hd hb)
  have H2 := Lib.hid (fun w1 hb => turn_any d b x w w1 htp.1 htt hb)
  have H3 := Lib.hid (fun w1 hb => turn_any c (a + b) x w w1 h hx hb)
  have H4 := Lib.hid (fun w1 hb => put_any c w w1 k (printC_fine h) hk hb)
  have H5 := Lib.hid (fun w1 hb => put_any d w w1 k (printC_fine htp.1) htp.2 hb)
  have H6 := Lib.hid (fun w1 hb => turn_any c n c w w1 h hrd hb)
  have H7 := Lib.hid (fun w1 hb => turn_any c 1 v w w1 h hv hb)
  have H8 := Lib.hid (fun w1 hb => alive_any w w1 hT hb)
  have H9 := Lib.hid (fun w1 hb => print_any d w w1 true htp.1 hb)
  clear h hT htp hrd htt hd hx hv hk
  rcases hn with ⟨rfl, rfl⟩ | ⟨rfl, rfl⟩ | ⟨rfl, rfl⟩ | ⟨rfl, rfl⟩
  all_goals
    go_enter Tryd.func6, Tryd.ntmps6
    go_wp2_with fail
    refine (H1.out w (Below.refl _ _)).mono ?_
    rintro e w1 ⟨rfl, hb1⟩
    have K2 := Lib.hid (H2.out w1 hb1)
    clear hb1
    go_wp2_with fail
    refine (K2.out).mono ?_
    rintro e w2 ⟨rfl, hb2⟩
    have K3 := Lib.hid (H3.out w2 hb2)
    clear hb2 K2
    go_wp2_with fail
    refine (K3.out).mono ?_
    rintro e w3 ⟨rfl, hb3⟩
    have K4 := Lib.hid (H4.out w3 hb3)
    clear hb3 K3
    go_wp2_with fail
    refine (K4.out).mono ?_
    rintro e w4 ⟨A4, cap4, rfl, hb4⟩
    have K5 := Lib.hid (H5.out w4 hb4)
    clear hb4 K4
    go_wp2_with fail
    refine (K5.out).mono ?_
    rintro e w5 ⟨A5, cap5, rfl, hb5⟩
    have K6 := Lib.hid (fun o => H6.out (w5.alloc o) (hb5.alloc hb5.size o))
    clear hb5 K5
    go_wp2_with fail
    refine (K6.out _).mono ?_
    rintro e w6 ⟨rfl, hb6⟩
    have K7 := Lib.hid (H7.out w6 hb6)
    clear hb6 K6
    go_wp2_with fail
    refine (K7.out).mono ?_
    rintro e w7 ⟨rfl, hb7⟩
    have K8 := Lib.hid (H8.out w7 hb7)
    clear hb7 K7
    go_wp2_with fail
    refine (K8.out).mono ?_
    rintro e w8 ⟨rfl, hb8⟩
    have K9 := Lib.hid (H9.out w8 hb8)
    clear hb8 K8
    go_wp2_with fail
    refine (K9.out).mono ?_
    rintro e w9 ⟨rfl, hb9⟩
    go_wp2_with fail
    go_ret
    exact ⟨rfl, hb9⟩

theorem walk (c y m : Int) (w : World) (hT : Tabs w) (_ : (Lit.int .i64 c).wf = true) (_ : (Lit.int .i64 y).wf = true) (_ : (Lit.int .i64 m).wf = true) :
    Calls Tryd.prog 6 #[.int .i64 c, .int .i64 y, .int .i64 m] w fun e w' => e = .returned (.bool true) ∧ Below w.heap.size w w' := by
  cases h : printC c with
  | false => exact walk_bad c y m w hT h
  | true =>
    have hl := enc_length c
    have : (enc c).length = 1 ∨ (enc c).length = 2 ∨ (enc c).length = 3 ∨ (enc c).length = 4 := by omega
    rcases this with hk | hk | hk | hk
    · exact walk_ok c y m w hT h 1 95 hk (by simp)
    · exact walk_ok c y m w hT h 2 1888 hk (by simp)
    · exact walk_ok c y m w hT h 3 61440 hk (by simp)
    · exact walk_ok c y m w hT h 4 1048576 hk (by simp)

end Go.Proofs.YtbflcikfaoojmaaDoor.TwinRows

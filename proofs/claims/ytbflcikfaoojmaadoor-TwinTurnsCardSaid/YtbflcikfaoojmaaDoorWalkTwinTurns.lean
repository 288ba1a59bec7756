/- whispererlaw20.TwinTurns, walked. -/
import Derived.Test.YtbflcikfaoojmaaDoorTwD
import Derived.Test.YtbflcikfaoojmaaDoorLaw
set_option linter.unusedVariables false
set_option linter.unusedSimpArgs false
namespace Go.Proofs.YtbflcikfaoojmaaDoor.TwinTurns
open Go.RowKit Go.Lib Go.Shelf ChangeShapes Mem Utf UtfP Edit

set_option maxRecDepth 100000 in
set_option maxHeartbeats 1000000 in
theorem walk (c z : Int) (w : World) (hT : Tabs w) (_ : (Lit.int .i64 c).wf = true) (_ : (Lit.int .i64 z).wf = true) :
    Calls Tryd.prog 3 #[.int .i64 c, .int .i64 z] w fun e w' => e = .returned (.bool true) ∧ Below w.heap.size w w' := by
  have HP := Lib.hid (refPrintable c)
  have HT := Lib.hid hT
  clear hT
  cases hp : printC c with
  | false =>
    have HU := Lib.hid (turn_bad c z w hp)
    rw [hp] at HP
    clear hp
    go_enter Tryd.func3, Tryd.ntmps3
    go_wp2_with fail
    refine (HU.out).mono ?_
    rintro e w1 ⟨rfl, hb1⟩
    have HB1 := Lib.hid hb1
    have HA := Lib.hid (alive_c w1 (HT.out.below hb1))
    clear hb1 HU
    go_wp2_with (first
      | (go_at_call 10; refine (HP.out _).mono ?_; rintro e w2 ⟨rfl, rfl⟩)
      | (go_at_call 11; refine (HA.out).mono ?_; rintro e w3 ⟨rfl, hb3⟩))
    go_ret
    exact ⟨rfl, HB1.out.trans (hb3.mono HB1.out.size)⟩
  | true =>
    have HU := Lib.hid (turn_c c z w hp)
    have HR := Lib.hid (fun w => refTurn c z w hp)
    rw [hp] at HP
    clear hp
    go_enter Tryd.func3, Tryd.ntmps3
    go_wp2_with fail
    refine (HU.out).mono ?_
    rintro e w1 ⟨rfl, hb1⟩
    have HB1 := Lib.hid hb1
    have HA := Lib.hid (alive_c w1 (HT.out.below hb1))
    clear hb1 HU
    generalize turnE c z = d at *
    go_wp2_with (first
      | (go_at_call 10; refine (HP.out _).mono ?_; rintro e w2 ⟨rfl, rfl⟩)
      | (go_at_call 11; refine (HA.out).mono ?_; rintro e w3 ⟨rfl, hb3⟩)
      | (go_at_call 12; refine (HR.out _).mono ?_; rintro e w4 ⟨rfl, hb4⟩))
    go_ret
    exact ⟨rfl, (HB1.out.trans (hb3.mono HB1.out.size)).trans (hb4.mono (HB1.out.trans (hb3.mono HB1.out.size)).size)⟩

end Go.Proofs.YtbflcikfaoojmaaDoor.TwinTurns

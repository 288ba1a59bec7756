/- UtfTexts, the walks: at every slice of bytes of at most 3000 the program's Text is the document's, and its Count is the number of the document's characters; a longer one isn't looked at. No condition but that the two tables of unicode/utf8 hold what their initialisers lay (the card ties that). -/
import Derived.Test.YtbkdmceefefiaabDoorTabs
import Derived.Test.YtbkdmceefefiaabDoorUtfA
import Derived.Test.YtbkdmceefefiaabDoorRefText
import Derived.Test.YtbkdmceefefiaabDoorCount
import Derived.Test.YtbkdmceefefiaabDoorStr
import Derived.Deep.RegionWith
set_option linter.unusedVariables false
namespace Go.Proofs.YtbkdmceefefiaabDoor.UtfTexts
open Go.ChangeShapes Go.WideShapes Go.ChangeAt Go.RowKit Utf UtfP Law

theorem walk_long (n : Nat) (A : Option Addr) (cap : Nat) (w : World) (hT : Tabs w) (h : decide (3000 < (n : Int)) = true) :
    Calls Tryd.prog 5 #[.slice A n cap] w fun e w' => e = .returned (.bool true) ∧ Below w.heap.size w w' := by
  have H2 := Lib.hid (alive w hT)
  clear hT
  go_enter Tryd.func5, Tryd.ntmps5
  go_wp2_with (go_at_call 8; refine (H2.out).mono ?_; rintro e w2 ⟨rfl, hb2⟩)
  go_ret
  exact ⟨rfl, hb2⟩

attribute [local go_sem ↓] conv_str
attribute [local go_sem] strOf_toList
set_option maxHeartbeats 2000000 in
theorem walk_short (l : List UInt8) (A : Option Addr) (cap : Nat) (w : World) (hT : Tabs w) (hA : BytesAt w A l) (hcap : l.length ≤ cap) (hl : l.length ≤ 3000) :
    Calls Tryd.prog 5 #[.slice A l.length cap] w fun e w' => e = .returned (.bool true) ∧ Below w.heap.size w w' := by
  have C1 : ∀ W, Below w.heap.size w W → Calls Tryd.prog 14 #[.slice A l.length cap] W fun e w' => ∃ A' cap', e = .returned (.slice A' (text l).length cap') ∧ BytesAt w' A' (text l) ∧ Below w.heap.size w w' := fun W hW =>
    (textGo l A cap W (hT.below hW) (hA.below hW) hcap (by omega)).mono fun e w' ⟨v, he, hown, hb⟩ => by obtain ⟨A', cap', rfl, _, hba, _⟩ := hown.form; exact ⟨A', cap', he, hba, hW.trans (hb.mono hW.size)⟩
  have C2 : ∀ A1 W, BytesAt W A1 (text l) → Below w.heap.size w W → Calls Tryd.prog 15 #[.slice A l.length cap] W fun e w' => ∃ A' cap', e = .returned (.slice A' (text l).length cap') ∧ BytesAt w' A' (text l) ∧ BytesAt w' A1 (text l) ∧ Below w.heap.size w w' := fun A1 W h1 hW =>
    (refText l A cap W (hA.below hW) hcap (by omega)).mono fun e w' ⟨v, he, hown, hb⟩ => by obtain ⟨A', cap', rfl, _, hba, _⟩ := hown.form; exact ⟨A', cap', he, hba, h1.below hb, hW.trans (hb.mono hW.size)⟩
  have C3 : ∀ W, Below w.heap.size w W → Calls Tryd.prog 16 #[.slice A l.length cap] W fun e w' => e = .returned (.int .i64 ((chars l).length : Int)) ∧ Below w.heap.size w w' := fun W hW =>
    (countGo l A cap W (hT.below hW) (hA.below hW) hcap (by omega)).mono fun e w' ⟨he, hb⟩ => ⟨he, hW.trans (hb.mono hW.size)⟩
  have C4 : ∀ W, Below w.heap.size w W → Calls Tryd.prog 17 #[.slice A l.length cap] W fun e w' => ∃ A' cap', e = .returned (.slice A' (chars l).length cap') ∧ Below w.heap.size w w' := fun W hW =>
    (refChars l A cap W (hA.below hW) hcap (by omega)).mono fun e w' ⟨v, he, hown, hb⟩ => by obtain ⟨A', cap', rfl, _⟩ := hown.form; exact ⟨A', cap', he, hW.trans (hb.mono hW.size)⟩
  have H0 := Lib.hid (fun W (hW : Below w.heap.size w W) => (alive W (hT.below hW)).mono (R' := fun e w' => e = .returned (.bool true) ∧ Below w.heap.size w w') fun e w' ⟨he, hb⟩ => ⟨he, hW.trans (hb.mono hW.size)⟩)
  have H1 := Lib.hid C1
  have H2 := Lib.hid C2
  have H3 := Lib.hid C3
  have H4 := Lib.hid C4
  clear C1 C2 C3 C4 hT hA
  generalize text l = t at *
  generalize chars l = cs at *
  generalize l.length = n at *
  have k1 : decide (3000 < (n : Int)) = false := by simp; omega
  have hw0 : Below w.heap.size w w := Below.refl _ _
  go_enter Tryd.func5, Tryd.ntmps5
  go_wp2_with fail
  go_region_with (first | (go_at_call 8; refine (H0.out _ ?_).mono ?_; exact hw0.drew; rintro e w1 ⟨rfl, hb1⟩) | (go_at_call 14; refine (H1.out _ hb1).mono ?_; rintro e w2 ⟨A2, cap2, rfl, hA2, hb2⟩) | (go_at_call 15; refine (H2.out _ _ hA2 hb2).mono ?_; rintro e w3 ⟨A3, cap3, rfl, hA3, hA23, hb3⟩) | (go_at_call 16; refine (H3.out _ hb3).mono ?_; rintro e w4 ⟨rfl, hb4⟩) | (go_at_call 17; refine (H4.out _ hb4).mono ?_; rintro e w5 ⟨A5, cap5, rfl, hb5⟩))
  all_goals go_wp2
  all_goals go_ret
  all_goals exact ⟨rfl, hb5⟩

theorem walk (l : List UInt8) (A : Option Addr) (cap : Nat) (w : World) (hT : Tabs w) (hA : BytesAt w A l) (hcap : l.length ≤ cap) (_ : l.length ≤ 140737488355328) :
    Calls Tryd.prog 5 #[.slice A l.length cap] w fun e w' => e = .returned (.bool true) ∧ Below w.heap.size w w' := by
  by_cases h1 : 3000 < l.length
  · exact walk_long _ _ _ w hT (by simp; omega)
  · exact walk_short l A cap w hT hA hcap (by omega)

end Go.Proofs.YtbkdmceefefiaabDoor.UtfTexts

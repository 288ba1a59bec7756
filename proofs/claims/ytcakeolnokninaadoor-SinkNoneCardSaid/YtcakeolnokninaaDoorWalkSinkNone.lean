/- SinkNone, the walk: of no sink, and no secret, nothing is told, and nothing is changed. -/
import Derived.Test.YtcakeolnokninaaDoorTabs
import Derived.Test.YtcakeolnokninaaDoorSinkA
set_option linter.unusedVariables false
namespace Go.Proofs.YtcakeolnokninaaDoor.SinkNone
open Go.RowKit Go.Lib Go.Shelf ChangeShapes Mem Utf Edit Snk Law

theorem form2 {w : World} {B : Nat} {v : Value} {l : List UInt8} (h : OwnB w B v l) : ∃ A cap, v = .slice A l.length cap ∧ l.length ≤ cap ∧ BytesAt w A l ∧ (A = none → cap = 0) ∧ v.ownBlock = A.map (·.block) ∧ (∀ a, A = some a → B ≤ a.block) := by
  obtain ⟨A, cap, rfl, h1, h2, h3, h4⟩ := h.form
  refine ⟨A, cap, rfl, h1, h2, fun hA => ?_, h4, fun a ha => (h3 a ha).1⟩
  subst hA
  rcases h.2 with ⟨e, _⟩ | ⟨g, cap', cur, e, _⟩
  · injection e
  · injection e with e1
    cases e1

attribute [local go_sem ↓] conv_lit conv_str
attribute [local go_sem] strOf_toList

def La : List UInt8 := [97]

set_option maxRecDepth 200000 in
set_option maxHeartbeats 2000000 in
theorem walk (l : List UInt8) (A : Option Addr) (cap : Nat) (w : World) (hT : Tabs w) (hA : BytesAt w A l) (hcap : l.length ≤ cap) (hm : l.length ≤ 140737488355328) :
    Calls Tryd.prog 4 #[.slice A l.length cap] w fun e w' => e = .returned (.bool true) ∧ Below w.heap.size w w' := by
  have HT := Lib.hid hT
  have HA := Lib.hid hA
  clear hT hA
  have HAL : Hid (∀ W, Below w.heap.size w W → Calls Tryd.prog 13 #[] W fun e w' => e = .returned (.bool true) ∧ Below W.heap.size W w') := fun W hW => Snk.alive W (HT.out.below hW)
  by_cases hl : l.length ≤ 2000
  · have k1 : decide (2000 < (l.length : Int)) = false := by simp; omega
    go_enter Tryd.func4, Tryd.ntmps4
    go_wp2_with fail
    have hw1' : Below w.heap.size w (w.alloc (.cells #[.int .u8 97] 5 (1, 2))) := (Below.refl _ _).alloc (Nat.le_refl _) _
    refine (buffer La (some ⟨w.heap.size, 0, none⟩) 1 _ (HT.out.below hw1') (Win.bytes (win_lit w La #[.int .u8 97] rfl)) (by decide) (by decide)).mono ?_
    rintro e w1 ⟨b, ba, bc, bp, rfl, _, _, _, _, hb1⟩
    have HW1 : Hid (Below w.heap.size w w1) := hw1'.trans (hb1.mono hw1'.size)
    clear hb1 hw1'
    go_wp2_with (first
      | (go_at_call 15; refine (deliver_none _ _).mono ?_; rintro e w2 ⟨rfl, hq⟩; obtain rfl := hq.symm)
      | (go_at_call 17; refine (given_none _).mono ?_; rintro e w2 ⟨rfl, hq⟩; obtain rfl := hq.symm)
      | (go_at_call 18; refine (room_none _).mono ?_; rintro e w2 ⟨rfl, hq⟩; obtain rfl := hq.symm)
      | (at_builtin; refine wpList_append_bytes rfl _ _ rfl rfl (OwnB.new w1 w.heap.size #[] [] rfl HW1.out.size (by decide)) rfl rfl (BytesAt.below HA.out (HW1.out.alloc HW1.out.size _)) ?_ ?_ ?_))
    · simp; omega
    · have := HW1.out.size; simp; omega
    intro v' w2 hown hg
    obtain ⟨A2, cap2, rfl, hcap2, hA2, hnone, hob, hbl⟩ := form2 hown
    have hw1a : Below w.heap.size w (w1.alloc (.cells #[] 5)) := HW1.out.alloc HW1.out.size _
    have HW2 : Hid (Below w.heap.size w w2) := hw1a.grown hg hw1a.size (fun k hk => by
      have := HW1.out.size
      simp [Value.ownBlock] at hk
      omega)
    have HA2 := Lib.hid hA2
    have HN := Lib.hid hnone
    clear hown hg hob hbl hA2 hnone hw1a
    go_wp2_with fail
    refine (newS A2 l.length cap2 hcap2 HN.out w2).mono ?_
    rintro e w3 ⟨rfl, hs3, hb3⟩
    have HA3 : Hid (BytesAt w3 A2 l) := HA2.out.below hb3
    have HW3 : Hid (Below w.heap.size w w3) := HW2.out.trans (hb3.mono HW2.out.size)
    have HS3 := Lib.hid hs3
    clear hs3 hb3
    go_wp2_with fail
    refine (deliver_nil _ _).mono ?_
    rintro e w4 ⟨rfl, hq⟩
    obtain rfl := hq.symm
    go_wp2_with fail
    refine (given _ _ _ _ _ w3 HS3.out).mono ?_
    rintro e w4 ⟨rfl, hb4⟩
    have hb4' : Below w3.heap.size w3 w4 := hb4.below (Nat.le_refl _) (by simp)
    have HA4 : Hid (BytesAt w4 A2 l) := HA3.out.below hb4'
    have HW4 : Hid (Below w.heap.size w w4) := HW3.out.trans (hb4'.mono HW3.out.size)
    clear hb4 hb4'
    go_wp2_with fail
    refine (HAL.out _ HW4.out).mono ?_
    rintro e w5 ⟨rfl, hb5⟩
    have hA5 : BytesAt w5 A2 l := HA4.out.below hb5
    have hA0 : BytesAt w5 A l := HA.out.below (HW4.out.trans (hb5.mono HW4.out.size))
    have HW5 : Hid (Below w.heap.size w w5) := HW4.out.trans (hb5.mono HW4.out.size)
    clear hb5
    go_wp2
    go_ret
    exact ⟨rfl, HW5.out⟩
  · have k1 : decide (2000 < (l.length : Int)) = true := by simp; omega
    go_enter Tryd.func4, Tryd.ntmps4
    go_wp2_with fail
    have hw1' : Below w.heap.size w (w.alloc (.cells #[.int .u8 97] 5 (1, 2))) := (Below.refl _ _).alloc (Nat.le_refl _) _
    refine (buffer La (some ⟨w.heap.size, 0, none⟩) 1 _ (HT.out.below hw1') (Win.bytes (win_lit w La #[.int .u8 97] rfl)) (by decide) (by decide)).mono ?_
    rintro e w1 ⟨b, ba, bc, bp, rfl, _, _, _, _, hb1⟩
    have HW1 : Hid (Below w.heap.size w w1) := hw1'.trans (hb1.mono hw1'.size)
    clear hb1 hw1'
    go_wp2_with (first
      | (go_at_call 15; refine (deliver_none _ _).mono ?_; rintro e w2 ⟨rfl, hq⟩; obtain rfl := hq.symm)
      | (go_at_call 17; refine (given_none _).mono ?_; rintro e w2 ⟨rfl, hq⟩; obtain rfl := hq.symm)
      | (go_at_call 18; refine (room_none _).mono ?_; rintro e w2 ⟨rfl, hq⟩; obtain rfl := hq.symm)
      | (go_at_call 13; refine (HAL.out _ HW1.out).mono ?_; rintro e w5 ⟨rfl, hb5⟩))
    go_ret
    exact ⟨rfl, HW1.out.trans (hb5.mono HW1.out.size)⟩

end Go.Proofs.YtcakeolnokninaaDoor.SinkNone

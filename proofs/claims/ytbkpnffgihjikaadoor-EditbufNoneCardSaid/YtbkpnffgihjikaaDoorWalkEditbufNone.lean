/- EditbufNone, the walk: of no buffer, and no arena, nothing is told; a new buffer's arena is wiped. -/
import Derived.Test.YtbkpnffgihjikaaDoorTabs
import Derived.Test.YtbkpnffgihjikaaDoorZero
set_option linter.unusedVariables false
namespace Go.Proofs.YtbkpnffgihjikaaDoor.EditbufNone
open Go.RowKit Go.Lib Go.Shelf ChangeShapes Mem Utf UtfP Edit Law

set_option maxRecDepth 200000 in
set_option maxHeartbeats 2000000 in
theorem walk (x y : Int) (l : List UInt8) (A : Option Addr) (cap : Nat) (w : World) (hT : Tabs w) (_ : (Lit.int .i64 x).wf = true) (_ : (Lit.int .i64 y).wf = true) (hA : BytesAt w A l) (hcap : l.length ≤ cap) (hm : l.length ≤ 140737488355328) :
    Calls Tryd.prog 8 #[.agg #[.int .i64 x, .int .i64 y], .slice A l.length cap] w fun e w' => e = .returned (.bool true) ∧ Below w.heap.size w w' := by
  have HA := Lib.hid hA
  clear hT hA
  obtain ⟨m, hmm⟩ : ∃ m, min l.length 50 = m := ⟨_, rfl⟩
  have hm50 : m ≤ 50 := by omega
  have hml : m ≤ l.length := by omega
  have hmin : min (l.length : Int) 50 = (m : Int) := by omega
  have k0 : (m : Int) ≤ (cap : Int) := by omega
  have HLEN : Hid ((l.take m).length = m) := by unfold Hid; rw [List.length_take]; omega
  have HM := Lib.hid (And.intro hm50 hml)
  have hmk : ∀ W : World, (Instr.makeSlice 22 (.int .i64 3) (.int .i64 3)).run Tryd.prog W = .ok (.slice (some ⟨W.heap.size, 0, none⟩) 3 3) (W.alloc (.cells (cellsB (List.replicate 3 0)).toArray 5)) := fun W => make_bytes W 3 (by decide)
  clear hmm hm50 hml
  go_enter Tryd.func8, Tryd.ntmps8
  go_wp2_with (first
    | (go_at_call 43; refine (clear_nil _).mono ?_; rintro e w2 ⟨rfl, hq⟩; obtain rfl := hq.symm)
    | fail)
  refine (do_nil _ x y rfl _).mono ?_
  rintro e w1 ⟨rfl, hb1⟩
  have HW1 : Hid (Below w.heap.size w w1) := ((Below.refl _ _).alloc (Nat.le_refl _) _).trans (hb1.mono (by simp))
  clear hb1
  go_wp2_with (first
    | (go_at_call 40; refine (putB_nil _ _).mono ?_; rintro e w2 ⟨rfl, hq⟩; obtain rfl := hq.symm)
    | (go_at_call 32; refine (insB_nil _ _).mono ?_; rintro e w2 ⟨rfl, hq⟩; obtain rfl := hq.symm)
    | (go_at_call 33; refine (countB_none _).mono ?_; rintro e w2 ⟨rfl, hq⟩; obtain rfl := hq.symm)
    | (go_at_call 36; refine (atB_none _).mono ?_; rintro e w2 ⟨rfl, hq⟩; obtain rfl := hq.symm)
    | (go_at_call 27; refine (lenB_nil _).mono ?_; rintro e w2 ⟨rfl, hq⟩; obtain rfl := hq.symm)
    | (go_at_call 47; refine (copyB_nil _ _).mono ?_; rintro e w2 ⟨rfl, hq⟩; obtain rfl := hq.symm)
    | (go_at_call 48; refine (newB_nil _).mono ?_; rintro e w2 ⟨rfl, hq⟩; obtain rfl := hq.symm)
    | fail)
  refine (new_ex 50 (by decide) (by decide) _).mono ?_
  rintro e w3 ⟨a, c, rfl, hla, hlc, har, hb3⟩
  have HW3 : Hid (Below w.heap.size w w3) := (HW1.out.alloc HW1.out.size _).trans (hb3.mono (by have := HW1.out.size; simp; omega))
  have HL : Hid (w.heap.size ≤ a ∧ w.heap.size ≤ c) := by
    have := HW1.out.size
    simp at hla hlc
    exact ⟨by omega, by omega⟩
  have HAR3 := Lib.hid har
  clear har hb3 hla hlc
  go_wp2_with fail
  refine (Edit.alive _).mono ?_
  rintro e w4 ⟨rfl, hb4⟩
  have HAR4 : Hid (Ar w4 a c 50 []) := Ar.but HAR3.out (But.of_below (S := []) hb4) (by simp) (by simp)
  have HW4 : Hid (Below w.heap.size w w4) := HW3.out.trans (hb4.mono HW3.out.size)
  clear hb4
  have HI : Hid (Calls Tryd.prog 24 #[.pointer (some ⟨a, 0, none⟩), .int .i64 0, .slice A m cap] w4 fun e w' => e = .returned (.int .i64 0) ∧ Ar w' a c 50 (l.take m) ∧ But [a, c] w4 w') := by
    have hb := BytesAt.take (HA.out.below HW4.out) m
    have := insert_ok 0 A (l.take m) cap w4 HAR4.out (by simp) (by rw [HLEN.out]; have := HM.out; simp; omega) (BytesAt.src hb) (fun ad had hne => by
      obtain ⟨g, off, rfl, hlt, _⟩ := BytesAt.take HA.out m hne
      cases had
      have := HL.out
      show g ≠ c
      omega)
    rw [HLEN.out] at this
    unfold Hid
    simpa using this
  go_wp2_with fail
  refine (HI.out).mono ?_
  rintro e w5 ⟨rfl, har5, hb5⟩
  have HW5 : Hid (Below w.heap.size w w5) := HW4.out.trans (hb5.below HW4.out.size (by have := HL.out; simp; omega))
  have HN := Lib.hid (newB w5 har5)
  clear har5 hb5
  go_wp2_with fail
  refine (HN.out).mono ?_
  rintro e w6 ⟨b, rfl, hlb, hbuf, hb6⟩
  have HW6 : Hid (Below w.heap.size w w6) := HW5.out.trans (hb6.below HW5.out.size (by have := HL.out; simp; omega))
  have H1 := Lib.hid (zeroA w6 hbuf.ar)
  rw [show allZ [] = true from by decide] at H1
  have H2 := Lib.hid (lenB w6 hbuf)
  have H3 := Lib.hid (atB w6 hbuf)
  rw [List.length_nil] at H2
  rw [show countB [] 0 = 0 from by decide] at H3
  clear hbuf hb6 hlb
  go_wp2_with (first
    | (go_at_call 25; refine (H1.out).mono ?_; rintro e w7 ⟨rfl, hq⟩; obtain rfl := hq.symm)
    | (go_at_call 27; refine (H2.out).mono ?_; rintro e w7 ⟨rfl, hq⟩; obtain rfl := hq.symm)
    | (go_at_call 36; refine (H3.out).mono ?_; rintro e w7 ⟨rfl, hq⟩; obtain rfl := hq.symm))
  go_ret
  exact ⟨rfl, HW6.out⟩

end Go.Proofs.YtbkpnffgihjikaaDoor.EditbufNone

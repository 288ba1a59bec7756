/- Texts joined: Chars; RefBytes; Fine; EditP. -/
import Derived.Test.YtbkpnffgihjikaaDoorGB
import Derived.Test.YtbkpnffgihjikaaDoorGC
import Derived.Test.YtbkpnffgihjikaaDoorRows
/- The reference's Chars and Text, walked. -/
set_option linter.unusedVariables false
namespace Go.Proofs.YtbkpnffgihjikaaDoor.Utf
open Go.RowKit Go.Lib Go.Shelf UtfP

theorem chars_length_le : ∀ (l : List UInt8), (chars l).length ≤ l.length := by
  have : ∀ (n : Nat) (l : List UInt8), l.length ≤ n → (chars l).length ≤ l.length := by
    intro n
    induction n with
    | zero => intro l h; rw [List.eq_nil_of_length_eq_zero (by omega : l.length = 0)]; simp [chars_nil]
    | succ n ih =>
      intro l h
      by_cases hl : l = []
      · subst hl; simp [chars_nil]
      · rw [chars_cons hl]
        obtain ⟨f1, f2, _⟩ := next_facts hl
        have := ih (l.drop (next l).2.1) (by rw [List.length_drop]; omega)
        rw [List.length_drop] at this
        rw [List.length_cons]; omega
  intro l
  exact this l.length l (Nat.le_refl _)

set_option maxHeartbeats 2000000 in
theorem refChars (l : List UInt8) (A : Option Addr) (cap : Nat) (w : World) (hA : BytesAt w A l) (hcap : l.length ≤ cap) (hm : l.length ≤ 1099511627776) :
    Calls Tryd.prog 55 #[.slice A l.length cap] w fun e w' => ∃ v, e = .returned v ∧ OwnI w' w.heap.size v (chars l) ∧ Below w.heap.size w w' := by
  have HA := Lib.hid hA
  clear hA
  go_enter Tryd.func55, Tryd.ntmps55
  go_wp2
  go_loopw [3, 4] (fun out i wr => ∃ (j : Nat) (done : List Int), i = .int .i64 (j : Int) ∧ j ≤ l.length ∧ Hid (chars l = done ++ chars (l.drop j)) ∧ Hid (OwnI wr w.heap.size out done) ∧ done.length ≤ j ∧ Below w.heap.size w wr) (fun _ i _ => l.length - (RowKit.intOf i).toNat)
  case atStart => exact ⟨0, [], rfl, by omega, Lib.hid rfl, OwnI.nil _ _, by simp, Below.refl _ _⟩
  case round =>
    obtain ⟨j, done, rfl, hj, Hch, Hown, hdl, hbw⟩ := hrel
    by_cases hlt : j < l.length
    · have hne : l.drop j ≠ [] := fun h => by have := congrArg List.length h; rw [List.length_drop] at this; simp at this; omega
      obtain ⟨f1, f2, f3, _, f5, f6⟩ := next_facts hne
      have hcons := chars_cons hne
      obtain ⟨c, k, f, hc⟩ : ∃ c k f, next (l.drop j) = (c, k, f) := ⟨_, _, _, rfl⟩
      have C1 := (nextRef (l.drop j) (A.map (·.add j)) (cap - j) wr (by have := BytesAt.cut (HA.out.below hbw) (k := j) hcap; rwa [if_neg (by omega)] at this) (by rw [List.length_drop]; omega)).mono (R' := fun e w' => e = .returned (.tuple #[.int .i64 c, .int .i64 k, .int .i64 f]) ∧ Below wr.heap.size wr w') (fun e w' ⟨he, hb⟩ => ⟨by rw [he, hc]; rfl, hb⟩)
      have hhc : headC (l.drop j) = if f = 0 then (c : Int) else 65533 := by unfold headC; rw [hc]
      rw [hc] at f1 f2 f3 f5 hcons
      simp only at f1 f2 f3 f5 hcons
      rw [List.length_drop] at C1 f2
      rw [List.drop_drop] at hcons
      have H1 := Lib.hid C1
      have Hcons := Lib.hid hcons
      have k0 : (j : Int) < (l.length : Int) := by omega
      have k00 : (j : Int) ≤ (l.length : Int) := by omega
      have hsum : IntKind.i64.wrap ((j : Int) + (k : Int)) = (j : Int) + (k : Int) := IntWalk.i64_in _ (by omega)
      clear C1 hc hcons hne f6
      by_cases hf : f = 0
      · subst hf
        rw [if_pos rfl] at hhc
        have Hhc := Lib.hid hhc
        clear hhc f5
        go_wp2_with (first | (go_at_call 70; refine (H1.out).mono ?_; rintro e w1 ⟨rfl, hb1⟩) | (at_builtin; refine wpList_append_ints rfl _ _ rfl rfl ((Hown.out.below hb1).below ((Below.refl _ _).alloc (Nat.le_refl _) _)) rfl (src := [(c : Int)]) rfl (CellsAt.new _ _ _ _ rfl) ?_ ?_ ?_))
        · simp; omega
        · have := hbw.size; have := hb1.size; simp; omega
        intro v' w2 hown2 hg2
        have hb2 : Below w.heap.size w w2 := by
          have hs := hbw.size
          have hs1 := hb1.size
          refine ((hbw.trans (hb1.mono hs)).alloc (by omega) _).grown hg2 (by simp; omega) (fun k hk => ((Hown.out.below hb1).lt hk).1)
        clear hg2
        have Hown2 := Lib.hid hown2
        clear hown2
        go_wp2
        go_roundw
        case rel => exact ⟨j + k, done ++ [(c : Int)], by go_num, by omega, by unfold Hid; rw [Hch.out, Hcons.out, Hhc.out, List.append_assoc]; rfl, Hown2, by rw [List.length_append, List.length_singleton]; omega, hb2⟩
        case measure => simp [RowKit.intOf]; omega
      · rw [if_neg hf] at hhc
        have Hhc := Lib.hid hhc
        have k2 : ((f : Int) != 0) = true := by rw [bne_iff_ne]; omega
        clear hhc f5
        go_wp2_with (first | (go_at_call 70; refine (H1.out).mono ?_; rintro e w1 ⟨rfl, hb1⟩) | (at_builtin; refine wpList_append_ints rfl _ _ rfl rfl ((Hown.out.below hb1).below ((Below.refl _ _).alloc (Nat.le_refl _) _)) rfl (src := [(65533 : Int)]) rfl (CellsAt.new _ _ _ _ rfl) ?_ ?_ ?_))
        · simp; omega
        · have := hbw.size; have := hb1.size; simp; omega
        intro v' w2 hown2 hg2
        have hb2 : Below w.heap.size w w2 := by
          have hs := hbw.size
          have hs1 := hb1.size
          refine ((hbw.trans (hb1.mono hs)).alloc (by omega) _).grown hg2 (by simp; omega) (fun k hk => ((Hown.out.below hb1).lt hk).1)
        clear hg2
        have Hown2 := Lib.hid hown2
        clear hown2
        go_wp2
        go_roundw
        case rel => exact ⟨j + k, done ++ [(65533 : Int)], by go_num, by omega, by unfold Hid; rw [Hch.out, Hcons.out, Hhc.out, List.append_assoc]; rfl, Hown2, by rw [List.length_append, List.length_singleton]; omega, hb2⟩
        case measure => simp [RowKit.intOf]; omega
    · have hge : decide ((j : Int) < (l.length : Int)) = false := by simp; omega
      have hge' : decide (j < l.length) = false := by simp; omega
      have Hb := Lib.hid hbw
      have hjl : j = l.length := by omega
      have Hj := Lib.hid hjl
      clear hbw hlt hjl
      go_wp2
      go_ret
      refine ⟨_, rfl, ?_, Hb.out⟩
      have := Hch.out
      rw [Hj.out, List.drop_length, chars_nil, List.append_nil] at this
      rw [this]; exact Hown.out

end Go.Proofs.YtbkpnffgihjikaaDoor.Utf

/- The reference's bytes of characters, and its Text, walked. -/
set_option linter.unusedVariables false
namespace Go.Proofs.YtbkpnffgihjikaaDoor.Utf
open Go.RowKit Go.Lib Go.Shelf UtfP

theorem flatMap_le : ∀ (cs : List Int), (cs.flatMap enc).length ≤ 4 * cs.length
  | [] => by simp
  | c :: cs => by
    rw [List.flatMap_cons, List.length_append, List.length_cons]
    have := (enc_length c).2
    have := flatMap_le cs
    omega

set_option maxHeartbeats 2000000 in
theorem refBytes (cs : List Int) (A : Option Addr) (cap : Nat) (W0 : World) (hA : CellsAt W0 A (cellsI cs)) (hm : cs.length ≤ 1099511627776) (hf : ∀ c ∈ cs, fineC c = true) :
    Calls Tryd.prog 54 #[.slice A cs.length cap] W0 fun e w' => ∃ v, e = .returned v ∧ OwnB w' W0.heap.size v (cs.flatMap enc) ∧ Below W0.heap.size W0 w' := by
  have HA := Lib.hid hA
  have Hf := Lib.hid hf
  clear hA hf
  obtain ⟨B0, hB0⟩ : ∃ B0, B0 = W0.heap.size := ⟨_, rfl⟩
  have HB0 := Lib.hid hB0
  clear hB0
  go_enter Tryd.func54, Tryd.ntmps54
  go_wp2
  go_loopw [3, 4] (fun out i wr => ∃ (j : Nat), i = .int .i64 (j : Int) ∧ j ≤ cs.length ∧ Hid (OwnB wr B0 out ((cs.take j).flatMap enc)) ∧ Below B0 W0 wr) (fun _ i _ => cs.length - (RowKit.intOf i).toNat)
  case atStart => exact ⟨0, rfl, by omega, OwnB.nil _ _, Below.refl _ _⟩
  case round =>
    obtain ⟨j, rfl, hj, Hown, hbw⟩ := hrel
    by_cases hlt : j < cs.length
    · have hcj : cs[j]? = some cs[j] := List.getElem?_eq_getElem hlt
      obtain ⟨c, hc⟩ : ∃ c, cs[j] = c := ⟨_, rfl⟩
      rw [hc] at hcj
      have hfc : fineC c = true := Hf.out c (by rw [← hc]; exact List.getElem_mem hlt)
      obtain ⟨b, off, rfl, hblt0, hcell⟩ := HA.out (by intro h; have := congrArg List.length h; rw [cellsI_length, List.length_nil] at this; omega)
      have hblt : b < B0 := by rw [HB0.out]; exact hblt0
      have hcw : wr.cell? ⟨b, off + j, none⟩ = some (.int .i64 c) := by
        rw [hbw.cell (p := ⟨b, off + j, none⟩) hblt]
        refine hcell j _ ?_
        unfold cellsI
        rw [List.getElem?_map, hcj]; rfl
      have C1 : Calls Tryd.prog 28 #[.int .i64 c] wr fun e w2 => ∃ A2 cap2, e = .returned (.slice A2 (enc c).length cap2) ∧ Hid (BytesAt w2 A2 (enc c)) ∧ Hid (Below wr.heap.size wr w2) :=
        (refPut c wr hfc).mono fun e w2 ⟨v, he, hown, hb⟩ => by obtain ⟨A2, cap2, rfl, _, hba, _⟩ := hown.form; exact ⟨A2, cap2, he, hba, hb⟩
      have H1 := Lib.hid C1
      have htk : cs.take (j + 1) = cs.take j ++ [c] := by rw [List.take_succ_eq_append_getElem hlt, hc]
      have Htk := Lib.hid htk
      have hl4 : ((cs.take j).flatMap enc).length ≤ 4 * j := by
        have := flatMap_le (cs.take j)
        rw [List.length_take] at this
        omega
      have he4 := (enc_length c).2
      have Hl := Lib.hid hl4
      have He := Lib.hid he4
      have k0 : (j : Int) < (cs.length : Int) := by omega
      clear C1 hcj hc hfc hcell hblt0 htk hl4 he4
      go_wp2_with (first | (go_at_call 28; refine (H1.out).mono ?_; rintro e w2 ⟨A2, cap2, rfl, hb2, hbl2⟩) | (at_builtin; refine wpList_append_bytes rfl _ _ rfl rfl (Hown.out.below hbl2.out) rfl rfl hb2.out ?_ ?_ ?_))
      · have := Hl.out; have := He.out; omega
      · have := hbw.size; have := hbl2.out.size; have := HB0.out; omega
      intro v' w3 hown3 hg3
      have hb3 : Below B0 W0 w3 := by
        have hs := hbw.size
        have hs2 := hbl2.out.size
        have hs0 := HB0.out
        exact (hbw.trans (hbl2.out.mono (by omega))).grown hg3 (by omega) (fun k hk => ((Hown.out.below hbl2.out).lt hk).1)
      have Hown3 : Hid (OwnB w3 B0 v' ((cs.take (j + 1)).flatMap enc)) := by
        unfold Hid; rw [Htk.out, List.flatMap_append, List.flatMap_singleton]; exact hown3
      clear hg3 hown3
      go_wp2
      go_roundw
      case rel => exact ⟨j + 1, by go_num, by omega, Hown3, hb3⟩
      case measure => simp [RowKit.intOf]; omega
    · have hge : decide ((j : Int) < (cs.length : Int)) = false := by simp; omega
      have hge' : decide (j < cs.length) = false := by simp; omega
      have Hb := Lib.hid hbw
      have Hj := Lib.hid (show j = cs.length by omega)
      clear hbw hlt
      go_wp2
      go_ret
      refine ⟨_, rfl, ?_, ?_⟩
      · have := Hown.out
        rw [Hj.out, List.take_length] at this
        rw [← HB0.out]; exact this
      · rw [← HB0.out]; exact Hb.out


end Go.Proofs.YtbkpnffgihjikaaDoor.Utf

/- Whether a text is of characters that may be shown: editbuf.fine and whispererref11.Fine, walked. -/
set_option linter.unusedVariables false
namespace Go.Proofs.YtbkpnffgihjikaaDoor.Utf
open Go.RowKit Go.Lib Go.Shelf UtfP

def fineF : Nat → List UInt8 → Bool
  | 0, _ => true
  | d + 1, l => if l = [] then true else ((next l).2.2 == 0 && printC ((next l).1 : Int)) && fineF d (l.drop (next l).2.1)
/-- is a text of characters that may be shown? -/
def fineT (l : List UInt8) : Bool := fineF l.length l

theorem fineF_more : ∀ (d d' : Nat) (l : List UInt8), l.length ≤ d → l.length ≤ d' → fineF d l = fineF d' l := by
  intro d
  induction d with
  | zero =>
    intro d' l h _
    have : l = [] := List.eq_nil_of_length_eq_zero (by omega)
    subst this
    cases d' with
    | zero => rfl
    | succ d' => unfold fineF; rw [if_pos rfl]
  | succ d ih =>
    intro d' l h h'
    by_cases hl : l = []
    · subst hl
      unfold fineF
      cases d' with
      | zero => simp
      | succ d' => simp
    · obtain ⟨f1, f2, _⟩ := next_facts hl
      cases d' with
      | zero => exact absurd (List.eq_nil_of_length_eq_zero (by omega)) hl
      | succ d' =>
        unfold fineF
        rw [if_neg hl, if_neg hl, ih d' (l.drop (next l).2.1) (by rw [List.length_drop]; omega) (by rw [List.length_drop]; omega)]
theorem fineT_nil : fineT [] = true := rfl
theorem fineT_cons {l : List UInt8} (h : l ≠ []) : fineT l = (((next l).2.2 == 0 && printC ((next l).1 : Int)) && fineT (l.drop (next l).2.1)) := by
  obtain ⟨f1, f2, _⟩ := next_facts h
  have hl := List.length_pos_iff.2 h
  obtain ⟨d, hd⟩ : ∃ d, l.length = d + 1 := ⟨l.length - 1, by omega⟩
  unfold fineT
  rw [hd]
  conv => lhs; unfold fineF
  rw [if_neg h]
  rw [fineF_more d (l.drop (next l).2.1).length (l.drop (next l).2.1) (by rw [List.length_drop]; omega) (Nat.le_refl _)]

set_option maxHeartbeats 2000000 in
theorem fineGo (l : List UInt8) (A : Option Addr) (cap : Nat) (w : World) (hT : Tabs w) (hA : BytesAt w A l) (hcap : l.length ≤ cap) (hm : l.length ≤ 140737488355328) :
    Calls Tryd.prog 64 #[.slice A l.length cap] w fun e w' => e = .returned (.bool (fineT l)) ∧ Below w.heap.size w w' := by
  have HA := Lib.hid hA
  have HT := Lib.hid hT
  clear hA hT
  obtain ⟨R, hR⟩ : ∃ R, fineT l = R := ⟨_, rfl⟩
  rw [hR]
  have HR := Lib.hid hR
  clear hR
  go_enter Tryd.func64, Tryd.ntmps64
  go_wp2
  go_loopw [0] (fun b wr => ∃ (rest : List UInt8) (A' : Option Addr) (cap' : Nat), b = .slice A' rest.length cap' ∧ rest.length ≤ cap' ∧ rest.length ≤ l.length ∧ Hid (BytesAt w A' rest) ∧ Hid (fineT rest = R) ∧ Below w.heap.size w wr) (fun b _ => lenOf b)
  case atStart => exact ⟨l, A, cap, rfl, hcap, by omega, HA, HR, Below.refl _ _⟩
  case round =>
    obtain ⟨rest, A', cap', rfl, hcap', hlen, HA', HF, hbw⟩ := hrel
    by_cases hne : rest = []
    · subst hne
      have Hb := Lib.hid hbw
      clear hlen hbw
      go_wp2
      go_ret
      exact ⟨by rw [← HF.out]; rfl, Hb.out⟩
    · obtain ⟨f1, f2, f3, _, f5, f6⟩ := next_facts hne
      have hcons := fineT_cons hne
      obtain ⟨c, k, f, hc⟩ : ∃ c k f, next rest = (c, k, f) := ⟨_, _, _, rfl⟩
      have C1 := (nextGo rest A' cap' wr (HT.out.below hbw) (HA'.out.below hbw) hcap' (by omega)).mono (R' := fun e w' => e = .returned (.tuple #[.int .i64 c, .int .i64 k, .int .i64 f]) ∧ Below wr.heap.size wr w') (fun e w' ⟨he, hb⟩ => ⟨by rw [he, hc]; rfl, hb⟩)
      rw [hc] at f1 f2 f3 f5 hcons
      simp only at f1 f2 f3 f5 hcons
      rw [HF.out] at hcons
      have hpos : 0 < rest.length := List.length_pos_iff.2 hne
      have H1 := Lib.hid C1
      have H2 := Lib.hid (fun W => printable (c : Int) W)
      have k0 : (0 : Int) < (rest.length : Int) := by omega
      have k1 : (k : Int) ≤ (rest.length : Int) := by omega
      have HBW := Lib.hid hbw
      clear C1 hc hne f6 f5 hbw
      by_cases hf : f = 0
      · subst hf
        cases hp : printC (c : Int)
        · rw [hp] at H2 hcons
          have HC := Lib.hid hcons
          clear hcons hp
          go_wp2_with (first | (go_at_call 74; refine (H1.out).mono ?_; rintro e w1 ⟨rfl, hb1⟩) | (go_at_call 53; refine (H2.out _).mono ?_; rintro e w2 ⟨rfl, hb2⟩))
          go_ret
          exact ⟨by rw [HC.out]; rfl, HBW.out.trans ((hb1.trans (hb2.mono hb1.size)).mono HBW.out.size)⟩
        · rw [hp] at H2 hcons
          have HC := Lib.hid hcons
          clear hcons hp
          go_wp2_with (first | (go_at_call 74; refine (H1.out).mono ?_; rintro e w1 ⟨rfl, hb1⟩) | (go_at_call 53; refine (H2.out _).mono ?_; rintro e w2 ⟨rfl, hb2⟩))
          go_roundw
          case rel =>
            refine ⟨rest.drop k, _, cap' - k, ?_, ?_, ?_, BytesAt.cut HA'.out hcap', ?_, HBW.out.trans ((hb1.trans (hb2.mono hb1.size)).mono HBW.out.size)⟩
            · rw [List.length_drop]
            · rw [List.length_drop]; omega
            · rw [List.length_drop]; omega
            · unfold Hid; rw [HC.out]; rfl
          case measure => simp [lenOf]; omega
      · have k2 : ((f : Int) != 0) = true := by rw [bne_iff_ne]; omega
        have k3 : (f == 0) = false := by simpa using hf
        rw [k3] at hcons
        have HC := Lib.hid hcons
        clear hcons k3 hf
        go_wp2_with (go_at_call 74; refine (H1.out).mono ?_; rintro e w1 ⟨rfl, hb1⟩)
        go_ret
        exact ⟨by rw [HC.out]; rfl, HBW.out.trans (hb1.mono HBW.out.size)⟩

set_option maxHeartbeats 2000000 in
theorem refFineT (l : List UInt8) (A : Option Addr) (cap : Nat) (w : World) (hA : BytesAt w A l) (hcap : l.length ≤ cap) (hm : l.length ≤ 140737488355328) :
    Calls Tryd.prog 49 #[.slice A l.length cap] w fun e w' => e = .returned (.bool (fineT l)) ∧ Below w.heap.size w w' := by
  have HA := Lib.hid hA
  clear hA
  obtain ⟨R, hR⟩ : ∃ R, fineT l = R := ⟨_, rfl⟩
  rw [hR]
  have HR := Lib.hid hR
  clear hR
  go_enter Tryd.func49, Tryd.ntmps49
  go_wp2
  go_loopw [3] (fun i wr => ∃ (j : Nat), i = .int .i64 (j : Int) ∧ j ≤ l.length ∧ Hid (fineT (l.drop j) = R) ∧ Below w.heap.size w wr) (fun i _ => l.length - (RowKit.intOf i).toNat)
  case atStart => exact ⟨0, rfl, by omega, HR, Below.refl _ _⟩
  case round =>
    obtain ⟨j, rfl, hj, HF, hbw⟩ := hrel
    by_cases hlt : j < l.length
    · have hne : l.drop j ≠ [] := fun h => by have := congrArg List.length h; rw [List.length_drop] at this; simp at this; omega
      obtain ⟨f1, f2, f3, _, f5, f6⟩ := next_facts hne
      have hcons := fineT_cons hne
      obtain ⟨c, k, f, hc⟩ : ∃ c k f, next (l.drop j) = (c, k, f) := ⟨_, _, _, rfl⟩
      have C1 := (nextRef (l.drop j) (A.map (·.add j)) (cap - j) wr (by have := BytesAt.cut (HA.out.below hbw) (k := j) hcap; rwa [if_neg (by omega)] at this) (by rw [List.length_drop]; omega)).mono (R' := fun e w' => e = .returned (.tuple #[.int .i64 c, .int .i64 k, .int .i64 f]) ∧ Below wr.heap.size wr w') (fun e w' ⟨he, hb⟩ => ⟨by rw [he, hc]; rfl, hb⟩)
      rw [hc] at f1 f2 f3 f5 hcons
      simp only at f1 f2 f3 f5 hcons
      rw [HF.out] at hcons
      rw [List.length_drop] at C1 f2
      rw [List.drop_drop] at hcons
      have H1 := Lib.hid C1
      have H2 := Lib.hid (fun W => refPrintable (c : Int) W)
      have k0 : (j : Int) < (l.length : Int) := by omega
      have k00 : (j : Int) ≤ (l.length : Int) := by omega
      have hsum : IntKind.i64.wrap ((j : Int) + (k : Int)) = (j : Int) + (k : Int) := IntWalk.i64_in _ (by omega)
      have HBW := Lib.hid hbw
      clear C1 hc hne f6 f5 hbw
      by_cases hf : f = 0
      · subst hf
        cases hp : printC (c : Int)
        · rw [hp] at H2 hcons
          have HC := Lib.hid hcons
          clear hcons hp
          go_wp2_with (first | (go_at_call 70; refine (H1.out).mono ?_; rintro e w1 ⟨rfl, hb1⟩) | (go_at_call 68; refine (H2.out _).mono ?_; rintro e w2 ⟨rfl, rfl⟩))
          go_ret
          exact ⟨by rw [HC.out]; rfl, HBW.out.trans (hb1.mono HBW.out.size)⟩
        · rw [hp] at H2 hcons
          have HC := Lib.hid hcons
          clear hcons hp
          go_wp2_with (first | (go_at_call 70; refine (H1.out).mono ?_; rintro e w1 ⟨rfl, hb1⟩) | (go_at_call 68; refine (H2.out _).mono ?_; rintro e w2 ⟨rfl, rfl⟩))
          go_roundw
          case rel => exact ⟨j + k, by go_num, by omega, by unfold Hid; rw [HC.out]; rfl, HBW.out.trans (hb1.mono HBW.out.size)⟩
          case measure => simp [RowKit.intOf]; omega
      · have k2 : ((f : Int) != 0) = true := by rw [bne_iff_ne]; omega
        have k3 : (f == 0) = false := by simpa using hf
        rw [k3] at hcons
        have HC := Lib.hid hcons
        clear hcons k3 hf
        go_wp2_with (go_at_call 70; refine (H1.out).mono ?_; rintro e w1 ⟨rfl, hb1⟩)
        go_ret
        exact ⟨by rw [HC.out]; rfl, HBW.out.trans (hb1.mono HBW.out.size)⟩
    · have hge : decide ((j : Int) < (l.length : Int)) = false := by simp; omega
      have hge' : decide (j < l.length) = false := by simp; omega
      have Hb := Lib.hid hbw
      have hjl : j = l.length := by omega
      have Hj := Lib.hid hjl
      clear hbw hlt hjl
      go_wp2
      go_ret
      refine ⟨?_, Hb.out⟩
      have := HF.out
      rw [Hj.out, List.drop_length] at this
      rw [← this]; rfl

end Go.Proofs.YtbkpnffgihjikaaDoor.Utf

/- Texts of characters, plainly: where characters begin. -/
set_option linter.unusedVariables false
namespace Go.Proofs.YtbkpnffgihjikaaDoor.Edit
open Go.RowKit Go.Lib Go.Shelf Utf UtfP

/-- the bytes of characters -/
def encs (cs : List Int) : List UInt8 := cs.flatMap enc
theorem encs_nil : encs [] = [] := rfl
theorem encs_cons (c : Int) (cs : List Int) : encs (c :: cs) = enc c ++ encs cs := by unfold encs; rw [List.flatMap_cons]
theorem encs_append (a b : List Int) : encs (a ++ b) = encs a ++ encs b := by unfold encs; rw [List.flatMap_append]
theorem encs_one (c : Int) : encs [c] = enc c := by unfold encs; simp

/-- does a character begin at a byte, or do the bytes end there? -/
def firstB (t : List UInt8) (i : Nat) : Bool := if i < t.length then !cont (bt t i) else true

theorem bt_append_left {l m : List UInt8} {i : Nat} (h : i < l.length) : bt (l ++ m) i = bt l i := by
  unfold bt
  rw [List.getD_eq_getElem?_getD, List.getD_eq_getElem?_getD, List.getElem?_append_left h]
theorem bt_append_right {l m : List UInt8} {i : Nat} (h : l.length ≤ i) : bt (l ++ m) i = bt m (i - l.length) := by
  unfold bt
  rw [List.getD_eq_getElem?_getD, List.getD_eq_getElem?_getD, List.getElem?_append_right h]

theorem enc_cont (c : Int) (hc : fineC c = true) (i : Nat) (hi : i < (enc c).length) : cont (bt (enc c) i) = decide (i ≠ 0) := by
  have hf := fineC_iff.1.1 hc
  have key : ∀ zs : List Int, encodeRuneZ c = zs → (∀ z ∈ zs, 0 ≤ z ∧ z < 256) → (∀ (j : Nat) (z : Int), zs[j]? = some z → (decide (128 ≤ z ∧ z ≤ 191)) = decide (j ≠ 0)) → cont (bt (enc c) i) = decide (i ≠ 0) := by
    intro zs hz hb hcnt
    have he := enc_eq hz
    rw [he] at hi ⊢
    rw [List.length_map] at hi
    have hz0 := hcnt i zs[i] (List.getElem?_eq_getElem hi)
    have hb0 := hb zs[i] (List.getElem_mem hi)
    rw [← hz0]
    unfold cont bt
    rw [List.getD_eq_getElem?_getD, List.getElem?_map, List.getElem?_eq_getElem hi]
    simp only [Option.map_some, Option.getD_some]
    have := u8_of hb0.1 hb0.2
    rw [Bool.eq_iff_iff]
    simp only [decide_eq_true_eq]
    omega
  by_cases h1 : c ≤ 127
  · refine key [c] (encodeRuneZ_one (by omega) h1) (by simp; omega) ?_
    intro j z hj
    rcases j with _ | j
    · simp at hj; subst hj; simp; omega
    · simp at hj
  by_cases h2 : c ≤ 2047
  · refine key _ (encodeRuneZ_two (by omega) h2) (by simp; omega) ?_
    intro j z hj
    rcases j with _ | _ | j
    · simp at hj; subst hj; simp; omega
    · simp at hj; subst hj; simp; omega
    · simp at hj
  by_cases h3 : c ≤ 65535
  · refine key _ (encodeRuneZ_three (by omega)) (by simp; omega) ?_
    intro j z hj
    rcases j with _ | _ | _ | j
    · simp at hj; subst hj; simp; omega
    · simp at hj; subst hj; simp; omega
    · simp at hj; subst hj; simp; omega
    · simp at hj
  · refine key _ (encodeRuneZ_four (by omega) (by omega)) (by simp; omega) ?_
    intro j z hj
    rcases j with _ | _ | _ | _ | j
    · simp at hj; subst hj; simp; omega
    · simp at hj; subst hj; simp; omega
    · simp at hj; subst hj; simp; omega
    · simp at hj; subst hj; simp; omega
    · simp at hj

def AllFine (cs : List Int) : Prop := ∀ c ∈ cs, fineC c = true

theorem firstB_head (a : List Int) (b : List Int) (h : AllFine b) : firstB (encs a ++ encs b) (encs a).length = true := by
  unfold firstB
  split
  · rename_i hlt
    cases b with
    | nil => simp [encs] at hlt
    | cons c cs =>
      have hc := h c (by simp)
      have hl := (enc_length c).1
      rw [bt_append_right (Nat.le_refl _), Nat.sub_self, encs_cons, bt_append_left (by omega), enc_cont c hc 0 (by omega)]
      rfl
  · rfl

theorem firstB_in (a : List Int) (c : Int) (b : List Int) (hc : fineC c = true) (i : Nat) (h0 : 0 < i) (hi : i < (enc c).length) : firstB (encs a ++ (enc c ++ encs b)) ((encs a).length + i) = false := by
  unfold firstB
  rw [if_pos (by simp; omega), bt_append_right (by omega), Nat.add_sub_cancel_left, bt_append_left hi, enc_cont c hc i hi]
  simp; omega

/-- how many characters begin ahead of a byte -/
def countB (t : List UInt8) : Nat → Nat
  | 0 => 0
  | n + 1 => countB t n + if firstB t n then 1 else 0

theorem countB_encs : ∀ (n : Nat) (a b : List Int), a.length = n → AllFine (a ++ b) → countB (encs a ++ encs b) (encs a).length = a.length := by
  intro n
  induction n with
  | zero =>
    intro a b hn _
    obtain rfl := List.eq_nil_of_length_eq_zero hn
    rfl
  | succ n ih =>
    intro a' b hn h
    have hne : a' ≠ [] := by intro e; rw [e] at hn; simp at hn
    obtain ⟨a, c, rfl⟩ : ∃ a c, a' = a ++ [c] := ⟨_, _, (List.dropLast_concat_getLast hne).symm⟩
    have hc : fineC c = true := h c (by simp)
    have e : encs (a ++ [c]) ++ encs b = encs a ++ encs (c :: b) := by rw [encs_append, encs_one, encs_cons, List.append_assoc]
    rw [e]
    have hl : (encs (a ++ [c])).length = (encs a).length + (enc c).length := by rw [encs_append, encs_one, List.length_append]
    rw [hl]
    have hfb : AllFine (c :: b) := by intro x hx; exact h x (by simp at hx ⊢; rcases hx with hx | hx <;> simp [hx])
    have ih' := ih a (c :: b) (by simp at hn; exact hn) (by intro x hx; exact h x (by simp at hx ⊢; rcases hx with hx | hx | hx <;> simp [hx]))
    have step : ∀ k, 1 ≤ k → k ≤ (enc c).length → countB (encs a ++ encs (c :: b)) ((encs a).length + k) = a.length + 1 := by
      intro k
      induction k with
      | zero => intro h; omega
      | succ k ihk =>
        intro _ hk
        show countB _ ((encs a).length + k) + (if firstB _ ((encs a).length + k) then 1 else 0) = _
        rcases Nat.eq_zero_or_pos k with h0 | h0
        · subst h0
          rw [Nat.add_zero, ih', firstB_head a (c :: b) hfb]
          rfl
        · rw [ihk h0 (by omega), encs_cons, firstB_in a c b hc k h0 (by omega)]
          rfl
    have := step (enc c).length (enc_length c).1 (Nat.le_refl _)
    rw [this, List.length_append]
    rfl

theorem bt_enc {c : Int} {zs : List Int} (h : encodeRuneZ c = zs) (hb : ∀ z ∈ zs, 0 ≤ z ∧ z < 256) (i : Nat) (z : Int) (hz : zs[i]? = some z) : (bt (enc c) i : Int) = z := by
  rw [enc_eq h]
  unfold bt
  rw [List.getD_eq_getElem?_getD, List.getElem?_map, hz]
  simp only [Option.map_some, Option.getD_some]
  have hb' := hb z (List.mem_of_getElem? hz)
  exact u8_of hb'.1 hb'.2

theorem take_of_bt (l m : List UInt8) (k : Nat) (hk : k ≤ l.length) (hm : m.length = k) (h : ∀ i, i < k → bt m i = bt l i) : m = l.take k := by
  apply List.ext_getElem
  · rw [List.length_take]; omega
  · intro i h1 h2
    have := h i (by omega)
    unfold bt at this
    rw [List.getD_eq_getElem?_getD, List.getD_eq_getElem?_getD, List.getElem?_eq_getElem h1, List.getElem?_eq_getElem (by omega)] at this
    simp only [Option.getD_some] at this
    rw [List.getElem_take]
    exact UInt8.toNat_inj.1 this

theorem enc_next {l : List UInt8} (he : (next l).2.2 = 0) : (enc ((next l).1 : Int)).length = (next l).2.1 ∧ ∀ i, i < (next l).2.1 → bt (enc ((next l).1 : Int)) i = bt l i := by
  revert he
  refine (?_ : (fun r : Nat × Nat × Nat => r.2.2 = 0 → (enc (r.1 : Int)).length = r.2.1 ∧ ∀ i, i < r.2.1 → bt (enc (r.1 : Int)) i = bt l i) (next l))
  have hk : ∀ {c : Prop} [Decidable c] {x y : Nat × Nat × Nat}, (c → (x.2.2 = 0 → (enc (x.1 : Int)).length = x.2.1 ∧ ∀ i, i < x.2.1 → bt (enc (x.1 : Int)) i = bt l i)) → (¬ c → (y.2.2 = 0 → (enc (y.1 : Int)).length = y.2.1 ∧ ∀ i, i < y.2.1 → bt (enc (y.1 : Int)) i = bt l i)) → ((if c then x else y).2.2 = 0 → (enc ((if c then x else y).1 : Int)).length = (if c then x else y).2.1 ∧ ∀ i, i < (if c then x else y).2.1 → bt (enc ((if c then x else y).1 : Int)) i = bt l i) := by
    intro c _ x y hx hy
    by_cases hc : c
    · rw [if_pos hc]; exact hx hc
    · rw [if_neg hc]; exact hy hc
  have hc := size_class (bt l 0)
  have hs := size_cases (bt l 0)
  have s := @sec_iff (bt l 0) (bt l 1)
  have hl := lo_hi_at (bt l 0)
  have hlh := lo_hi (bt l 0)
  have c2 := @cont_iff (bt l 2)
  have c3 := @cont_iff (bt l 3)
  have fin : ∀ (c : Nat) (zs : List Int) (k : Nat), encodeRuneZ (c : Int) = zs → zs.length = k → (∀ z ∈ zs, 0 ≤ z ∧ z < 256) → (∀ (i : Nat) (z : Int), zs[i]? = some z → z = (bt l i : Int)) → (enc (c : Int)).length = k ∧ ∀ i, i < k → bt (enc (c : Int)) i = bt l i := by
    intro c zs k hz hk hb hbt
    refine ⟨by rw [enc_eq hz, List.length_map, hk], fun i hi => ?_⟩
    have h1 := bt_enc hz hb i zs[i] (List.getElem?_eq_getElem (by omega))
    have h2 := hbt i zs[i] (List.getElem?_eq_getElem (by omega))
    omega
  unfold next nextN
  refine hk (fun _ h => absurd h (by decide)) (fun _ => hk (fun _ h => absurd (show (8 : Nat) = 0 from h) (by decide)) (fun a0 => hk (fun a1 _ => ?_) (fun a1 => hk (fun _ h => absurd (show (7 : Nat) = 0 from h) (by decide)) (fun _ => hk (fun _ h => absurd (show (8 : Nat) = 0 from h) (by decide)) (fun s1 => hk (fun a2 _ => ?_) (fun a2 => hk (fun _ h => absurd (show (7 : Nat) = 0 from h) (by decide)) (fun _ => hk (fun _ h => absurd (show (8 : Nat) = 0 from h) (by decide)) (fun s2 => hk (fun a3 _ => ?_) (fun a3 => hk (fun _ h => absurd (show (7 : Nat) = 0 from h) (by decide)) (fun _ => hk (fun _ h => absurd (show (8 : Nat) = 0 from h) (by decide)) (fun s3 _ => ?_)))))))))))
  · have := hc.1.1 a1
    refine fin (bt l 0) [(bt l 0 : Int)] 1 (encodeRuneZ_one (by omega) (by omega)) rfl (by simp; omega) ?_
    intro i z hz
    rcases i with _ | i
    · simp at hz; omega
    · simp at hz
  · have k1 := s.1.1 (by simpa using s1)
    have k4 := hc.2.1.1 a2
    have b1 := bt_lt l 1
    refine fin (bt l 0 % 32 * 64 + (bt l 1 - 128)) _ 2 (encodeRuneZ_two (by omega) (by omega)) rfl (by simp; omega) ?_
    intro i z hz
    rcases i with _ | _ | i
    · simp at hz; show z = ((bt l 0 : Nat) : Int); omega
    · simp at hz; show z = ((bt l 1 : Nat) : Int); omega
    · simp at hz
  · have k1 := s.1.1 (by simpa using s1)
    have k2 := c2.1.1 (by simpa using s2)
    have k4 := hc.2.2.1.1 a3
    have hr : (2048 ≤ ((bt l 0 % 16 * 4096 + (bt l 1 - 128) * 64 + (bt l 2 - 128) : Nat) : Int) ∧ ((bt l 0 % 16 * 4096 + (bt l 1 - 128) * 64 + (bt l 2 - 128) : Nat) : Int) < 55296) ∨ (57343 < ((bt l 0 % 16 * 4096 + (bt l 1 - 128) * 64 + (bt l 2 - 128) : Nat) : Int) ∧ ((bt l 0 % 16 * 4096 + (bt l 1 - 128) * 64 + (bt l 2 - 128) : Nat) : Int) ≤ 65535) := by
      by_cases e : bt l 0 = 237
      · have := hl.2.2.2.2.1 e
        omega
      · by_cases e' : bt l 0 = 224
        · have := hl.2.1 e'
          omega
        · omega
    refine fin (bt l 0 % 16 * 4096 + (bt l 1 - 128) * 64 + (bt l 2 - 128)) _ 3 (encodeRuneZ_three hr) rfl (by simp; omega) ?_
    intro i z hz
    rcases i with _ | _ | _ | i
    · simp at hz; show z = ((bt l 0 : Nat) : Int); omega
    · simp at hz; show z = ((bt l 1 : Nat) : Int); omega
    · simp at hz; show z = ((bt l 2 : Nat) : Int); omega
    · simp at hz
  · have k1 := s.1.1 (by simpa using s1)
    have k2 := c2.1.1 (by simpa using s2)
    have k3 := c3.1.1 (by simpa using s3)
    have k4 : 240 ≤ bt l 0 ∧ bt l 0 ≤ 244 := hc.2.2.2.1 (by omega)
    have hr : 65536 ≤ ((bt l 0 % 8 * 262144 + (bt l 1 - 128) * 4096 + (bt l 2 - 128) * 64 + (bt l 3 - 128) : Nat) : Int) ∧ ((bt l 0 % 8 * 262144 + (bt l 1 - 128) * 4096 + (bt l 2 - 128) * 64 + (bt l 3 - 128) : Nat) : Int) ≤ 1114111 := by
      by_cases e : bt l 0 = 244
      · have := hl.2.2.2.2.2 e
        omega
      · by_cases e' : bt l 0 = 240
        · have := hl.2.2.1 e'
          omega
        · omega
    refine fin (bt l 0 % 8 * 262144 + (bt l 1 - 128) * 4096 + (bt l 2 - 128) * 64 + (bt l 3 - 128)) _ 4 (encodeRuneZ_four hr.1 hr.2) rfl (by simp; omega) ?_
    intro i z hz
    rcases i with _ | _ | _ | _ | i
    · simp at hz; show z = ((bt l 0 : Nat) : Int); omega
    · simp at hz; show z = ((bt l 1 : Nat) : Int); omega
    · simp at hz; show z = ((bt l 2 : Nat) : Int); omega
    · simp at hz; show z = ((bt l 3 : Nat) : Int); omega
    · simp at hz

theorem fine_encs : ∀ (cs : List Int), (∀ c ∈ cs, printC c = true) → fineT (encs cs) = true
  | [], _ => rfl
  | c :: cs, h => by
    have hc := h c (by simp)
    have hf := printC_fine hc
    have hne : encs (c :: cs) ≠ [] := by rw [encs_cons]; intro e; exact enc_ne c (List.append_eq_nil_iff.1 e).1
    rw [fineT_cons hne, encs_cons, next_enc _ hf]
    have h0 := (fineC_iff.1.1 hf).1
    simp only [List.drop_left]
    rw [fine_encs cs (fun x hx => h x (by simp [hx])), Int.toNat_of_nonneg h0, hc]
    rfl

/-- a text of characters that may be shown is the bytes of some -/
theorem encs_of_fine : ∀ (n : Nat) (l : List UInt8), l.length ≤ n → fineT l = true → ∃ cs, l = encs cs ∧ ∀ c ∈ cs, printC c = true := by
  intro n
  induction n with
  | zero => intro l h _; exact ⟨[], List.eq_nil_of_length_eq_zero (by omega), by simp⟩
  | succ n ih =>
    intro l hl hf
    by_cases hne : l = []
    · exact ⟨[], hne, by simp⟩
    · obtain ⟨f1, f2, _⟩ := next_facts hne
      rw [fineT_cons hne] at hf
      simp only [Bool.and_eq_true, beq_iff_eq] at hf
      obtain ⟨⟨h1, h2⟩, h3⟩ := hf
      obtain ⟨cs, hcs, hp⟩ := ih (l.drop (next l).2.1) (by rw [List.length_drop]; omega) h3
      refine ⟨((next l).1 : Int) :: cs, ?_, ?_⟩
      · have hen := enc_next h1
        have := take_of_bt l _ _ f2 hen.1 hen.2
        rw [encs_cons, ← hcs, this, List.take_append_drop]
      · intro c hc
        simp at hc
        rcases hc with hc | hc
        · rw [hc]; exact h2
        · exact hp c hc

end Go.Proofs.YtbkpnffgihjikaaDoor.Edit

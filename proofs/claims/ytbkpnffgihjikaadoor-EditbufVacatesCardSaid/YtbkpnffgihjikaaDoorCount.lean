/- utf.Count, walked. -/
import Derived.Test.YtbkpnffgihjikaaDoorText
import Derived.Test.YtbkpnffgihjikaaDoorEncP
import Derived.Test.YtbkpnffgihjikaaDoorStr
set_option linter.unusedVariables false
namespace Go.Proofs.YtbkpnffgihjikaaDoor.Utf
open Go.RowKit Go.Lib Go.Shelf UtfP

theorem bt_drop (l : List UInt8) (p j : Nat) : bt (l.drop p) j = bt l (p + j) := by
  unfold bt
  rw [List.getD_eq_getElem?_getD, List.getD_eq_getElem?_getD, List.getElem?_drop]
/-- the model's own decoding at a place of a string -/
theorem decode_str (l : List UInt8) (p : Nat) (hp : p < l.length) : Utf8.decode (strOf l) p = decOf (next (l.drop p)) := by
  rw [Lib.decode_at]
  have hg : ∀ j, ((strOf l).get! j).toNat = bt l j := fun j => get!_mk l j
  have hs : (strOf l).size = l.length := rfl
  rw [hg, hg, hg, hg, hs, decode_ok (by omega) (bt_lt _ _) (bt_lt _ _) (bt_lt _ _) (bt_lt _ _)]
  unfold next
  rw [List.length_drop, bt_drop, bt_drop, bt_drop, bt_drop]
  rfl

theorem decode_encs {done : List Int} {c : Int} {cs : List Int} (hc : fineC c = true) :
    Utf8.decode (strOf ((done ++ c :: cs).flatMap enc)) (done.flatMap enc).length = (c.toNat, (enc c).length) := by
  have e : ((done ++ c :: cs).flatMap enc) = done.flatMap enc ++ (enc c ++ cs.flatMap enc) := by rw [List.flatMap_append, List.flatMap_cons]
  have hlen := (enc_length c).1
  rw [decode_str _ _ (by rw [e, List.length_append, List.length_append]; omega), e, List.drop_left, next_enc _ hc]
  rfl

/-- where the characters of a list end -/
def posOf (done : List Int) : Nat := (done.flatMap enc).length
theorem posOf_snoc (done : List Int) (c : Int) : posOf done + (enc c).length = posOf (done ++ [c]) := by unfold posOf; rw [List.flatMap_append, List.flatMap_singleton, List.length_append]

theorem flatMap_len (done : List Int) : done.length ≤ (done.flatMap enc).length := by
  induction done with
  | nil => simp
  | cons c done ih => rw [List.flatMap_cons, List.length_append, List.length_cons]; have := (enc_length c).1; omega

set_option maxHeartbeats 1000000 in
theorem countGo (l : List UInt8) (A : Option Addr) (cap : Nat) (w : World) (hT : Tabs w) (hA : BytesAt w A l) (hcap : l.length ≤ cap) (hm : l.length ≤ 1099511627776) :
    Calls Tryd.prog 50 #[.slice A l.length cap] w fun e w' => e = .returned (.int .i64 ((chars l).length : Int)) ∧ Below w.heap.size w w' := by
  have C := (textGo l A cap w hT hA hcap hm).mono (R' := fun e w' => ∃ A' cap', e = .returned (.slice A' (text l).length cap') ∧ (convert 22 9 (.slice A' (text l).length cap')).run Tryd.prog w' = .ok (.string (strOf (text l))) w' ∧ Below w.heap.size w w') (fun e w' ⟨v, he, hown, hb⟩ => by
    obtain ⟨A', cap', rfl, _, hby, _⟩ := hown.form
    exact ⟨A', cap', he, conv_str hby, hb⟩)
  have hlen : (chars l).length ≤ 4 * l.length + 4 := by
    have : ∀ (n : Nat) (l : List UInt8), l.length ≤ n → (chars l).length ≤ l.length := by
      intro n
      induction n with
      | zero => intro l h; rw [List.eq_nil_of_length_eq_zero (by omega : l.length = 0)]; simp [chars_nil]
      | succ n ih =>
        intro l h
        by_cases hl : l = []
        · subst hl; simp [chars_nil]
        · rw [chars_cons hl]
          obtain ⟨f1, f2, _⟩ := next_facts hl
          have := ih (l.drop (next l).2.1) (by rw [List.length_drop]; omega)
          rw [List.length_drop] at this
          rw [List.length_cons]; omega
    have := this l.length l (Nat.le_refl _)
    omega
  have hfine := chars_fine l
  have htext : text l = (chars l).flatMap enc := rfl
  generalize hcs : chars l = cs at *
  have H1 := Lib.hid C
  have Hf := Lib.hid hfine
  have Ht := Lib.hid htext
  clear C hfine htext hT hA hcs
  generalize text l = t at *
  generalize l.length = n at *
  go_enter Tryd.func50, Tryd.ntmps50
  go_wp2_with (go_at_call 71; refine (H1.out).mono ?_; rintro e w1 ⟨A', cap', rfl, hconv, hb1⟩)
  have Hb := Lib.hid hb1
  clear hb1 hconv
  go_loopw [3] (fun i wr => ∃ (done rest : List Int), i = .int .i64 (done.length : Int) ∧ Hid (cs = done ++ rest) ∧ done.length + rest.length = cs.length ∧ wr = w1.iter (strOf t) (posOf done)) (fun i _ => cs.length - (RowKit.intOf i).toNat)
  case atStart => exact ⟨[], cs, rfl, Lib.hid rfl, by simp, rfl⟩
  case round =>
    obtain ⟨done, rest, rfl, Hcs, hl, rfl⟩ := hrel
    have ht : t = (done ++ rest).flatMap enc := by rw [Ht.out, Hcs.out]
    cases rest with
    | nil =>
      have hnx := fun ty => run_next_end (P := Tryd.prog) w1 (strOf t) (posOf done) ty (by rw [ht, List.append_nil]; exact Nat.lt_irrefl _)
      have Hl := Lib.hid hl
      clear ht hl
      go_wp2
      go_ret
      refine ⟨?_, Hb.out.trans ((Below.refl _ _).alloc Hb.out.size _)⟩
      have := Hl.out
      simp at this
      rw [this]; rfl
    | cons c rest =>
      have hc : fineC c = true := Hf.out c (by rw [Hcs.out]; simp)
      have hdec : Utf8.decode (strOf ((done ++ c :: rest).flatMap enc)) (posOf done) = (c.toNat, (enc c).length) := decode_encs (done := done) (cs := rest) hc
      have hc0 : ((c.toNat : Nat) : Int) = c := by have := (fineC_iff.1.1 hc).1; omega
      have hpos : posOf done < (strOf t).size := by
        unfold posOf
        rw [ht, List.flatMap_append, List.flatMap_cons]
        show _ < (done.flatMap enc ++ (enc c ++ _)).length
        rw [List.length_append, List.length_append]
        have := (enc_length c).1
        omega
      have hnx := fun ty => run_next_any (P := Tryd.prog) w1 (strOf t) (posOf done) ty hpos
      rw [ht, hdec] at hnx
      rw [← ht] at hnx
      simp only [posOf_snoc, hc0] at hnx
      have hl1 : done.length + (rest.length + 1) = cs.length := hl
      have b1 : (done.length : Int) ≤ 4398046511112 := by omega
      clear ht hdec hpos hl hc hc0
      go_wp2
      go_roundw
      case rel => exact ⟨done ++ [c], rest, by rw [List.length_append]; simp, by unfold Hid; rw [Hcs.out, List.append_assoc]; rfl, by rw [List.length_append, List.length_singleton]; omega, rfl⟩
      case measure => simp [RowKit.intOf]; omega

end Go.Proofs.YtbkpnffgihjikaaDoor.Utf

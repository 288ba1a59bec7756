/- A buffer: Put, walked (it clears the character's bytes when it leaves). -/
import Derived.Test.YtbkpnffgihjikaaDoorKeys4
import Derived.Test.YtbkpnffgihjikaaDoorDefB
set_option linter.unusedVariables false
namespace Go.Proofs.YtbkpnffgihjikaaDoor.Edit
open Go.RowKit Go.Lib Go.Shelf ChangeShapes Mem Utf UtfP Def

theorem inv_clear (W : World) (g cap n : Nat) (cur : Array Value) (hg : Blk W g cur 5) (hn : n ≤ cur.size) :
    ∃ W', (invoke (.builtin .clear #[22] 0 #[false]) #[.slice (some ⟨g, 0, none⟩) n cap]).run Tryd.prog W = .ok (.value (.tuple #[])) W' ∧ But [g] W W' := by
  rcases Nat.eq_zero_or_pos n with h0 | h0
  · subst h0
    have hrun := run_clear_none (P := Tryd.prog) W 22 5 0 Tryd.underlying22 (some ⟨g, 0, none⟩) cap
    exact ⟨W, by simp [invoke, builtin, hrun], But.refl _ _⟩
  · have hcell : ∀ j, j < n → (W.cell? ⟨g, 0 + j, none⟩).isSome = true := fun j hj => by
      rw [Nat.zero_add, hg.cell (v := cur[j]'(by omega)) (by simp)]; rfl
    have hrun := run_clear_slice (P := Tryd.prog) W 22 5 0 (.int .u8 0) Tryd.underlying22 zero_u8 rfl rfl g 0 n cap h0 hcell (fun j _ => hg.free _)
    exact ⟨W.setCells g 0 (List.replicate n (.int .u8 0)), by simp [invoke, builtin, hrun], But.setCells (Or.inl (by simp)) _ _ _ (But.refl _ _)⟩

theorem putB_nil (x : Int) (w : World) : Calls Tryd.prog 40 #[.pointer none, .int .i64 x] w fun e w' => e = .returned (.int .i64 1) ∧ w' = w := by
  refine calls_of_wp_B Tryd.func40 rfl ?_
  simp only [Tryd.ntmps40, List.size_toArray, List.length_cons, List.length_nil, Nat.reduceAdd, Nat.reduceSub, Array.replicate_succ, Array.replicate_zero, List.push_toArray, List.append_toArray, List.nil_append, List.cons_append]
  go_wp2
  (try simp only [Exit.inBlock, Exit.then])
  exact ⟨_, results_tmp rfl _ _ _, rfl, rfl⟩

theorem putB_bad {b : Nat} (x : Int) (hx : printC x = false) (w : World) :
    Calls Tryd.prog 40 #[.pointer (some ⟨b, 0, none⟩), .int .i64 x] w fun e w' => e = .returned (.int .i64 2) ∧ Below w.heap.size w w' := by
  have H1 := Lib.hid (printable x w)
  rw [hx] at H1
  clear hx
  refine calls_of_wp_B Tryd.func40 rfl ?_
  simp only [Tryd.ntmps40, List.size_toArray, List.length_cons, List.length_nil, Nat.reduceAdd, Nat.reduceSub, Array.replicate_succ, Array.replicate_zero, List.push_toArray, List.append_toArray, List.nil_append, List.cons_append]
  go_wp2_with (go_at_call 53; refine (H1.out).mono ?_; rintro e w1 ⟨rfl, hb1⟩)
  (try simp only [Exit.inBlock, Exit.then])
  exact ⟨_, results_tmp rfl _ _ _, rfl, hb1⟩

set_option maxHeartbeats 1000000 in
theorem putB {b a c N p : Nat} {t : List UInt8} (x : Int) (hx : printC x = true) (w : World) (h : Buf w b a c N t p) (er : Int) (t' : List UInt8) (p' : Nat)
    (hv : (t.length + (enc x).length ≤ N ∧ er = 0 ∧ t' = t.take p ++ (enc x ++ t.drop p) ∧ p' = p + (enc x).length) ∨ (N < t.length + (enc x).length ∧ er = 4 ∧ t' = t ∧ p' = p)) :
    Calls Tryd.prog 40 #[.pointer (some ⟨b, 0, none⟩), .int .i64 x] w fun e w' => e = .returned (.int .i64 er) ∧ Buf w' b a c N t' p' ∧ But [b, a, c] w w' := by
  have H1 := Lib.hid (printable x w)
  rw [hx] at H1
  have H := Lib.hid h
  have HV := Lib.hid hv
  have HF := Lib.hid (printC_fine hx)
  clear h hx hv
  refine calls_of_wp_B Tryd.func40 rfl ?_
  simp only [Tryd.ntmps40, List.size_toArray, List.length_cons, List.length_nil, Nat.reduceAdd, Nat.reduceSub, Array.replicate_succ, Array.replicate_zero, List.push_toArray, List.append_toArray, List.nil_append, List.cons_append]
  go_wp2_with fail
  refine (H1.out).mono ?_
  rintro e w1 ⟨rfl, hb1⟩
  have HB1 := Lib.hid hb1
  have H2 := Lib.hid (put_ok x w1 HF.out)
  clear hb1
  go_wp2_with fail
  refine (H2.out).mono ?_
  rintro e w2 ⟨v, rfl, hown, hb2⟩
  have hb12 : Below w.heap.size w w2 := HB1.out.trans (hb2.mono HB1.out.size)
  obtain ⟨g, cap, cur, rfl, hgB, hgk, hn⟩ : ∃ g cap cur, v = .slice (some ⟨g, 0, none⟩) (enc x).length cap ∧ w1.heap.size ≤ g ∧ Blk w2 g cur 5 ∧ (enc x).length ≤ cur.size := by
    rcases hown.2 with ⟨_, h0⟩ | ⟨g, cap, cur, rfl, hB, hg, hn, hm, hsz, _⟩
    · exact absurd h0 (by have := (enc_length x).1; omega)
    · exact ⟨g, cap, cur, rfl, hB, hg, by rw [hsz]; omega⟩
  obtain ⟨A2, cap2, hA2, _, hbytes, _⟩ := hown.form
  injection hA2 with e1 e2 e3
  subst e1 e3
  have H3 : Hid (Calls Tryd.prog 65 #[.pointer (some ⟨b, 0, none⟩), .slice (some ⟨g, 0, none⟩) (enc x).length cap] w2 fun e w' => e = .returned (.int .i64 er) ∧ Buf w' b a c N t' p' ∧ But [b, a, c] w2 w') := by
    have hbuf2 : Buf w2 b a c N t p := H.out.but (But.of_below (S := []) hb12) (by simp) (by simp) (by simp)
    rcases HV.out with ⟨h1, rfl, rfl, rfl⟩ | ⟨h1, rfl, rfl, rfl⟩
    · refine lay_ok _ (enc x) cap w2 hbuf2 h1 (BytesAt.src hbytes) (fun ad had _ => ?_)
      obtain rfl := Option.some.inj had
      have := H.out.ar.body.lt
      have := HB1.out.size
      show g ≠ c
      omega
    · exact (lay_full _ _ cap w2 hbuf2 h1).mono fun e w' ⟨he, hb⟩ => ⟨he, hbuf2.but hb (by simp) (by simp) (by simp), hb.mono (by simp)⟩
  have HG : Hid (Blk w2 g cur 5) := hgk
  have HN := Lib.hid hn
  have HGB : Hid (w.heap.size ≤ g) := Nat.le_trans HB1.out.size hgB
  have HB12 := Lib.hid hb12
  clear hown hb2 hb12 hgB hgk hn hbytes
  go_wp2_with (go_at_call 65; refine (H3.out).mono ?_; rintro e w3 ⟨rfl, hbuf3, hb3⟩)
  (try simp only [Exit.inBlock, Exit.then])
  have l1 := H.out.head.lt
  have l2 := H.out.ar.head.lt
  have l3 := H.out.ar.body.lt
  have hgb := HGB.out
  have hgk3 : Blk w3 g cur 5 := HG.out.but hb3 (by simp; omega)
  obtain ⟨w4, hinv, hb4⟩ := inv_clear w3 g cap (enc x).length cur hgk3 HN.out
  refine ⟨_, _, _, _, _, w4, rfl, hinv, ?_⟩
  refine ⟨_, results_tmp rfl _ _ _, rfl, hbuf3.but hb4 (by simp; omega) (by simp; omega) (by simp; omega), ?_⟩
  have h13 : But [b, a, c] w w3 := (But.of_below HB12.out).trans hb3
  exact ⟨hb4.os.trans h13.os, hb4.tape.trans h13.tape, hb4.output.trans h13.output, Nat.le_trans h13.size hb4.size, fun k hk hs => by
    rw [hb4.block k (Nat.lt_of_lt_of_le hk h13.size) (by simp; omega)]
    exact h13.block k hk hs⟩

end Go.Proofs.YtbkpnffgihjikaaDoor.Edit

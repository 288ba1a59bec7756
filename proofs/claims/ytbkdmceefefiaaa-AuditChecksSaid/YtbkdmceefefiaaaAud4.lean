/- The audit's count of an effect, and the last stand behind the last writing. -/
import Derived.Test.YtbkdmceefefiaaaAud3
set_option linter.unusedVariables false
namespace Go.Proofs.Ytbkdmceefefiaaa.Aud
open Go.RowKit Go.Lib Mem Byt

theorem behind1 (b : Nat) (k fl mn tm : Int) (d : Value) (n : Int) (ok : Bool) (sf sm st wr rd sg inn out be : Int) (rs ov : Bool) (w : World) (ha : Aud w b sf sm st wr rd sg inn out be rs ov) (x : Int) (hx : setErr k fl mn tm sf sm st = x) (hk : (k == 2) = false) :
    Calls Try.prog 29 #[.pointer (some ⟨b, 0, none⟩), .agg (effC k fl mn tm d n ok)] w fun e w' => e = .returned (.tuple #[stV b 15, .int .i64 x]) ∧ Aud w' b sf sm st wr rd sg inn out be ok true ∧ But [b] w w' := by
  obtain ⟨o, ho⟩ : ∃ o : Go.Obj, o = .cells (effC k fl mn tm d n ok) 44 := ⟨_, rfl⟩
  have H1 := Lib.hid (last1 b k fl mn tm d n ok sf sm st wr rd sg inn out be rs ov (w.alloc o) (ha.alloc o) x hx)
  have HB := Lib.hid ((But.refl [b] w).alloc o)
  have HO := Lib.hid ho
  clear ha hx ho
  unfold effC at *
  go_enter Try.func29, Try.ntmps29
  go_wp2_with (go_at_call 23; rw [← HO.out]; refine (H1.out).mono ?_; rintro e w2 ⟨rfl, h1, h2⟩)
  go_ret2
  exact ⟨rfl, h1, HB.out.trans h2⟩

def pos (n : Int) : Int := if 0 < n then n else 0

theorem count0 (b : Nat) (k fl mn tm : Int) (d : Value) (n : Int) (ok : Bool) (w : World) (h2 : (k == 2) = false) (h3 : (k == 3) = false) (h4 : (k == 4) = false) :
    Calls Try.prog 13 #[.pointer (some ⟨b, 0, none⟩), .agg (effC k fl mn tm d n ok)] w fun e w' => e = .returned (.tuple #[]) ∧ Below w.heap.size w w' := by
  unfold effC
  go_enter Try.func13, Try.ntmps13
  go_wp2
  all_goals go_end0
  all_goals exact ⟨rfl, (Below.refl _ _).alloc (Nat.le_refl _) _⟩

theorem count4 (b : Nat) (fl mn tm : Int) (d : Value) (n : Int) (ok : Bool) (sf sm st wr rd sg inn out be : Int) (rs ov : Bool) (w : World) (ha : Aud w b sf sm st wr rd sg inn out be rs ov) :
    Calls Try.prog 13 #[.pointer (some ⟨b, 0, none⟩), .agg (effC 4 fl mn tm d n ok)] w fun e w' => e = .returned (.tuple #[]) ∧ Aud w' b sf sm st wr rd (wrap64 (sg + 1)) inn out be rs ov ∧ But [b] w w' := by
  have f3 := ha.free 3
  have f4 := ha.free 4
  have f5 := ha.free 5
  have f6 := ha.free 6
  have f7 := ha.free 7
  have f8 := ha.free 8
  have c3 := ha.c3
  have c4 := ha.c4
  have c5 := ha.c5
  have c6 := ha.c6
  have c7 := ha.c7
  have c8 := ha.c8
  have hlt := ha.lt
  have hne : b ≠ w.heap.size := by omega
  have HA := Lib.hid ha
  clear ha
  unfold effC
  go_enter Try.func13, Try.ntmps13
  go_wp2
  all_goals go_end0
  all_goals exact ⟨rfl, (Blk.set HA.out 5 _).alloc _, ((But.refl _ _).set (Or.inl (by simp)) _).alloc _⟩

theorem count3 (b : Nat) (fl mn tm : Int) (d : Value) (n : Int) (ok : Bool) (sf sm st wr rd sg inn out be : Int) (rs ov : Bool) (w : World) (ha : Aud w b sf sm st wr rd sg inn out be rs ov) :
    Calls Try.prog 13 #[.pointer (some ⟨b, 0, none⟩), .agg (effC 3 fl mn tm d n ok)] w fun e w' => e = .returned (.tuple #[]) ∧ Aud w' b sf sm st wr (wrap64 (rd + 1)) sg (wrap64 (inn + pos n)) out be rs ov ∧ But [b] w w' := by
  have f3 := ha.free 3
  have f4 := ha.free 4
  have f5 := ha.free 5
  have f6 := ha.free 6
  have f7 := ha.free 7
  have f8 := ha.free 8
  have c3 := ha.c3
  have c4 := ha.c4
  have c5 := ha.c5
  have c6 := ha.c6
  have c7 := ha.c7
  have c8 := ha.c8
  have hlt := ha.lt
  have hne : b ≠ w.heap.size := by omega
  have HA := Lib.hid ha
  clear ha
  unfold effC
  go_enter Try.func13, Try.ntmps13
  go_wp2
  all_goals go_end0
  · rw [show pos n = n by unfold pos; rw [if_pos (by omega)]]
    exact ⟨rfl, ((Blk.set HA.out 4 _).set 6 _).alloc _, (((But.refl _ _).set (Or.inl (by simp)) _).set (Or.inl (by simp)) _).alloc _⟩
  · rw [show inn + pos n = inn by unfold pos; rw [if_neg (by omega)]; omega]
    exact ⟨rfl, ((Blk.set HA.out 4 _).set 6 _).alloc _, (((But.refl _ _).set (Or.inl (by simp)) _).set (Or.inl (by simp)) _).alloc _⟩

set_option maxHeartbeats 1000000 in
theorem count2 (b : Nat) (fl mn tm : Int) (A : Option Addr) (l : List UInt8) (c : Nat) (d : Value) (hd : d = .slice A l.length c) (n : Int) (ok : Bool) (sf sm st wr rd sg inn out be : Int) (rs ov : Bool) (w : World) (ha : Aud w b sf sm st wr rd sg inn out be rs ov) (hA : BytesAt w A l) (hAb : ∀ a, A = some a → l ≠ [] → a.block ≠ b) (q : Bool) (hq : decide (l = [7]) = q) (x : Int) (hx : wrap64 (out + pos n) = x) :
    Calls Try.prog 13 #[.pointer (some ⟨b, 0, none⟩), .agg (effC 2 fl mn tm d n ok)] w fun e w' => e = .returned (.tuple #[]) ∧ Aud w' b sf sm st (wrap64 (wr + 1)) rd sg inn x (if q then wrap64 (be + 1) else be) rs ov ∧ But [b] w w' := by
  obtain ⟨o, ho⟩ : ∃ o : Go.Obj, o = .cells (effC 2 fl mn tm d n ok) 44 := ⟨_, rfl⟩
  obtain ⟨w2, hw2⟩ : ∃ w2 : World, w2 = (w.setCell ⟨b, 3, none⟩ (.int .i64 (wrap64 (wr + 1)))).setCell ⟨b, 7, none⟩ (.int .i64 x) := ⟨_, rfl⟩
  have hsz : w2.heap.size = w.heap.size := by rw [hw2]; simp [World.setCell]
  have hlt := ha.lt
  have ha2 : Aud w2 b sf sm st (wrap64 (wr + 1)) rd sg inn x be rs ov := by rw [hw2]; exact (Blk.set ha 3 _).set 7 _
  have hB2 : But [b] w w2 := by rw [hw2]; exact ((But.refl _ _).set (Or.inl (by simp)) _).set (Or.inl (by simp)) _
  have hA2 : BytesAt (w2.alloc o) A l := by
    intro hne
    obtain ⟨g, off, rfl, hg, hc⟩ := hA hne
    have hgb : g ≠ b := hAb ⟨g, off, none⟩ rfl hne
    refine ⟨g, off, rfl, by simp; omega, fun j hj => ?_⟩
    rw [((hB2.alloc o).cell (p := ⟨g, off + j, none⟩) hg (by simpa using hgb))]
    exact hc j hj
  have hS : ∀ W, Below (w2.alloc o).heap.size (w2.alloc o) W → Below (w2.alloc o).heap.size (w2.alloc o) W ∧ W.cell? ⟨w.heap.size, 0, none⟩ = some (.int .i64 2) ∧ W.cell? ⟨w.heap.size, 1, none⟩ = some (.int .u32 fl) ∧ W.cell? ⟨w.heap.size, 2, none⟩ = some (.int .u8 mn) ∧ W.cell? ⟨w.heap.size, 3, none⟩ = some (.int .u8 tm) ∧ W.cell? ⟨w.heap.size, 4, none⟩ = some d ∧ W.cell? ⟨w.heap.size, 5, none⟩ = some (.int .i64 n) ∧ W.cell? ⟨w.heap.size, 6, none⟩ = some (.bool ok) ∧ W.cell? ⟨b, 8, none⟩ = some (.int .i64 be) := fun W hW => by
    have h := effS ho W hW
    have ha3 : Aud (w2.alloc o) b sf sm st (wrap64 (wr + 1)) rd sg inn x be rs ov := ha2.alloc o
    have q : ∀ j v, (w2.alloc o).cell? ⟨b, j, none⟩ = some v → W.cell? ⟨b, j, none⟩ = some v := fun j v h => by rw [hW.cell (p := ⟨b, j, none⟩) ha3.lt]; exact h
    rw [hsz] at h
    exact ⟨hW, h.2.1, h.2.2.1, h.2.2.2.1, h.2.2.2.2.1, h.2.2.2.2.2.1, h.2.2.2.2.2.2.1, h.2.2.2.2.2.2.2, q _ _ ha3.c8⟩
  have f3 := ha.free 3
  have f7 := ha.free 7
  have f8 := ha.free 8
  have c3 := ha.c3
  have c7 := ha.c7
  have c8 := ha.c8
  have hne : b ≠ w.heap.size := by omega
  have HS := Lib.hid hS
  have HA2 := Lib.hid ha2
  have HB2 := Lib.hid hB2
  have HO := Lib.hid ho
  have HW2 := Lib.hid hw2
  have H1 := Lib.hid (liftB (w1 := w2.alloc o) bell 1 rfl)
  have H2 := Lib.hid (liftW (k := 2) (fl := fl) (mn := mn) (tm := tm) (n := n) (ok := ok) (m := [7]) (w1 := w2.alloc o) 1 rfl d hd hA2 q (by rw [← hq]; rfl))
  have hd0 : Below (w2.alloc o).heap.size (w2.alloc o) (w2.alloc o).drew := (Below.refl _ _).drew
  have HM : Hid ((0 < n ∧ wrap64 (out + n) = x) ∨ (n ≤ 0 ∧ wrap64 out = x)) := by
    unfold pos at hx
    by_cases h : 0 < n
    · rw [if_pos h] at hx; exact Or.inl ⟨h, hx⟩
    · rw [if_neg h, Int.add_zero] at hx; exact Or.inr ⟨by omega, hx⟩
  have Hlt := Lib.hid hlt
  clear ha ha2 hB2 hS ho hw2 hsz hd hA hA2 hAb hq hx
  unfold effC at *
  rcases HM.out with ⟨hn, hx⟩ | ⟨hn, hx⟩
  all_goals
    go_enter Try.func13, Try.ntmps13
    go_wp2
    rw [← HW2.out, ← HO.out]
    clear hx
    go_region_held_law (fun W => Below (w2.alloc o).heap.size (w2.alloc o) W ∧ W.cell? ⟨w.heap.size, 0, none⟩ = some (.int .i64 2) ∧ W.cell? ⟨w.heap.size, 1, none⟩ = some (.int .u32 fl) ∧ W.cell? ⟨w.heap.size, 2, none⟩ = some (.int .u8 mn) ∧ W.cell? ⟨w.heap.size, 3, none⟩ = some (.int .u8 tm) ∧ W.cell? ⟨w.heap.size, 4, none⟩ = some d ∧ W.cell? ⟨w.heap.size, 5, none⟩ = some (.int .i64 n) ∧ W.cell? ⟨w.heap.size, 6, none⟩ = some (.bool ok) ∧ W.cell? ⟨b, 8, none⟩ = some (.int .i64 be))
      (first | assumption | exact HS.out _ (by assumption)) (first
      | (go_at_call 18; refine (H1.out _ ?_).mono ?_; (go_split_ands; assumption); rintro e w3 ⟨B3, cB, rfl, hB3, hb3⟩)
      | (go_at_call 17; refine (H2.out B3 cB _ ?_ ?_).mono ?_; (go_split_ands; assumption); (go_split_ands; assumption); rintro e w4 ⟨rfl, hb4⟩))
    have h8 := (HS.out _ hb4).2.2.2.2.2.2.2.2
    have HA4 : Hid (Aud w4 b sf sm st (wrap64 (wr + 1)) rd sg inn x be rs ov) := Blk.but (Blk.alloc HA2.out o) (But.of_below (S := []) hb4) (by simp)
    have hf8 := Blk.free HA4.out 8
    have HB4 : Hid (But [b] w w4) := (HB2.out.alloc o).trans (But.of_below hb4)
    cases q
    · go_wp2
      go_end0
      exact ⟨rfl, HA4.out, HB4.out⟩
    · go_wp2
      go_end0
      exact ⟨rfl, Blk.set HA4.out 8 _, HB4.out.set (Or.inl (by simp)) _⟩

end Go.Proofs.Ytbkdmceefefiaaa.Aud

/- The audit's last stand, and the others that write. -/
import Derived.Test.YtbkdmceefefiaaaAud2
import Derived.Deep.RegionWith
set_option linter.unusedVariables false
namespace Go.Proofs.Ytbkdmceefefiaaa.Aud
open Go.RowKit Go.Lib Mem Byt

section
variable {w : World} {b : Nat} {fl mn tm wr rd sg inn out be : Int} {rs ov : Bool}
theorem Aud.c3 (h : Aud w b fl mn tm wr rd sg inn out be rs ov) : w.cell? ⟨b, 3, none⟩ = some (.int .i64 wr) := Blk.cell h rfl
theorem Aud.c4 (h : Aud w b fl mn tm wr rd sg inn out be rs ov) : w.cell? ⟨b, 4, none⟩ = some (.int .i64 rd) := Blk.cell h rfl
theorem Aud.c5 (h : Aud w b fl mn tm wr rd sg inn out be rs ov) : w.cell? ⟨b, 5, none⟩ = some (.int .i64 sg) := Blk.cell h rfl
theorem Aud.c6 (h : Aud w b fl mn tm wr rd sg inn out be rs ov) : w.cell? ⟨b, 6, none⟩ = some (.int .i64 inn) := Blk.cell h rfl
theorem Aud.c7 (h : Aud w b fl mn tm wr rd sg inn out be rs ov) : w.cell? ⟨b, 7, none⟩ = some (.int .i64 out) := Blk.cell h rfl
theorem Aud.c8 (h : Aud w b fl mn tm wr rd sg inn out be rs ov) : w.cell? ⟨b, 8, none⟩ = some (.int .i64 be) := Blk.cell h rfl
theorem Aud.c9 (h : Aud w b fl mn tm wr rd sg inn out be rs ov) : w.cell? ⟨b, 9, none⟩ = some (.bool rs) := Blk.cell h rfl
theorem Aud.cA (h : Aud w b fl mn tm wr rd sg inn out be rs ov) : w.cell? ⟨b, 10, none⟩ = some (.bool ov) := Blk.cell h rfl
end

theorem end1 (p : Value) (k fl mn tm : Int) (d : Value) (n : Int) (ok : Bool) (w : World) :
    Calls Try.prog 15 #[p, .agg (effC k fl mn tm d n ok)] w fun e w' => e = .returned (.tuple #[.nilFunc, .int .i64 11]) ∧ Below w.heap.size w w' := by
  unfold effC
  go_enter Try.func15, Try.ntmps15
  go_wp2
  go_ret2
  exact ⟨rfl, (Below.refl _ _).alloc (Nat.le_refl _) _⟩

theorem first1 (b : Nat) (k fl mn tm : Int) (d : Value) (n : Int) (ok : Bool) (sf sm st wr rd sg inn out be : Int) (rs ov : Bool) (w : World) (ha : Aud w b sf sm st wr rd sg inn out be rs ov) :
    Calls Try.prog 12 #[.pointer (some ⟨b, 0, none⟩), .agg (effC k fl mn tm d n ok)] w fun e w' =>
      (if k = 0 then (if ok then e = .returned (.tuple #[stV b 16, .int .i64 0]) ∧ Aud w' b fl mn tm wr rd sg inn out be rs ov
        else e = .returned (.tuple #[stV b 15, .int .i64 0]) ∧ Aud w' b sf sm st wr rd sg inn out be rs true)
      else e = .returned (.tuple #[.nilFunc, .int .i64 11])) ∧ But [b] w w' := by
  have hlt := ha.lt
  have c0 := ha.c0
  have c1 := ha.c1
  have c2 := ha.c2
  have c10 := ha.cA
  have f0 := ha.free 0
  have f1 := ha.free 1
  have f2 := ha.free 2
  have f10 := ha.free 10
  have Ha := Lib.hid ha
  clear ha
  have hne : b ≠ w.heap.size := by omega
  unfold effC
  by_cases hk : k = 0
  · subst hk
    cases ok
    all_goals simp only [↓reduceIte, Bool.false_eq_true]
    · go_enter Try.func12, Try.ntmps12
      go_wp2
      go_ret2
      refine ⟨⟨rfl, ?_⟩, ?_⟩
      · exact (Blk.set Ha.out 10 _).alloc _
      · exact ((But.refl _ _).set (Or.inl (by simp)) _).alloc _
    · go_enter Try.func12, Try.ntmps12
      go_wp2
      go_ret2
      refine ⟨⟨rfl, ?_⟩, ?_⟩
      · exact (((Blk.set Ha.out 0 _).set 1 _).set 2 _).alloc _
      · exact ((((But.refl _ _).set (Or.inl (by simp)) _).set (Or.inl (by simp)) _).set (Or.inl (by simp)) _).alloc _
  · simp only [hk, ↓reduceIte]
    have hk' : (k == 0) = false := by simpa using hk
    go_enter Try.func12, Try.ntmps12
    go_wp2
    go_ret2
    exact ⟨rfl, (But.refl _ _).alloc _⟩

theorem last1 (b : Nat) (k fl mn tm : Int) (d : Value) (n : Int) (ok : Bool) (sf sm st wr rd sg inn out be : Int) (rs ov : Bool) (w : World) (ha : Aud w b sf sm st wr rd sg inn out be rs ov) (x : Int) (hx : setErr k fl mn tm sf sm st = x) :
    Calls Try.prog 23 #[.pointer (some ⟨b, 0, none⟩), .agg (effC k fl mn tm d n ok)] w fun e w' => e = .returned (.tuple #[stV b 15, .int .i64 x]) ∧ Aud w' b sf sm st wr rd sg inn out be ok true ∧ But [b] w w' := by
  obtain ⟨o, ho⟩ : ∃ o : Go.Obj, o = .cells (effC k fl mn tm d n ok) 44 := ⟨_, rfl⟩
  obtain ⟨w2, hw2⟩ : ∃ w2 : World, w2 = (w.setCell ⟨b, 10, none⟩ (.bool true)).setCell ⟨b, 9, none⟩ (.bool ok) := ⟨_, rfl⟩
  have hsz : w2.heap.size = w.heap.size := by rw [hw2]; simp [World.setCell]
  have hlt := ha.lt
  have ha2 : Aud w2 b sf sm st wr rd sg inn out be ok true := by rw [hw2]; exact (Blk.set ha 10 _).set 9 _
  have hB2 : But [b] w w2 := by rw [hw2]; exact ((But.refl _ _).set (Or.inl (by simp)) _).set (Or.inl (by simp)) _
  have hS : ∀ W, Below (w2.alloc o).heap.size (w2.alloc o) W → Below (w2.alloc o).heap.size (w2.alloc o) W ∧ W.cell? ⟨b, 0, none⟩ = some (.int .u32 sf) ∧ W.cell? ⟨b, 1, none⟩ = some (.int .u8 sm) ∧ W.cell? ⟨b, 2, none⟩ = some (.int .u8 st) ∧ W.cell? ⟨w.heap.size, 0, none⟩ = some (.int .i64 k) ∧ W.cell? ⟨w.heap.size, 1, none⟩ = some (.int .u32 fl) ∧ W.cell? ⟨w.heap.size, 2, none⟩ = some (.int .u8 mn) ∧ W.cell? ⟨w.heap.size, 3, none⟩ = some (.int .u8 tm) ∧ W.cell? ⟨w.heap.size, 4, none⟩ = some d ∧ W.cell? ⟨w.heap.size, 5, none⟩ = some (.int .i64 n) ∧ W.cell? ⟨w.heap.size, 6, none⟩ = some (.bool ok) := fun W hW => by
    have h := effS ho W hW
    have ha3 : Aud (w2.alloc o) b sf sm st wr rd sg inn out be ok true := ha2.alloc o
    have q : ∀ j v, (w2.alloc o).cell? ⟨b, j, none⟩ = some v → W.cell? ⟨b, j, none⟩ = some v := fun j v h => by rw [hW.cell (p := ⟨b, j, none⟩) ha3.lt]; exact h
    rw [hsz] at h
    exact ⟨hW, q _ _ ha3.c0, q _ _ ha3.c1, q _ _ ha3.c2, h.2⟩
  have c0 := ha.c0
  have c1 := ha.c1
  have c2 := ha.c2
  have c9 := ha.c9
  have c10 := ha.cA
  have f9 := ha.free 9
  have f10 := ha.free 10
  have hne : b ≠ w.heap.size := by omega
  have HS := Lib.hid hS
  have HA2 := Lib.hid ha2
  have HB2 := Lib.hid hB2
  have HO := Lib.hid ho
  have HW2 := Lib.hid hw2
  have H2 := Lib.hid (lift (w1 := w2.alloc o) (set k fl mn tm sf sm st d n ok))
  rw [hx] at H2
  have hd0 : Below (w2.alloc o).heap.size (w2.alloc o) (w2.alloc o).drew.drew := (Below.refl _ _).drew.drew
  clear ha ha2 hB2 hS ho hw2 hsz hx
  unfold effC at *
  go_enter Try.func23, Try.ntmps23
  go_wp2
  go_region
  go_wp2
  rw [← HW2.out, ← HO.out]
  clear c0 c1 c2 c9 c10 f9 f10
  go_region_held_law (fun W => Below (w2.alloc o).heap.size (w2.alloc o) W ∧ W.cell? ⟨b, 0, none⟩ = some (.int .u32 sf) ∧ W.cell? ⟨b, 1, none⟩ = some (.int .u8 sm) ∧ W.cell? ⟨b, 2, none⟩ = some (.int .u8 st) ∧ W.cell? ⟨w.heap.size, 0, none⟩ = some (.int .i64 k) ∧ W.cell? ⟨w.heap.size, 1, none⟩ = some (.int .u32 fl) ∧ W.cell? ⟨w.heap.size, 2, none⟩ = some (.int .u8 mn) ∧ W.cell? ⟨w.heap.size, 3, none⟩ = some (.int .u8 tm) ∧ W.cell? ⟨w.heap.size, 4, none⟩ = some d ∧ W.cell? ⟨w.heap.size, 5, none⟩ = some (.int .i64 n) ∧ W.cell? ⟨w.heap.size, 6, none⟩ = some (.bool ok))
    (first | assumption | exact HS.out _ (by assumption)) (first
    | (go_at_call 21; refine (H2.out _ ?_).mono ?_; (go_split_ands; assumption); rintro e w3 ⟨rfl, hb3⟩))
  all_goals
    go_wp2
    go_ret2
    exact ⟨rfl, Blk.but (Blk.alloc HA2.out o) (But.of_below (S := []) hb3) (by simp), (HB2.out.alloc o).trans (But.of_below hb3)⟩

set_option maxHeartbeats 1000000 in
theorem behind2 (b : Nat) (fl mn tm : Int) (A : Option Addr) (l : List UInt8) (c : Nat) (d : Value) (hd : d = .slice A l.length c) (n : Int) (ok : Bool) (w : World) (hA : BytesAt w A l) (k : Int) (hk : k = 2) (q1 q2 : Bool) (hq1 : (k == 2 && decide (l = stopB)) = q1) (hq2 : (k == 2 && decide (l = startB)) = q2) :
    Calls Try.prog 29 #[.pointer (some ⟨b, 0, none⟩), .agg (effC k fl mn tm d n ok)] w fun e w' => e = .returned (.tuple #[if q2 || q1 then .nilFunc else stV b 29, .int .i64 (if q2 || q1 then 11 else 0)]) ∧ Below w.heap.size w w' := by
  obtain ⟨o, ho⟩ : ∃ o : Go.Obj, o = .cells (effC k fl mn tm d n ok) 44 := ⟨_, rfl⟩
  have hb0 := (Below.refl w.heap.size w).alloc (Nat.le_refl _) o
  have HS := Lib.hid (effS ho (w := w))
  have H1 := Lib.hid (liftB (w1 := w.alloc o) start 8 rfl)
  have H2 := Lib.hid (liftW (fl := fl) (mn := mn) (tm := tm) (n := n) (ok := ok) (m := startB) (w1 := w.alloc o) 8 rfl d hd (hA.below hb0) q2 hq2)
  have H3 := Lib.hid (liftB (w1 := w.alloc o) stop 8 rfl)
  have H4 := Lib.hid (liftW (fl := fl) (mn := mn) (tm := tm) (n := n) (ok := ok) (m := stopB) (w1 := w.alloc o) 8 rfl d hd (hA.below hb0) q1 hq1)
  have hd0 : Below (w.alloc o).heap.size (w.alloc o) (w.alloc o).drew := (Below.refl _ _).drew
  have HO := Lib.hid ho
  have Hb0 := Lib.hid hb0
  clear hA hq1 hq2 hd ho hb0
  subst hk
  unfold effC at *
  go_enter Try.func29, Try.ntmps29
  go_wp2
  rw [← HO.out]
  cases q2
  · go_region_held_law (fun W => Below (w.alloc o).heap.size (w.alloc o) W ∧ W.cell? ⟨w.heap.size, 0, none⟩ = some (.int .i64 2) ∧ W.cell? ⟨w.heap.size, 1, none⟩ = some (.int .u32 fl) ∧ W.cell? ⟨w.heap.size, 2, none⟩ = some (.int .u8 mn) ∧ W.cell? ⟨w.heap.size, 3, none⟩ = some (.int .u8 tm) ∧ W.cell? ⟨w.heap.size, 4, none⟩ = some d ∧ W.cell? ⟨w.heap.size, 5, none⟩ = some (.int .i64 n) ∧ W.cell? ⟨w.heap.size, 6, none⟩ = some (.bool ok))
      (first | assumption | exact HS.out _ (by assumption)) (first
      | (go_at_call 26; refine (H1.out _ ?_).mono ?_; (go_split_ands; assumption); rintro e w2 ⟨B2, c2, rfl, hB2, hb2⟩)
      | (go_at_call_of 17 B5; refine (H4.out B5 c5 _ ?_ ?_).mono ?_; (go_split_ands; assumption); (go_split_ands; assumption); rintro e w6 ⟨rfl, hb6⟩)
      | (go_at_call_of 17 B2; refine (H2.out B2 c2 _ ?_ ?_).mono ?_; (go_split_ands; assumption); (go_split_ands; assumption); rintro e w3 ⟨rfl, hb3⟩)
      | (go_at_call 28; refine (H3.out _ ?_).mono ?_; (go_split_ands; assumption); rintro e w5 ⟨B5, c5, rfl, hB5, hb5⟩))
    cases q1
    all_goals
      go_wp2
      go_ret2
      exact ⟨rfl, Hb0.out.trans (hb6.mono Hb0.out.size)⟩
  · have e1 := HS.out _ hd0
    go_region_with (first
      | (go_at_call 26; refine (H1.out _ ?_).mono ?_; exact hd0; rintro e w2 ⟨B2, c2, rfl, hB2, hb2⟩; have e2 := HS.out _ hb2)
      | (go_at_call 17; refine (H2.out B2 c2 _ ?_ ?_).mono ?_; assumption; assumption; rintro e w3 ⟨rfl, hb3⟩))
    all_goals
      go_wp2
      go_ret2
      exact ⟨rfl, Hb0.out.trans (hb3.mono Hb0.out.size)⟩

end Go.Proofs.Ytbkdmceefefiaaa.Aud

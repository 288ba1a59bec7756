/- The audit's stands that look at what was written. -/
import Derived.Test.YtbkdmceefefiaaaAud1
set_option linter.unusedVariables false
namespace Go.Proofs.Ytbkdmceefefiaaa.Aud
open Go.RowKit Go.Lib Mem Byt

/-- An effect in a block of its own, wherever nothing but new blocks have come. -/
theorem effS {o : Go.Obj} {k fl mn tm : Int} {d : Value} {n : Int} {ok : Bool} {w : World} (ho : o = .cells (effC k fl mn tm d n ok) 44) (W : World) (hW : Below (w.alloc o).heap.size (w.alloc o) W) : Below (w.alloc o).heap.size (w.alloc o) W ∧ W.cell? ⟨w.heap.size, 0, none⟩ = some (.int .i64 k) ∧ W.cell? ⟨w.heap.size, 1, none⟩ = some (.int .u32 fl) ∧ W.cell? ⟨w.heap.size, 2, none⟩ = some (.int .u8 mn) ∧ W.cell? ⟨w.heap.size, 3, none⟩ = some (.int .u8 tm) ∧ W.cell? ⟨w.heap.size, 4, none⟩ = some d ∧ W.cell? ⟨w.heap.size, 5, none⟩ = some (.int .i64 n) ∧ W.cell? ⟨w.heap.size, 6, none⟩ = some (.bool ok) := by
  have hn : Blk (w.alloc o) w.heap.size (effC k fl mn tm d n ok) 44 := by rw [ho]; exact Blk.new _ _ _
  have q : ∀ j v, (w.alloc o).cell? ⟨w.heap.size, j, none⟩ = some v → W.cell? ⟨w.heap.size, j, none⟩ = some v := fun j v h => by rw [hW.cell (p := ⟨w.heap.size, j, none⟩) hn.lt]; exact h
  exact ⟨hW, q _ _ (hn.cell rfl), q _ _ (hn.cell rfl), q _ _ (hn.cell rfl), q _ _ (hn.cell rfl), q _ _ (hn.cell rfl), q _ _ (hn.cell rfl), q _ _ (hn.cell rfl)⟩

theorem liftB {P : Program} {f : FuncId} {args : Array Value} {m : List UInt8} (h : ∀ w, Calls P f args w fun e w' => ∃ B c, e = .returned (.slice B m.length c) ∧ BytesAt w' B m ∧ Below w.heap.size w w') {w1 : World} (nn : Nat) (hnn : m.length = nn) : ∀ W, Below w1.heap.size w1 W → Calls P f args W fun e w' => ∃ B c, e = .returned (.slice B nn c) ∧ BytesAt w' B m ∧ Below w1.heap.size w1 w' :=
  fun W hW => by subst hnn; exact (h W).mono fun _ _ ⟨B, c, he, hm, hb⟩ => ⟨B, c, he, hm, hW.trans (hb.mono hW.size)⟩

theorem liftW {k fl mn tm : Int} {A : Option Addr} {l : List UInt8} {c : Nat} {n : Int} {ok : Bool} {m : List UInt8} {w1 : World} (nn : Nat) (hnn : m.length = nn) (d : Value) (hd : d = .slice A l.length c) (hA : BytesAt w1 A l) (q : Bool) (hq : (k == 2 && decide (l = m)) = q) :
    ∀ B c' W, BytesAt W B m → Below w1.heap.size w1 W → Calls Try.prog 17 #[.agg #[.int .i64 k, .int .u32 fl, .int .u8 mn, .int .u8 tm, d, .int .i64 n, .bool ok], .slice B nn c'] W fun e w' => e = .returned (.bool q) ∧ Below w1.heap.size w1 w' := fun B c' W hB hW => by
  subst hnn hd hq
  exact (wrote k fl mn tm A l c n ok m B c' W (hA.below hW) hB).mono fun _ _ ⟨he, hb⟩ => ⟨he, hW.trans (hb.mono hW.size)⟩


theorem start1 (b : Nat) (k fl mn tm : Int) (A : Option Addr) (l : List UInt8) (c : Nat) (d : Value) (hd : d = .slice A l.length c) (n : Int) (ok : Bool) (w : World) (hA : BytesAt w A l) (q : Bool) (hq : (k == 2 && decide (l = startB)) = q) :
    Calls Try.prog 24 #[.pointer (some ⟨b, 0, none⟩), .agg (effC k fl mn tm d n ok)] w fun e w' => e = .returned (.tuple #[if q then stV b 27 else .nilFunc, .int .i64 (if q then 0 else 11)]) ∧ Below w.heap.size w w' := by
  obtain ⟨o, ho⟩ : ∃ o : Go.Obj, o = .cells (effC k fl mn tm d n ok) 44 := ⟨_, rfl⟩
  have hb0 := (Below.refl w.heap.size w).alloc (Nat.le_refl _) o
  have HS := Lib.hid (effS ho (w := w))
  have H1 := Lib.hid (liftB (w1 := w.alloc o) start 8 rfl)
  have H2 := Lib.hid (liftW (fl := fl) (mn := mn) (tm := tm) (n := n) (ok := ok) (m := startB) (w1 := w.alloc o) 8 rfl d hd (hA.below hb0) q hq)
  have hd0 : Below (w.alloc o).heap.size (w.alloc o) (w.alloc o).drew := (Below.refl _ _).drew
  have HO := Lib.hid ho
  have Hb0 := Lib.hid hb0
  clear hA hq hd ho hb0
  unfold effC at *
  go_enter Try.func24, Try.ntmps24
  go_wp2
  rw [← HO.out]
  go_region_held_law (fun W => Below (w.alloc o).heap.size (w.alloc o) W ∧ W.cell? ⟨w.heap.size, 0, none⟩ = some (.int .i64 k) ∧ W.cell? ⟨w.heap.size, 1, none⟩ = some (.int .u32 fl) ∧ W.cell? ⟨w.heap.size, 2, none⟩ = some (.int .u8 mn) ∧ W.cell? ⟨w.heap.size, 3, none⟩ = some (.int .u8 tm) ∧ W.cell? ⟨w.heap.size, 4, none⟩ = some d ∧ W.cell? ⟨w.heap.size, 5, none⟩ = some (.int .i64 n) ∧ W.cell? ⟨w.heap.size, 6, none⟩ = some (.bool ok))
    (first | assumption | exact HS.out _ (by assumption)) (first
    | (go_at_call 26; refine (H1.out _ ?_).mono ?_; (go_split_ands; assumption); rintro e w2 ⟨B2, c2, rfl, hB2, hb2⟩)
    | (go_at_call 17; refine (H2.out B2 c2 _ ?_ ?_).mono ?_; (go_split_ands; assumption); (go_split_ands; assumption); rintro e w3 ⟨rfl, hb3⟩))
  cases q
  all_goals
    go_wp2
    go_ret2
    exact ⟨rfl, Hb0.out.trans (hb3.mono Hb0.out.size)⟩


theorem on1 (b : Nat) (k fl mn tm : Int) (A : Option Addr) (l : List UInt8) (c : Nat) (d : Value) (hd : d = .slice A l.length c) (n : Int) (ok : Bool) (w : World) (hA : BytesAt w A l) (q1 q2 : Bool) (hq1 : (k == 2 && decide (l = stopB)) = q1) (hq2 : (k == 2 && decide (l = startB)) = q2) :
    Calls Try.prog 27 #[.pointer (some ⟨b, 0, none⟩), .agg (effC k fl mn tm d n ok)] w fun e w' => e = .returned (.tuple #[if q1 then stV b 29 else if q2 || k == 0 || k == 1 then .nilFunc else stV b 27, .int .i64 (if q1 then 0 else if q2 || k == 0 || k == 1 then 11 else 0)]) ∧ Below w.heap.size w w' := by
  obtain ⟨o, ho⟩ : ∃ o : Go.Obj, o = .cells (effC k fl mn tm d n ok) 44 := ⟨_, rfl⟩
  have hb0 := (Below.refl w.heap.size w).alloc (Nat.le_refl _) o
  have HS := Lib.hid (effS ho (w := w))
  have H1 := Lib.hid (liftB (w1 := w.alloc o) start 8 rfl)
  have H2 := Lib.hid (liftW (fl := fl) (mn := mn) (tm := tm) (n := n) (ok := ok) (m := startB) (w1 := w.alloc o) 8 rfl d hd (hA.below hb0) q2 hq2)
  have H3 := Lib.hid (liftB (w1 := w.alloc o) stop 8 rfl)
  have H4 := Lib.hid (liftW (fl := fl) (mn := mn) (tm := tm) (n := n) (ok := ok) (m := stopB) (w1 := w.alloc o) 8 rfl d hd (hA.below hb0) q1 hq1)
  have hd0 : Below (w.alloc o).heap.size (w.alloc o) (w.alloc o).drew := (Below.refl _ _).drew
  have HO := Lib.hid ho
  have Hb0 := Lib.hid hb0
  obtain ⟨p0, hp0⟩ : ∃ p, (k == 0) = p := ⟨_, rfl⟩
  obtain ⟨p1, hp1⟩ : ∃ p, (k == 1) = p := ⟨_, rfl⟩
  rw [hp0, hp1]
  clear hA hq1 hq2 hd ho hb0
  unfold effC at *
  go_enter Try.func27, Try.ntmps27
  go_wp2
  rw [← HO.out]
  go_region_held_law (fun W => Below (w.alloc o).heap.size (w.alloc o) W ∧ W.cell? ⟨w.heap.size, 0, none⟩ = some (.int .i64 k) ∧ W.cell? ⟨w.heap.size, 1, none⟩ = some (.int .u32 fl) ∧ W.cell? ⟨w.heap.size, 2, none⟩ = some (.int .u8 mn) ∧ W.cell? ⟨w.heap.size, 3, none⟩ = some (.int .u8 tm) ∧ W.cell? ⟨w.heap.size, 4, none⟩ = some d ∧ W.cell? ⟨w.heap.size, 5, none⟩ = some (.int .i64 n) ∧ W.cell? ⟨w.heap.size, 6, none⟩ = some (.bool ok))
    (first | assumption | exact HS.out _ (by assumption) | exact HS.out _ (Below.drew (by assumption))) (first
    | (go_at_call 28; refine (H3.out _ ?_).mono ?_; (go_split_ands; assumption); rintro e w2 ⟨B2, c2, rfl, hB2, hb2⟩)
    | (go_at_call 17; refine (H4.out B2 c2 _ ?_ ?_).mono ?_; (go_split_ands; assumption); (go_split_ands; assumption); rintro e w3 ⟨rfl, hb3⟩))
  have Hb3 := Lib.hid hb3
  cases q1
  · go_wp2
    have hb4 := Hb3.out
    clear hb2 hB2
    go_region_held_law (fun W => Below (w.alloc o).heap.size (w.alloc o) W ∧ W.cell? ⟨w.heap.size, 0, none⟩ = some (.int .i64 k) ∧ W.cell? ⟨w.heap.size, 1, none⟩ = some (.int .u32 fl) ∧ W.cell? ⟨w.heap.size, 2, none⟩ = some (.int .u8 mn) ∧ W.cell? ⟨w.heap.size, 3, none⟩ = some (.int .u8 tm) ∧ W.cell? ⟨w.heap.size, 4, none⟩ = some d ∧ W.cell? ⟨w.heap.size, 5, none⟩ = some (.int .i64 n) ∧ W.cell? ⟨w.heap.size, 6, none⟩ = some (.bool ok))
    (first | assumption | exact HS.out _ (by assumption) | exact HS.out _ (Below.drew (by assumption))) (first
    | (go_at_call 26; refine (H1.out _ ?_).mono ?_; (go_split_ands; assumption); rintro e w5 ⟨B5, c5, rfl, hB5, hb5⟩)
    | (go_at_call 17; refine (H2.out B5 c5 _ ?_ ?_).mono ?_; (go_split_ands; assumption); (go_split_ands; assumption); rintro e w6 ⟨rfl, hb6⟩))
    have h0 := (HS.out _ hb6).2.1
    cases q2
    · cases p0
      · cases p1
        · go_wp2
          go_ret2
          exact ⟨rfl, Hb0.out.trans (hb6.mono Hb0.out.size)⟩
        · go_wp2
          go_ret2
          exact ⟨rfl, Hb0.out.trans (hb6.mono Hb0.out.size)⟩
      · go_wp2
        go_ret2
        exact ⟨rfl, Hb0.out.trans (hb6.mono Hb0.out.size)⟩
    · go_wp2
      go_ret2
      exact ⟨rfl, Hb0.out.trans (hb6.mono Hb0.out.size)⟩
  · go_wp2
    go_ret2
    exact ⟨rfl, Hb0.out.trans (hb3.mono Hb0.out.size)⟩

end Go.Proofs.Ytbkdmceefefiaaa.Aud

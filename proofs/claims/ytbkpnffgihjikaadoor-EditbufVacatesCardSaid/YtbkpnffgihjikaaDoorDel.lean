/- An arena: Delete, walked. -/
import Derived.Test.YtbkpnffgihjikaaDoorArena2
set_option linter.unusedVariables false
namespace Go.Proofs.YtbkpnffgihjikaaDoor.Mem
open Go.RowKit Go.Lib ChangeShapes

theorem part_ok {a c N : Nat} {t : List UInt8} (f to : Nat) (w : World) (h : Ar w a c N t) (h1 : f ≤ to) (h2 : to ≤ t.length) :
    Calls Tryd.prog 97 #[.pointer (some ⟨a, 0, none⟩), .int .i64 (f : Int), .int .i64 (to : Int)] w fun e w' => e = .returned (.bool true) ∧ w' = w := by
  have c1 := h.head.cell (j := 1) (v := .int .i64 (t.length : Int)) rfl
  have k1 : decide ((f : Int) ≤ (to : Int)) = true := by simp; omega
  have k2 : decide ((to : Int) ≤ (t.length : Int)) = true := by simp; omega
  have k1' : decide (f ≤ to) = true := by simp; omega
  have k2' : decide (to ≤ t.length) = true := by simp; omega
  clear h h1 h2
  go_enter Tryd.func97, Tryd.ntmps97
  go_wp2
  go_ret
  exact ⟨rfl, rfl⟩

set_option maxRecDepth 100000 in
set_option maxHeartbeats 2000000 in
theorem delete_ok {a c N : Nat} {t : List UInt8} (f to : Nat) (w : World) (h : Ar w a c N t) (h1 : f ≤ to) (h2 : to ≤ t.length) :
    Calls Tryd.prog 96 #[.pointer (some ⟨a, 0, none⟩), .int .i64 (f : Int), .int .i64 (to : Int)] w fun e w' => e = .returned (.int .i64 0) ∧ Ar w' a c N (t.take f ++ t.drop to) ∧ But [a, c] w w' := by
  have H := Lib.hid h
  have HP := Lib.hid (part_ok f to w h h1 h2)
  have hfit := h.fit
  have hmax := h.max
  obtain ⟨k, hk⟩ : ∃ k, k = to - f := ⟨_, rfl⟩
  obtain ⟨m, hm⟩ : ∃ m, m = t.length - k := ⟨_, rfl⟩
  have s1 : IntKind.i64.wrap ((to : Int) - (f : Int)) = (k : Int) := by rw [IntWalk.i64_in _ (by omega)]; omega
  have s2 : IntKind.i64.wrap ((t.length : Int) - (k : Int)) = (m : Int) := by rw [IntWalk.i64_in _ (by omega)]; omega
  have b1 : (f : Int) ≤ (t.length : Int) := by omega
  have b2 : (to : Int) ≤ (t.length : Int) := by omega
  have b3 : (t.length : Int) ≤ (N : Int) := by omega
  have b4 : (m : Int) ≤ (t.length : Int) := by omega
  obtain ⟨w2, hw2⟩ : ∃ w2, w.drew = w2 := ⟨_, rfl⟩
  have d0 : w2.cell? ⟨a, 0, none⟩ = some (.slice (some ⟨c, 0, none⟩) N N) := by rw [← hw2]; exact h.head.cell (j := 0) rfl
  have d1 : w2.cell? ⟨a, 1, none⟩ = some (.int .i64 (t.length : Int)) := by rw [← hw2]; exact h.head.cell (j := 1) rfl
  have hB2 : Hid (Blk w2 c (cellsB (t ++ List.replicate (N - t.length) 0)).toArray 5) := by rw [← hw2]; exact H.out.body
  have HS : Hid (0 < (cellsB (t.drop to)).length → (if N = f then some (⟨c, 0, none⟩ : Addr) else some ⟨c, f, none⟩) = some ⟨c, f, none⟩ ∧ ∃ ad, (if N = to then some (⟨c, 0, none⟩ : Addr) else some ⟨c, to, none⟩) = some ad ∧ ∀ j v, (cellsB (t.drop to))[j]? = some v → w2.cell? (ad.add j) = some v) := fun h0 => by
    rw [cellsB_length, List.length_drop] at h0
    rw [if_neg (by omega), if_neg (by omega)]
    refine ⟨rfl, _, rfl, fun j v hj => ?_⟩
    rw [WideShapes.add_plain]
    refine hB2.out.cell ?_
    rw [cellsB_drop, List.getElem?_drop] at hj
    rw [cellsB_append]
    simp only [List.getElem?_toArray]
    rw [List.getElem?_append_left (List.getElem?_eq_some_iff.1 hj).1]
    exact hj
  have HL : Hid ((t ++ List.replicate (N - t.length) (0 : UInt8)).length = N) := by show _ = N; simp; omega
  have HK := Lib.hid hk
  have HM := Lib.hid hm
  clear hk hm h
  go_enter Tryd.func96, Tryd.ntmps96
  go_wp2_with (go_at_call 97; refine (HP.out).mono ?_; rintro e wx ⟨rfl, hq⟩; obtain rfl := hq.symm)
  refine still_tail 20 (by kernel_rfl) (by kernel_rfl) ?_
  rw [hw2]
  simp only [List.take_succ_cons, List.take_zero, List.drop_succ_cons, List.drop_zero]
  repeat still_step
  refine wpStill_nil ?_
  refine wpList_copy_but rfl (.tmp 25) (.tmp 35) 22 22 rfl 5 Tryd.underlying22 (by kernel_rfl) _ _ _ _ _ _ rfl rfl c f (cellsB (t ++ List.replicate (N - t.length) 0)) 5 hB2.out (cellsB (t.drop to)) (by rw [cellsB_length, List.length_drop]; simp only [Nat.min_def]; split <;> omega) HS.out (by rw [cellsB_length, cellsB_length, List.length_drop, HL.out]; omega) (cellsB_one _) ?_
  intro w4 hg4 hb4
  generalize (if N = f then (some ⟨c, 0, none⟩ : Option Addr) else some ⟨c, f, none⟩) = D1
  generalize (if N = to then (some ⟨c, 0, none⟩ : Option Addr) else some ⟨c, to, none⟩) = D2
  have hh4 : Blk w4 a #[.slice (some ⟨c, 0, none⟩) N N, .int .i64 (t.length : Int)] 95 := Blk.but (by rw [← hw2]; exact H.out.head) hb4.out (by simp; exact H.out.ne)
  have HH4 := Lib.hid hh4
  have HU4 : Hid (But [a, c] w w4) := by
    have := hb4.out
    rw [← hw2] at this
    exact ((But.refl _ _).drew.trans this).mono (by simp)
  clear d0 d1 hB2 HS hw2 hb4 hh4
  go_wp2
  obtain ⟨w5, hw5⟩ : ∃ w5, w4.drew = w5 := ⟨_, rfl⟩
  have d0 : w5.cell? ⟨a, 0, none⟩ = some (.slice (some ⟨c, 0, none⟩) N N) := by rw [← hw5]; exact HH4.out.cell (j := 0) rfl
  have d1 : w5.cell? ⟨a, 1, none⟩ = some (.int .i64 (t.length : Int)) := by rw [← hw5]; exact HH4.out.cell (j := 1) rfl
  refine still_tail 17 (by kernel_rfl) (by kernel_rfl) ?_
  rw [hw5]
  simp only [List.take_succ_cons, List.take_zero, List.drop_succ_cons, List.drop_zero]
  repeat still_step
  refine wpStill_nil ?_
  refine wpList_clear_but rfl (.tmp 53) 22 rfl 5 Tryd.underlying22 zero_u8 _ _ _ rfl c m (splice (cellsB (t ++ List.replicate (N - t.length) 0)) f (cellsB (t.drop to))) 5 (by rw [← hw5]; exact hg4.out) (by rw [cellsB_splice, cellsB_length, length_splice _ _ _ (by rw [HL.out, List.length_drop]; omega), HL.out]; have := HM.out; omega) (fun h0 => by rw [if_neg (by have := HM.out; omega)]) ?_
  intro w6 hg6 hb6
  generalize (if N = m then (some ⟨c, 0, none⟩ : Option Addr) else some ⟨c, m, none⟩) = D3
  have hh6 : Blk w6 a #[.slice (some ⟨c, 0, none⟩) N N, .int .i64 (t.length : Int)] 95 := Blk.but (by rw [← hw5]; exact HH4.out) hb6.out (by simp; exact H.out.ne)
  have e1 := hh6.cell (j := 1) (v := .int .i64 (t.length : Int)) rfl
  have ef := hh6.free 1
  have HH6 := Lib.hid hh6
  have HU6 : Hid (But [a, c] w w6) := by
    have := hb6.out
    rw [← hw5] at this
    exact HU4.out.drew.trans (this.mono (by simp))
  clear d0 d1 hw5 hb6 hh6
  go_wp2
  go_ret
  have hlen : (t.take f ++ t.drop to).length = t.length - (to - f) := by
    rw [List.length_append, List.length_take, List.length_drop]; omega
  refine ⟨rfl, ⟨?_, ?_, H.out.ne, by rw [hlen]; omega, H.out.pos, H.out.max⟩, HU6.out.set (Or.inl (by simp)) _⟩
  · have := Blk.set HH6.out 1 (.int .i64 (m : Int))
    rw [hlen, show t.length - (to - f) = m by have := HM.out; have := HK.out; omega]
    exact this
  · have h := Blk.other hg6.out (a := ⟨a, 1, none⟩) (fun e => H.out.ne e.symm) (.int .i64 (m : Int))
    have hmv : m = t.length - (to - f) := by have := HM.out; have := HK.out; omega
    rw [show t.length - m = to - f by have := HM.out; have := HK.out; omega] at h
    rw [cellsB_zero, cellsB_splice, cellsB_splice, hmv, splice_delete t _ (List.replicate (to - f) 0) f to h1 h2 (by rw [List.length_replicate])] at h
    rw [hlen, List.append_assoc, show N - (t.length - (to - f)) = (to - f) + (N - t.length) by omega, ← List.replicate_append_replicate, hmv]
    exact h

end Go.Proofs.YtbkpnffgihjikaaDoor.Mem

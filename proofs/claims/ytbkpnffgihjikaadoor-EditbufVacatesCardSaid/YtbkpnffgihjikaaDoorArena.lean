/- An arena, walked: New, Insert, Len, Copy, Wipe, Cell, Zero. -/
import Derived.Test.YtbkpnffgihjikaaDoorRows
import Derived.Test.YtbkpnffgihjikaaDoorArP
import Derived.Deep.RegionLaw
import Derived.Laws.MakeOwn
import Derived.StillTailTactics
import Derived.IntWalk
import Derived.Deep.RegionHeldLaw
set_option linter.unusedVariables false
namespace Go.Proofs.YtbkpnffgihjikaaDoor.Mem
open Go.RowKit Go.Lib ChangeShapes

/-- An arena at block a, its N cells at block c: the bytes t, and 0 behind them. -/
structure Ar (w : World) (a c N : Nat) (t : List UInt8) : Prop where
  head : Blk w a #[.slice (some ⟨c, 0, none⟩) N N, .int .i64 (t.length : Int)] 95
  body : Blk w c (cellsB (t ++ List.replicate (N - t.length) 0)).toArray 5
  ne : a ≠ c
  fit : t.length ≤ N
  pos : 1 ≤ N
  max : N ≤ 4096

theorem still_tail {P : Program} {id : Nat} {Q : Exit → Act → World → Prop} {a : Act} {w : World} {l : List Oper} (n : Nat) (hm : P.follows .mixedOrders = true) (hB : Region.lexTailB .any l.toArray n = true)
    (h : wpStill P l.toArray w.drew (fun a' => wpList P l.toArray Q (l.drop n) a' w.drew) (l.take n) a) : (Code.region id l.toArray true).wp P Q a w := wp_region_still_tail n hm hB h

theorem new_bad (n : Int) (hn : n < 1 ∨ 4096 < n) (w : World) : Calls Tryd.prog 22 #[.int .i64 n] w fun e w' => e = .returned (.tuple #[.pointer none, .int .i64 3]) ∧ w' = w := by
  go_enter Tryd.func22, Tryd.ntmps22
  go_wp2
  all_goals
    go_ret2
    exact ⟨rfl, rfl⟩

theorem made_zero (n : Nat) : madeCells #[.int .u8 0] n = (cellsB (List.replicate n 0)).toArray := by
  unfold madeCells
  rw [← cellsB_zero]
  apply Array.ext
  · simp
  · intro i h1 h2
    simp [Nat.mod_one]

theorem make_bytes (w : World) (n : Nat) (h : n ≤ 4096) : (Instr.makeSlice 22 (.int .i64 (n : Int)) (.int .i64 (n : Int))).run Tryd.prog w = .ok (.slice (some ⟨w.heap.size, 0, none⟩) n n) (w.alloc (.cells (cellsB (List.replicate n 0)).toArray 5)) := by
  obtain ⟨i, hi⟩ := Option.isSome_iff_exists.1 (show (Tryd.prog.info? 5).isSome = true by kernel_rfl)
  have h1 : (Tryd.prog.info? 5).map (fun i => (i.zero, i.bytes, i.size)) = some (some (.int .u8 0), 1, 1) := by kernel_rfl
  rw [hi] at h1
  simp only [Option.map_some, Option.some.injEq, Prod.mk.injEq] at h1
  obtain ⟨hz, hb, hs⟩ := h1
  have := run_make (P := Tryd.prog) w 22 5 i (.int .u8 0) Tryd.underlying22 hi hz .i64 .i64 n n (by omega) (by omega) (by rw [hb]; omega) (by omega)
  rw [this, hs]
  simp only [Int.toNat_natCast, Nat.mul_one]
  rw [← made_zero]
  rfl

attribute [local go_sem ↓] make_bytes
theorem new (n : Nat) (h1 : 1 ≤ n) (h2 : n ≤ 4096) (w : World) : Calls Tryd.prog 22 #[.int .i64 (n : Int)] w fun e w' => e = .returned (.tuple #[.pointer (some ⟨w.heap.size + 1, 0, none⟩), .int .i64 0]) ∧ Ar w' (w.heap.size + 1) w.heap.size n [] ∧ Below w.heap.size w w' := by
  go_enter Tryd.func22, Tryd.ntmps22
  go_wp2
  go_ret2
  have h1' := Blk.new w (cellsB (List.replicate n 0)).toArray 5
  have h2' := Blk.new (w.alloc (.cells (cellsB (List.replicate n 0)).toArray 5)) #[.slice (some ⟨w.heap.size, 0, none⟩) n n, .int .i64 0] 95
  rw [show (w.alloc (.cells (cellsB (List.replicate n 0)).toArray 5)).heap.size = w.heap.size + 1 by simp] at h2'
  refine ⟨rfl, ⟨h2', by simpa using h1'.alloc _, by omega, by simp, h1, h2⟩, ((Below.refl _ _).alloc (Nat.le_refl _) _).alloc (by simp) _⟩

theorem len_nil (w : World) : Calls Tryd.prog 45 #[.pointer none] w fun e w' => e = .returned (.int .i64 0) ∧ w' = w := by
  go_enter Tryd.func45, Tryd.ntmps45
  go_wp2
  go_ret
  exact ⟨rfl, rfl⟩

theorem len {a c N : Nat} {t : List UInt8} (w : World) (h : Ar w a c N t) : Calls Tryd.prog 45 #[.pointer (some ⟨a, 0, none⟩)] w fun e w' => e = .returned (.int .i64 (t.length : Int)) ∧ w' = w := by
  have c1 := h.head.cell (j := 1) (v := .int .i64 (t.length : Int)) rfl
  clear h
  go_enter Tryd.func45, Tryd.ntmps45
  go_wp2
  go_ret
  exact ⟨rfl, rfl⟩

/-- Bytes as cells, wherever they lie. -/
def Src (w : World) (A : Option Addr) (l : List UInt8) : Prop := 0 < l.length → ∃ ad, A = some ad ∧ ∀ j v, (cellsB l)[j]? = some v → w.cell? (ad.add j) = some v

set_option maxRecDepth 100000 in
set_option maxHeartbeats 1000000 in
theorem insert_in {a c N : Nat} {t : List UInt8} (at' : Nat) (A : Option Addr) (l : List UInt8) (cap : Nat) (w : World) (h : Ar w a c N t) (hNa : ¬ N = at') (ha : at' ≤ t.length) (hl : t.length + l.length ≤ N) (hA : Src w A l) (hc : ∀ ad, A = some ad → l ≠ [] → ad.block ≠ c) :
    Calls Tryd.prog 24 #[.pointer (some ⟨a, 0, none⟩), .int .i64 (at' : Int), .slice A l.length cap] w fun e w' => e = .returned (.int .i64 0) ∧ Ar w' a c N (t.take at' ++ (l ++ t.drop at')) ∧ But [a, c] w w' := by
  have H := Lib.hid h
  have c0 := h.head.cell (j := 0) (v := .slice (some ⟨c, 0, none⟩) N N) rfl
  have c1 := h.head.cell (j := 1) (v := .int .i64 (t.length : Int)) rfl
  have f1 := h.head.free 1
  have hmax := h.max
  have HA := Lib.hid hA
  have HC := Lib.hid hc
  obtain ⟨k, hk⟩ : ∃ k, k = at' + l.length := ⟨_, rfl⟩
  have hs : IntKind.i64.wrap ((at' : Int) + (l.length : Int)) = (k : Int) := by rw [IntWalk.i64_in _ (by omega), hk]; rfl
  have hkN : (k : Int) ≤ (N : Int) := by omega
  have hkn : k ≤ N := by omega
  have hat : (at' : Int) ≤ (t.length : Int) := by omega
  have htN : (t.length : Int) ≤ (N : Int) := by omega
  have hp : 0 < (cellsB (t.drop at')).length → (if N = k then some (⟨c, 0, none⟩ : Addr) else some ⟨c, k, none⟩) = some ⟨c, k, none⟩ ∧ ∃ ad, some (⟨c, at', none⟩ : Addr) = some ad ∧ ∀ j v, (cellsB (t.drop at'))[j]? = some v → w.cell? (ad.add j) = some v := by
    intro h0
    rw [cellsB_length, List.length_drop] at h0
    rw [if_neg (by omega)]
    refine ⟨rfl, _, rfl, fun j v hj => ?_⟩
    rw [WideShapes.add_plain]
    refine H.out.body.cell ?_
    rw [cellsB_drop] at hj
    rw [List.getElem?_drop] at hj
    rw [cellsB_append]
    simp only [List.getElem?_toArray]
    rw [List.getElem?_append_left]
    · exact hj
    · exact (List.getElem?_eq_some_iff.1 hj).1
  have HP := Lib.hid hp
  have HK := Lib.hid hk
  clear hk hp
  clear h hA hc
  go_enter Tryd.func24, Tryd.ntmps24
  go_wp2
  go_region
  go_wp2
  obtain ⟨w2, hw2⟩ : ∃ w2, w.drew.drew = w2 := ⟨_, rfl⟩
  have d0 : w2.cell? ⟨a, 0, none⟩ = some (.slice (some ⟨c, 0, none⟩) N N) := by rw [← hw2]; exact c0
  have d1 : w2.cell? ⟨a, 1, none⟩ = some (.int .i64 (t.length : Int)) := by rw [← hw2]; exact c1
  have hB2 : Hid (Blk w2 c (cellsB (t ++ List.replicate (N - t.length) 0)).toArray 5) := by rw [← hw2]; exact H.out.body
  have hU2 : Hid (But [a, c] w w2) := by rw [← hw2]; exact (But.refl _ _).drew.drew
  refine still_tail 19 (by kernel_rfl) (by kernel_rfl) ?_
  rw [hw2]
  simp only [List.take_succ_cons, List.take_zero, List.drop_succ_cons, List.drop_zero]
  repeat still_step
  refine wpStill_nil ?_
  refine wpList_copy_but rfl (.tmp 43) (.tmp 53) 22 22 rfl 5 Tryd.underlying22 (by kernel_rfl) _ _ _ _ _ _ rfl rfl c k (cellsB (t ++ List.replicate (N - t.length) 0)) 5 hB2.out (cellsB (t.drop at')) (by rw [cellsB_length, List.length_drop, HK.out]; simp only [Nat.min_def]; split <;> omega) (by rw [← hw2]; exact HP.out) (by rw [cellsB_length, cellsB_length, List.length_drop, List.length_append, List.length_replicate, HK.out]; omega) (cellsB_one _) ?_
  intro w4 hg4 hb4
  have hh4 : Blk w4 a #[.slice (some ⟨c, 0, none⟩) N N, .int .i64 (t.length : Int)] 95 := Blk.but (by rw [← hw2]; exact H.out.head) hb4.out (by simp; exact H.out.ne)
  have e0 := hh4.cell (j := 0) (v := .slice (some ⟨c, 0, none⟩) N N) rfl
  have e1 := hh4.cell (j := 1) (v := .int .i64 (t.length : Int)) rfl
  have HH4 := Lib.hid hh4
  have HU4 : Hid (But [a, c] w w4) := hU2.out.trans (hb4.out.mono (by simp))
  have HS4 : Hid (Src w4 A l) := fun h0 => by
    obtain ⟨ad, rfl, h1⟩ := HA.out h0
    refine ⟨ad, rfl, fun j v hj => ?_⟩
    have hlt := World.block_lt_of_cell? _ _ (h1 j v hj)
    have hne : ad.block ≠ c := HC.out ad rfl (by intro h; rw [h] at h0; simp at h0)
    rw [hb4.out.cell (by rw [← hw2]; exact hlt) (by rw [block_add]; simpa using hne), ← hw2]
    exact h1 j v hj
  have HS5 : Hid (0 < (cellsB l).length → some (⟨c, at', none⟩ : Addr) = some ⟨c, at', none⟩ ∧ ∃ ad, A = some ad ∧ ∀ j v, (cellsB l)[j]? = some v → w4.cell? (ad.add j) = some v) := fun h0 => ⟨rfl, HS4.out (by rw [cellsB_length] at h0; exact h0)⟩
  clear hw2 d0 d1 hB2 hU2 c0 c1 f1 hh4 hb4
  generalize (if N = k then (some ⟨c, 0, none⟩ : Option Addr) else some ⟨c, k, none⟩) = D1
  go_wp2_with (with_reducible refine wpList_copy_but rfl (.tmp 60) (.tmp 61) 22 22 rfl 5 Tryd.underlying22 (by kernel_rfl) _ _ _ _ _ _ rfl rfl c at' (splice (cellsB (t ++ List.replicate (N - t.length) 0)) k (cellsB (t.drop at'))) 5 hg4.out (cellsB l) (by rw [cellsB_length]; simp only [Nat.min_def]; split <;> omega) HS5.out (by rw [cellsB_splice, cellsB_length, cellsB_length, length_splice _ _ _ (by rw [List.length_drop, List.length_append, List.length_replicate, HK.out]; omega), List.length_append, List.length_replicate]; omega) (cellsB_one _) ?_; intro w5 hg5 hb5; have hh5 : Blk w5 a #[.slice (some ⟨c, 0, none⟩) N N, .int .i64 (t.length : Int)] 95 := Blk.but HH4.out hb5.out (by simp; exact H.out.ne); have g1 := hh5.cell (j := 1) (v := .int .i64 (t.length : Int)) rfl; have gf := hh5.free 1; have HH5 := Lib.hid hh5; clear hh5)
  go_ret
  have hlen : (t.take at' ++ (l ++ t.drop at')).length = t.length + l.length := by
    rw [List.length_append, List.length_append, List.length_take, List.length_drop]; omega
  refine ⟨rfl, ⟨?_, ?_, H.out.ne, by rw [hlen]; exact hl, H.out.pos, H.out.max⟩, (HU4.out.trans (hb5.out.mono (by simp))).set (Or.inl (by simp)) _⟩
  · rw [hlen]
    exact Blk.set HH5.out 1 _
  · have h := (Blk.other hg5.out (a := ⟨a, 1, none⟩) (fun e => H.out.ne e.symm) (.int .i64 ((t.length : Int) + (l.length : Int))))
    have hZ : l.length ≤ (List.replicate (N - t.length) (0 : UInt8)).length := by rw [List.length_replicate]; omega
    rw [cellsB_splice, cellsB_splice, HK.out, splice_insert _ _ _ _ ha hZ, List.drop_replicate] at h
    rw [hlen, show N - (t.length + l.length) = N - t.length - l.length by omega, List.append_assoc, List.append_assoc]
    exact h

end Go.Proofs.YtbkpnffgihjikaaDoor.Mem

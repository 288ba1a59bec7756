/- The document's key of a sequence: whispererref09.key, Next, walked. -/
import Derived.Test.YtbflcikfaoojmaaDoorHKd9
set_option linter.unusedVariables false
set_option linter.unusedSimpArgs false
namespace Go.Proofs.YtbflcikfaoojmaaDoor.Edit
open Go.RowKit Go.Lib Go.Shelf ChangeShapes Mem Utf UtfP

/-- the sequences that are keys, without ESC -/
def refKeys : List (List UInt8 × Int) := [([91, 67], 5), ([79, 67], 5), ([91, 68], 4), ([79, 68], 4), ([91, 72], 6), ([79, 72], 6), ([91, 49, 126], 6), ([91, 55, 126], 6), ([91, 70], 7), ([79, 70], 7), ([91, 52, 126], 7), ([91, 56, 126], 7), ([91, 51, 126], 3), ([91, 50, 48, 48, 126], 13), ([91, 50, 48, 49, 126], 14)]
/-- the key of a whole sequence, without ESC -/
def refKey (s : List UInt8) : Int := (lookT refKeys s).getD 15
theorem lookT_map (x : UInt8) (s : List UInt8) : ∀ l : List (List UInt8 × Int), lookT (l.map fun p => (x :: p.1, p.2)) (x :: s) = lookT l s := by
  intro l
  induction l with
  | nil => rfl
  | cons p r ih =>
    obtain ⟨k, v⟩ := p
    simp only [List.map_cons, lookT]
    by_cases h : s = k
    · subst h; simp
    · rw [if_neg (by simpa using h), if_neg h]; exact ih
theorem seqKey_ref (s : List UInt8) : seqKey (27 :: s) = refKey s := by
  have h : seqKeys = refKeys.map fun p => ((27 : UInt8) :: p.1, p.2) := by kernel_rfl
  unfold seqKey refKey
  rw [h, lookT_map]
theorem str_ne {s t : List UInt8} (h : s ≠ t) : (strOf s == strOf t) = false := by
  cases hb : (strOf s == strOf t)
  · rfl
  · rw [MapKept.bytes_beq] at hb
    exact absurd (strOf_inj hb) h

theorem key_at0 (w : World) : Calls Tryd.prog 58 #[.string { data := #[91, 67] }] w fun e w' => e = .returned (.agg #[.int .i64 5, .int .i64 0]) ∧ Below w.heap.size w w' := by
  have e0 : (({ data := #[91, 67] } : ByteArray) == { data := #[91, 67] }) = true := by kernel_rfl
  have e1 : (({ data := #[91, 67] } : ByteArray) == { data := #[79, 67] }) = false := by kernel_rfl
  have e2 : (({ data := #[91, 67] } : ByteArray) == { data := #[91, 68] }) = false := by kernel_rfl
  have e3 : (({ data := #[91, 67] } : ByteArray) == { data := #[79, 68] }) = false := by kernel_rfl
  have e4 : (({ data := #[91, 67] } : ByteArray) == { data := #[91, 72] }) = false := by kernel_rfl
  have e5 : (({ data := #[91, 67] } : ByteArray) == { data := #[79, 72] }) = false := by kernel_rfl
  have e6 : (({ data := #[91, 67] } : ByteArray) == { data := #[91, 49, 126] }) = false := by kernel_rfl
  have e7 : (({ data := #[91, 67] } : ByteArray) == { data := #[91, 55, 126] }) = false := by kernel_rfl
  have e8 : (({ data := #[91, 67] } : ByteArray) == { data := #[91, 70] }) = false := by kernel_rfl
  have e9 : (({ data := #[91, 67] } : ByteArray) == { data := #[79, 70] }) = false := by kernel_rfl
  have e10 : (({ data := #[91, 67] } : ByteArray) == { data := #[91, 52, 126] }) = false := by kernel_rfl
  have e11 : (({ data := #[91, 67] } : ByteArray) == { data := #[91, 56, 126] }) = false := by kernel_rfl
  have e12 : (({ data := #[91, 67] } : ByteArray) == { data := #[91, 51, 126] }) = false := by kernel_rfl
  have e13 : (({ data := #[91, 67] } : ByteArray) == { data := #[91, 50, 48, 48, 126] }) = false := by kernel_rfl
  have e14 : (({ data := #[91, 67] } : ByteArray) == { data := #[91, 50, 48, 49, 126] }) = false := by kernel_rfl
  go_enter Tryd.func58, Tryd.ntmps58
  go_wp2
  (try simp only [Exit.inBlock, Exit.then])
  refine bodyPost_ret (results_key rfl _ _ w.heap.size 62 #[.int .i64 5, .int .i64 0] _ rfl (Blk.new w _ _) Tryd.underlying62 rfl (by kernel_rfl)) rfl ?_
  exact ⟨rfl, (Below.refl _ _).alloc (Nat.le_refl _) _⟩

theorem key_at1 (w : World) : Calls Tryd.prog 58 #[.string { data := #[79, 67] }] w fun e w' => e = .returned (.agg #[.int .i64 5, .int .i64 0]) ∧ Below w.heap.size w w' := by
  have e0 : (({ data := #[79, 67] } : ByteArray) == { data := #[91, 67] }) = false := by kernel_rfl
  have e1 : (({ data := #[79, 67] } : ByteArray) == { data := #[79, 67] }) = true := by kernel_rfl
  have e2 : (({ data := #[79, 67] } : ByteArray) == { data := #[91, 68] }) = false := by kernel_rfl
  have e3 : (({ data := #[79, 67] } : ByteArray) == { data := #[79, 68] }) = false := by kernel_rfl
  have e4 : (({ data := #[79, 67] } : ByteArray) == { data := #[91, 72] }) = false := by kernel_rfl
  have e5 : (({ data := #[79, 67] } : ByteArray) == { data := #[79, 72] }) = false := by kernel_rfl
  have e6 : (({ data := #[79, 67] } : ByteArray) == { data := #[91, 49, 126] }) = false := by kernel_rfl
  have e7 : (({ data := #[79, 67] } : ByteArray) == { data := #[91, 55, 126] }) = false := by kernel_rfl
  have e8 : (({ data := #[79, 67] } : ByteArray) == { data := #[91, 70] }) = false := by kernel_rfl
  have e9 : (({ data := #[79, 67] } : ByteArray) == { data := #[79, 70] }) = false := by kernel_rfl
  have e10 : (({ data := #[79, 67] } : ByteArray) == { data := #[91, 52, 126] }) = false := by kernel_rfl
  have e11 : (({ data := #[79, 67] } : ByteArray) == { data := #[91, 56, 126] }) = false := by kernel_rfl
  have e12 : (({ data := #[79, 67] } : ByteArray) == { data := #[91, 51, 126] }) = false := by kernel_rfl
  have e13 : (({ data := #[79, 67] } : ByteArray) == { data := #[91, 50, 48, 48, 126] }) = false := by kernel_rfl
  have e14 : (({ data := #[79, 67] } : ByteArray) == { data := #[91, 50, 48, 49, 126] }) = false := by kernel_rfl
  go_enter Tryd.func58, Tryd.ntmps58
  go_wp2
  (try simp only [Exit.inBlock, Exit.then])
  refine bodyPost_ret (results_key rfl _ _ w.heap.size 62 #[.int .i64 5, .int .i64 0] _ rfl (Blk.new w _ _) Tryd.underlying62 rfl (by kernel_rfl)) rfl ?_
  exact ⟨rfl, (Below.refl _ _).alloc (Nat.le_refl _) _⟩

theorem key_at2 (w : World) : Calls Tryd.prog 58 #[.string { data := #[91, 68] }] w fun e w' => e = .returned (.agg #[.int .i64 4, .int .i64 0]) ∧ Below w.heap.size w w' := by
  have e0 : (({ data := #[91, 68] } : ByteArray) == { data := #[91, 67] }) = false := by kernel_rfl
  have e1 : (({ data := #[91, 68] } : ByteArray) == { data := #[79, 67] }) = false := by kernel_rfl
  have e2 : (({ data := #[91, 68] } : ByteArray) == { data := #[91, 68] }) = true := by kernel_rfl
  have e3 : (({ data := #[91, 68] } : ByteArray) == { data := #[79, 68] }) = false := by kernel_rfl
  have e4 : (({ data := #[91, 68] } : ByteArray) == { data := #[91, 72] }) = false := by kernel_rfl
  have e5 : (({ data := #[91, 68] } : ByteArray) == { data := #[79, 72] }) = false := by kernel_rfl
  have e6 : (({ data := #[91, 68] } : ByteArray) == { data := #[91, 49, 126] }) = false := by kernel_rfl
  have e7 : (({ data := #[91, 68] } : ByteArray) == { data := #[91, 55, 126] }) = false := by kernel_rfl
  have e8 : (({ data := #[91, 68] } : ByteArray) == { data := #[91, 70] }) = false := by kernel_rfl
  have e9 : (({ data := #[91, 68] } : ByteArray) == { data := #[79, 70] }) = false := by kernel_rfl
  have e10 : (({ data := #[91, 68] } : ByteArray) == { data := #[91, 52, 126] }) = false := by kernel_rfl
  have e11 : (({ data := #[91, 68] } : ByteArray) == { data := #[91, 56, 126] }) = false := by kernel_rfl
  have e12 : (({ data := #[91, 68] } : ByteArray) == { data := #[91, 51, 126] }) = false := by kernel_rfl
  have e13 : (({ data := #[91, 68] } : ByteArray) == { data := #[91, 50, 48, 48, 126] }) = false := by kernel_rfl
  have e14 : (({ data := #[91, 68] } : ByteArray) == { data := #[91, 50, 48, 49, 126] }) = false := by kernel_rfl
  go_enter Tryd.func58, Tryd.ntmps58
  go_wp2
  (try simp only [Exit.inBlock, Exit.then])
  refine bodyPost_ret (results_key rfl _ _ w.heap.size 62 #[.int .i64 4, .int .i64 0] _ rfl (Blk.new w _ _) Tryd.underlying62 rfl (by kernel_rfl)) rfl ?_
  exact ⟨rfl, (Below.refl _ _).alloc (Nat.le_refl _) _⟩

theorem key_at3 (w : World) : Calls Tryd.prog 58 #[.string { data := #[79, 68] }] w fun e w' => e = .returned (.agg #[.int .i64 4, .int .i64 0]) ∧ Below w.heap.size w w' := by
  have e0 : (({ data := #[79, 68] } : ByteArray) == { data := #[91, 67] }) = false := by kernel_rfl
  have e1 : (({ data := #[79, 68] } : ByteArray) == { data := #[79, 67] }) = false := by kernel_rfl
  have e2 : (({ data := #[79, 68] } : ByteArray) == { data := #[91, 68] }) = false := by kernel_rfl
  have e3 : (({ data := #[79, 68] } : ByteArray) == { data := #[79, 68] }) = true := by kernel_rfl
  have e4 : (({ data := #[79, 68] } : ByteArray) == { data := #[91, 72] }) = false := by kernel_rfl
  have e5 : (({ data := #[79, 68] } : ByteArray) == { data := #[79, 72] }) = false := by kernel_rfl
  have e6 : (({ data := #[79, 68] } : ByteArray) == { data := #[91, 49, 126] }) = false := by kernel_rfl
  have e7 : (({ data := #[79, 68] } : ByteArray) == { data := #[91, 55, 126] }) = false := by kernel_rfl
  have e8 : (({ data := #[79, 68] } : ByteArray) == { data := #[91, 70] }) = false := by kernel_rfl
  have e9 : (({ data := #[79, 68] } : ByteArray) == { data := #[79, 70] }) = false := by kernel_rfl
  have e10 : (({ data := #[79, 68] } : ByteArray) == { data := #[91, 52, 126] }) = false := by kernel_rfl
  have e11 : (({ data := #[79, 68] } : ByteArray) == { data := #[91, 56, 126] }) = false := by kernel_rfl
  have e12 : (({ data := #[79, 68] } : ByteArray) == { data := #[91, 51, 126] }) = false := by kernel_rfl
  have e13 : (({ data := #[79, 68] } : ByteArray) == { data := #[91, 50, 48, 48, 126] }) = false := by kernel_rfl
  have e14 : (({ data := #[79, 68] } : ByteArray) == { data := #[91, 50, 48, 49, 126] }) = false := by kernel_rfl
  go_enter Tryd.func58, Tryd.ntmps58
  go_wp2
  (try simp only [Exit.inBlock, Exit.then])
  refine bodyPost_ret (results_key rfl _ _ w.heap.size 62 #[.int .i64 4, .int .i64 0] _ rfl (Blk.new w _ _) Tryd.underlying62 rfl (by kernel_rfl)) rfl ?_
  exact ⟨rfl, (Below.refl _ _).alloc (Nat.le_refl _) _⟩

theorem key_at4 (w : World) : Calls Tryd.prog 58 #[.string { data := #[91, 72] }] w fun e w' => e = .returned (.agg #[.int .i64 6, .int .i64 0]) ∧ Below w.heap.size w w' := by
  have e0 : (({ data := #[91, 72] } : ByteArray) == { data := #[91, 67] }) = false := by kernel_rfl
  have e1 : (({ data := #[91, 72] } : ByteArray) == { data := #[79, 67] }) = false := by kernel_rfl
  have e2 : (({ data := #[91, 72] } : ByteArray) == { data := #[91, 68] }) = false := by kernel_rfl
  have e3 : (({ data := #[91, 72] } : ByteArray) == { data := #[79, 68] }) = false := by kernel_rfl
  have e4 : (({ data := #[91, 72] } : ByteArray) == { data := #[91, 72] }) = true := by kernel_rfl
  have e5 : (({ data := #[91, 72] } : ByteArray) == { data := #[79, 72] }) = false := by kernel_rfl
  have e6 : (({ data := #[91, 72] } : ByteArray) == { data := #[91, 49, 126] }) = false := by kernel_rfl
  have e7 : (({ data := #[91, 72] } : ByteArray) == { data := #[91, 55, 126] }) = false := by kernel_rfl
  have e8 : (({ data := #[91, 72] } : ByteArray) == { data := #[91, 70] }) = false := by kernel_rfl
  have e9 : (({ data := #[91, 72] } : ByteArray) == { data := #[79, 70] }) = false := by kernel_rfl
  have e10 : (({ data := #[91, 72] } : ByteArray) == { data := #[91, 52, 126] }) = false := by kernel_rfl
  have e11 : (({ data := #[91, 72] } : ByteArray) == { data := #[91, 56, 126] }) = false := by kernel_rfl
  have e12 : (({ data := #[91, 72] } : ByteArray) == { data := #[91, 51, 126] }) = false := by kernel_rfl
  have e13 : (({ data := #[91, 72] } : ByteArray) == { data := #[91, 50, 48, 48, 126] }) = false := by kernel_rfl
  have e14 : (({ data := #[91, 72] } : ByteArray) == { data := #[91, 50, 48, 49, 126] }) = false := by kernel_rfl
  go_enter Tryd.func58, Tryd.ntmps58
  go_wp2
  (try simp only [Exit.inBlock, Exit.then])
  refine bodyPost_ret (results_key rfl _ _ w.heap.size 62 #[.int .i64 6, .int .i64 0] _ rfl (Blk.new w _ _) Tryd.underlying62 rfl (by kernel_rfl)) rfl ?_
  exact ⟨rfl, (Below.refl _ _).alloc (Nat.le_refl _) _⟩

theorem key_at5 (w : World) : Calls Tryd.prog 58 #[.string { data := #[79, 72] }] w fun e w' => e = .returned (.agg #[.int .i64 6, .int .i64 0]) ∧ Below w.heap.size w w' := by
  have e0 : (({ data := #[79, 72] } : ByteArray) == { data := #[91, 67] }) = false := by kernel_rfl
  have e1 : (({ data := #[79, 72] } : ByteArray) == { data := #[79, 67] }) = false := by kernel_rfl
  have e2 : (({ data := #[79, 72] } : ByteArray) == { data := #[91, 68] }) = false := by kernel_rfl
  have e3 : (({ data := #[79, 72] } : ByteArray) == { data := #[79, 68] }) = false := by kernel_rfl
  have e4 : (({ data := #[79, 72] } : ByteArray) == { data := #[91, 72] }) = false := by kernel_rfl
  have e5 : (({ data := #[79, 72] } : ByteArray) == { data := #[79, 72] }) = true := by kernel_rfl
  have e6 : (({ data := #[79, 72] } : ByteArray) == { data := #[91, 49, 126] }) = false := by kernel_rfl
  have e7 : (({ data := #[79, 72] } : ByteArray) == { data := #[91, 55, 126] }) = false := by kernel_rfl
  have e8 : (({ data := #[79, 72] } : ByteArray) == { data := #[91, 70] }) = false := by kernel_rfl
  have e9 : (({ data := #[79, 72] } : ByteArray) == { data := #[79, 70] }) = false := by kernel_rfl
  have e10 : (({ data := #[79, 72] } : ByteArray) == { data := #[91, 52, 126] }) = false := by kernel_rfl
  have e11 : (({ data := #[79, 72] } : ByteArray) == { data := #[91, 56, 126] }) = false := by kernel_rfl
  have e12 : (({ data := #[79, 72] } : ByteArray) == { data := #[91, 51, 126] }) = false := by kernel_rfl
  have e13 : (({ data := #[79, 72] } : ByteArray) == { data := #[91, 50, 48, 48, 126] }) = false := by kernel_rfl
  have e14 : (({ data := #[79, 72] } : ByteArray) == { data := #[91, 50, 48, 49, 126] }) = false := by kernel_rfl
  go_enter Tryd.func58, Tryd.ntmps58
  go_wp2
  (try simp only [Exit.inBlock, Exit.then])
  refine bodyPost_ret (results_key rfl _ _ w.heap.size 62 #[.int .i64 6, .int .i64 0] _ rfl (Blk.new w _ _) Tryd.underlying62 rfl (by kernel_rfl)) rfl ?_
  exact ⟨rfl, (Below.refl _ _).alloc (Nat.le_refl _) _⟩

theorem key_at6 (w : World) : Calls Tryd.prog 58 #[.string { data := #[91, 49, 126] }] w fun e w' => e = .returned (.agg #[.int .i64 6, .int .i64 0]) ∧ Below w.heap.size w w' := by
  have e0 : (({ data := #[91, 49, 126] } : ByteArray) == { data := #[91, 67] }) = false := by kernel_rfl
  have e1 : (({ data := #[91, 49, 126] } : ByteArray) == { data := #[79, 67] }) = false := by kernel_rfl
  have e2 : (({ data := #[91, 49, 126] } : ByteArray) == { data := #[91, 68] }) = false := by kernel_rfl
  have e3 : (({ data := #[91, 49, 126] } : ByteArray) == { data := #[79, 68] }) = false := by kernel_rfl
  have e4 : (({ data := #[91, 49, 126] } : ByteArray) == { data := #[91, 72] }) = false := by kernel_rfl
  have e5 : (({ data := #[91, 49, 126] } : ByteArray) == { data := #[79, 72] }) = false := by kernel_rfl
  have e6 : (({ data := #[91, 49, 126] } : ByteArray) == { data := #[91, 49, 126] }) = true := by kernel_rfl
  have e7 : (({ data := #[91, 49, 126] } : ByteArray) == { data := #[91, 55, 126] }) = false := by kernel_rfl
  have e8 : (({ data := #[91, 49, 126] } : ByteArray) == { data := #[91, 70] }) = false := by kernel_rfl
  have e9 : (({ data := #[91, 49, 126] } : ByteArray) == { data := #[79, 70] }) = false := by kernel_rfl
  have e10 : (({ data := #[91, 49, 126] } : ByteArray) == { data := #[91, 52, 126] }) = false := by kernel_rfl
  have e11 : (({ data := #[91, 49, 126] } : ByteArray) == { data := #[91, 56, 126] }) = false := by kernel_rfl
  have e12 : (({ data := #[91, 49, 126] } : ByteArray) == { data := #[91, 51, 126] }) = false := by kernel_rfl
  have e13 : (({ data := #[91, 49, 126] } : ByteArray) == { data := #[91, 50, 48, 48, 126] }) = false := by kernel_rfl
  have e14 : (({ data := #[91, 49, 126] } : ByteArray) == { data := #[91, 50, 48, 49, 126] }) = false := by kernel_rfl
  go_enter Tryd.func58, Tryd.ntmps58
  go_wp2
  (try simp only [Exit.inBlock, Exit.then])
  refine bodyPost_ret (results_key rfl _ _ w.heap.size 62 #[.int .i64 6, .int .i64 0] _ rfl (Blk.new w _ _) Tryd.underlying62 rfl (by kernel_rfl)) rfl ?_
  exact ⟨rfl, (Below.refl _ _).alloc (Nat.le_refl _) _⟩

theorem key_at7 (w : World) : Calls Tryd.prog 58 #[.string { data := #[91, 55, 126] }] w fun e w' => e = .returned (.agg #[.int .i64 6, .int .i64 0]) ∧ Below w.heap.size w w' := by
  have e0 : (({ data := #[91, 55, 126] } : ByteArray) == { data := #[91, 67] }) = false := by kernel_rfl
  have e1 : (({ data := #[91, 55, 126] } : ByteArray) == { data := #[79, 67] }) = false := by kernel_rfl
  have e2 : (({ data := #[91, 55, 126] } : ByteArray) == { data := #[91, 68] }) = false := by kernel_rfl
  have e3 : (({ data := #[91, 55, 126] } : ByteArray) == { data := #[79, 68] }) = false := by kernel_rfl
  have e4 : (({ data := #[91, 55, 126] } : ByteArray) == { data := #[91, 72] }) = false := by kernel_rfl
  have e5 : (({ data := #[91, 55, 126] } : ByteArray) == { data := #[79, 72] }) = false := by kernel_rfl
  have e6 : (({ data := #[91, 55, 126] } : ByteArray) == { data := #[91, 49, 126] }) = false := by kernel_rfl
  have e7 : (({ data := #[91, 55, 126] } : ByteArray) == { data := #[91, 55, 126] }) = true := by kernel_rfl
  have e8 : (({ data := #[91, 55, 126] } : ByteArray) == { data := #[91, 70] }) = false := by kernel_rfl
  have e9 : (({ data := #[91, 55, 126] } : ByteArray) == { data := #[79, 70] }) = false := by kernel_rfl
  have e10 : (({ data := #[91, 55, 126] } : ByteArray) == { data := #[91, 52, 126] }) = false := by kernel_rfl
  have e11 : (({ data := #[91, 55, 126] } : ByteArray) == { data := #[91, 56, 126] }) = false := by kernel_rfl
  have e12 : (({ data := #[91, 55, 126] } : ByteArray) == { data := #[91, 51, 126] }) = false := by kernel_rfl
  have e13 : (({ data := #[91, 55, 126] } : ByteArray) == { data := #[91, 50, 48, 48, 126] }) = false := by kernel_rfl
  have e14 : (({ data := #[91, 55, 126] } : ByteArray) == { data := #[91, 50, 48, 49, 126] }) = false := by kernel_rfl
  go_enter Tryd.func58, Tryd.ntmps58
  go_wp2
  (try simp only [Exit.inBlock, Exit.then])
  refine bodyPost_ret (results_key rfl _ _ w.heap.size 62 #[.int .i64 6, .int .i64 0] _ rfl (Blk.new w _ _) Tryd.underlying62 rfl (by kernel_rfl)) rfl ?_
  exact ⟨rfl, (Below.refl _ _).alloc (Nat.le_refl _) _⟩

theorem key_at8 (w : World) : Calls Tryd.prog 58 #[.string { data := #[91, 70] }] w fun e w' => e = .returned (.agg #[.int .i64 7, .int .i64 0]) ∧ Below w.heap.size w w' := by
  have e0 : (({ data := #[91, 70] } : ByteArray) == { data := #[91, 67] }) = false := by kernel_rfl
  have e1 : (({ data := #[91, 70] } : ByteArray) == { data := #[79, 67] }) = false := by kernel_rfl
  have e2 : (({ data := #[91, 70] } : ByteArray) == { data := #[91, 68] }) = false := by kernel_rfl
  have e3 : (({ data := #[91, 70] } : ByteArray) == { data := #[79, 68] }) = false := by kernel_rfl
  have e4 : (({ data := #[91, 70] } : ByteArray) == { data := #[91, 72] }) = false := by kernel_rfl
  have e5 : (({ data := #[91, 70] } : ByteArray) == { data := #[79, 72] }) = false := by kernel_rfl
  have e6 : (({ data := #[91, 70] } : ByteArray) == { data := #[91, 49, 126] }) = false := by kernel_rfl
  have e7 : (({ data := #[91, 70] } : ByteArray) == { data := #[91, 55, 126] }) = false := by kernel_rfl
  have e8 : (({ data := #[91, 70] } : ByteArray) == { data := #[91, 70] }) = true := by kernel_rfl
  have e9 : (({ data := #[91, 70] } : ByteArray) == { data := #[79, 70] }) = false := by kernel_rfl
  have e10 : (({ data := #[91, 70] } : ByteArray) == { data := #[91, 52, 126] }) = false := by kernel_rfl
  have e11 : (({ data := #[91, 70] } : ByteArray) == { data := #[91, 56, 126] }) = false := by kernel_rfl
  have e12 : (({ data := #[91, 70] } : ByteArray) == { data := #[91, 51, 126] }) = false := by kernel_rfl
  have e13 : (({ data := #[91, 70] } : ByteArray) == { data := #[91, 50, 48, 48, 126] }) = false := by kernel_rfl
  have e14 : (({ data := #[91, 70] } : ByteArray) == { data := #[91, 50, 48, 49, 126] }) = false := by kernel_rfl
  go_enter Tryd.func58, Tryd.ntmps58
  go_wp2
  (try simp only [Exit.inBlock, Exit.then])
  refine bodyPost_ret (results_key rfl _ _ w.heap.size 62 #[.int .i64 7, .int .i64 0] _ rfl (Blk.new w _ _) Tryd.underlying62 rfl (by kernel_rfl)) rfl ?_
  exact ⟨rfl, (Below.refl _ _).alloc (Nat.le_refl _) _⟩

theorem key_at9 (w : World) : Calls Tryd.prog 58 #[.string { data := #[79, 70] }] w fun e w' => e = .returned (.agg #[.int .i64 7, .int .i64 0]) ∧ Below w.heap.size w w' := by
  have e0 : (({ data := #[79, 70] } : ByteArray) == { data := #[91, 67] }) = false := by kernel_rfl
  have e1 : (({ data := #[79, 70] } : ByteArray) == { data := #[79, 67] }) = false := by kernel_rfl
  have e2 : (({ data := #[79, 70] } : ByteArray) == { data := #[91, 68] }) = false := by kernel_rfl
  have e3 : (({ data := #[79, 70] } : ByteArray) == { data := #[79, 68] }) = false := by kernel_rfl
  have e4 : (({ data := #[79, 70] } : ByteArray) == { data := #[91, 72] }) = false := by kernel_rfl
  have e5 : (({ data := #[79, 70] } : ByteArray) == { data := #[79, 72] }) = false := by kernel_rfl
  have e6 : (({ data := #[79, 70] } : ByteArray) == { data := #[91, 49, 126] }) = false := by kernel_rfl
  have e7 : (({ data := #[79, 70] } : ByteArray) == { data := #[91, 55, 126] }) = false := by kernel_rfl
  have e8 : (({ data := #[79, 70] } : ByteArray) == { data := #[91, 70] }) = false := by kernel_rfl
  have e9 : (({ data := #[79, 70] } : ByteArray) == { data := #[79, 70] }) = true := by kernel_rfl
  have e10 : (({ data := #[79, 70] } : ByteArray) == { data := #[91, 52, 126] }) = false := by kernel_rfl
  have e11 : (({ data := #[79, 70] } : ByteArray) == { data := #[91, 56, 126] }) = false := by kernel_rfl
  have e12 : (({ data := #[79, 70] } : ByteArray) == { data := #[91, 51, 126] }) = false := by kernel_rfl
  have e13 : (({ data := #[79, 70] } : ByteArray) == { data := #[91, 50, 48, 48, 126] }) = false := by kernel_rfl
  have e14 : (({ data := #[79, 70] } : ByteArray) == { data := #[91, 50, 48, 49, 126] }) = false := by kernel_rfl
  go_enter Tryd.func58, Tryd.ntmps58
  go_wp2
  (try simp only [Exit.inBlock, Exit.then])
  refine bodyPost_ret (results_key rfl _ _ w.heap.size 62 #[.int .i64 7, .int .i64 0] _ rfl (Blk.new w _ _) Tryd.underlying62 rfl (by kernel_rfl)) rfl ?_
  exact ⟨rfl, (Below.refl _ _).alloc (Nat.le_refl _) _⟩

theorem key_at10 (w : World) : Calls Tryd.prog 58 #[.string { data := #[91, 52, 126] }] w fun e w' => e = .returned (.agg #[.int .i64 7, .int .i64 0]) ∧ Below w.heap.size w w' := by
  have e0 : (({ data := #[91, 52, 126] } : ByteArray) == { data := #[91, 67] }) = false := by kernel_rfl
  have e1 : (({ data := #[91, 52, 126] } : ByteArray) == { data := #[79, 67] }) = false := by kernel_rfl
  have e2 : (({ data := #[91, 52, 126] } : ByteArray) == { data := #[91, 68] }) = false := by kernel_rfl
  have e3 : (({ data := #[91, 52, 126] } : ByteArray) == { data := #[79, 68] }) = false := by kernel_rfl
  have e4 : (({ data := #[91, 52, 126] } : ByteArray) == { data := #[91, 72] }) = false := by kernel_rfl
  have e5 : (({ data := #[91, 52, 126] } : ByteArray) == { data := #[79, 72] }) = false := by kernel_rfl
  have e6 : (({ data := #[91, 52, 126] } : ByteArray) == { data := #[91, 49, 126] }) = false := by kernel_rfl
  have e7 : (({ data := #[91, 52, 126] } : ByteArray) == { data := #[91, 55, 126] }) = false := by kernel_rfl
  have e8 : (({ data := #[91, 52, 126] } : ByteArray) == { data := #[91, 70] }) = false := by kernel_rfl
  have e9 : (({ data := #[91, 52, 126] } : ByteArray) == { data := #[79, 70] }) = false := by kernel_rfl
  have e10 : (({ data := #[91, 52, 126] } : ByteArray) == { data := #[91, 52, 126] }) = true := by kernel_rfl
  have e11 : (({ data := #[91, 52, 126] } : ByteArray) == { data := #[91, 56, 126] }) = false := by kernel_rfl
  have e12 : (({ data := #[91, 52, 126] } : ByteArray) == { data := #[91, 51, 126] }) = false := by kernel_rfl
  have e13 : (({ data := #[91, 52, 126] } : ByteArray) == { data := #[91, 50, 48, 48, 126] }) = false := by kernel_rfl
  have e14 : (({ data := #[91, 52, 126] } : ByteArray) == { data := #[91, 50, 48, 49, 126] }) = false := by kernel_rfl
  go_enter Tryd.func58, Tryd.ntmps58
  go_wp2
  (try simp only [Exit.inBlock, Exit.then])
  refine bodyPost_ret (results_key rfl _ _ w.heap.size 62 #[.int .i64 7, .int .i64 0] _ rfl (Blk.new w _ _) Tryd.underlying62 rfl (by kernel_rfl)) rfl ?_
  exact ⟨rfl, (Below.refl _ _).alloc (Nat.le_refl _) _⟩

theorem key_at11 (w : World) : Calls Tryd.prog 58 #[.string { data := #[91, 56, 126] }] w fun e w' => e = .returned (.agg #[.int .i64 7, .int .i64 0]) ∧ Below w.heap.size w w' := by
  have e0 : (({ data := #[91, 56, 126] } : ByteArray) == { data := #[91, 67] }) = false := by kernel_rfl
  have e1 : (({ data := #[91, 56, 126] } : ByteArray) == { data := #[79, 67] }) = false := by kernel_rfl
  have e2 : (({ data := #[91, 56, 126] } : ByteArray) == { data := #[91, 68] }) = false := by kernel_rfl
  have e3 : (({ data := #[91, 56, 126] } : ByteArray) == { data := #[79, 68] }) = false := by kernel_rfl
  have e4 : (({ data := #[91, 56, 126] } : ByteArray) == { data := #[91, 72] }) = false := by kernel_rfl
  have e5 : (({ data := #[91, 56, 126] } : ByteArray) == { data := #[79, 72] }) = false := by kernel_rfl
  have e6 : (({ data := #[91, 56, 126] } : ByteArray) == { data := #[91, 49, 126] }) = false := by kernel_rfl
  have e7 : (({ data := #[91, 56, 126] } : ByteArray) == { data := #[91, 55, 126] }) = false := by kernel_rfl
  have e8 : (({ data := #[91, 56, 126] } : ByteArray) == { data := #[91, 70] }) = false := by kernel_rfl
  have e9 : (({ data := #[91, 56, 126] } : ByteArray) == { data := #[79, 70] }) = false := by kernel_rfl
  have e10 : (({ data := #[91, 56, 126] } : ByteArray) == { data := #[91, 52, 126] }) = false := by kernel_rfl
  have e11 : (({ data := #[91, 56, 126] } : ByteArray) == { data := #[91, 56, 126] }) = true := by kernel_rfl
  have e12 : (({ data := #[91, 56, 126] } : ByteArray) == { data := #[91, 51, 126] }) = false := by kernel_rfl
  have e13 : (({ data := #[91, 56, 126] } : ByteArray) == { data := #[91, 50, 48, 48, 126] }) = false := by kernel_rfl
  have e14 : (({ data := #[91, 56, 126] } : ByteArray) == { data := #[91, 50, 48, 49, 126] }) = false := by kernel_rfl
  go_enter Tryd.func58, Tryd.ntmps58
  go_wp2
  (try simp only [Exit.inBlock, Exit.then])
  refine bodyPost_ret (results_key rfl _ _ w.heap.size 62 #[.int .i64 7, .int .i64 0] _ rfl (Blk.new w _ _) Tryd.underlying62 rfl (by kernel_rfl)) rfl ?_
  exact ⟨rfl, (Below.refl _ _).alloc (Nat.le_refl _) _⟩

theorem key_at12 (w : World) : Calls Tryd.prog 58 #[.string { data := #[91, 51, 126] }] w fun e w' => e = .returned (.agg #[.int .i64 3, .int .i64 0]) ∧ Below w.heap.size w w' := by
  have e0 : (({ data := #[91, 51, 126] } : ByteArray) == { data := #[91, 67] }) = false := by kernel_rfl
  have e1 : (({ data := #[91, 51, 126] } : ByteArray) == { data := #[79, 67] }) = false := by kernel_rfl
  have e2 : (({ data := #[91, 51, 126] } : ByteArray) == { data := #[91, 68] }) = false := by kernel_rfl
  have e3 : (({ data := #[91, 51, 126] } : ByteArray) == { data := #[79, 68] }) = false := by kernel_rfl
  have e4 : (({ data := #[91, 51, 126] } : ByteArray) == { data := #[91, 72] }) = false := by kernel_rfl
  have e5 : (({ data := #[91, 51, 126] } : ByteArray) == { data := #[79, 72] }) = false := by kernel_rfl
  have e6 : (({ data := #[91, 51, 126] } : ByteArray) == { data := #[91, 49, 126] }) = false := by kernel_rfl
  have e7 : (({ data := #[91, 51, 126] } : ByteArray) == { data := #[91, 55, 126] }) = false := by kernel_rfl
  have e8 : (({ data := #[91, 51, 126] } : ByteArray) == { data := #[91, 70] }) = false := by kernel_rfl
  have e9 : (({ data := #[91, 51, 126] } : ByteArray) == { data := #[79, 70] }) = false := by kernel_rfl
  have e10 : (({ data := #[91, 51, 126] } : ByteArray) == { data := #[91, 52, 126] }) = false := by kernel_rfl
  have e11 : (({ data := #[91, 51, 126] } : ByteArray) == { data := #[91, 56, 126] }) = false := by kernel_rfl
  have e12 : (({ data := #[91, 51, 126] } : ByteArray) == { data := #[91, 51, 126] }) = true := by kernel_rfl
  have e13 : (({ data := #[91, 51, 126] } : ByteArray) == { data := #[91, 50, 48, 48, 126] }) = false := by kernel_rfl
  have e14 : (({ data := #[91, 51, 126] } : ByteArray) == { data := #[91, 50, 48, 49, 126] }) = false := by kernel_rfl
  go_enter Tryd.func58, Tryd.ntmps58
  go_wp2
  (try simp only [Exit.inBlock, Exit.then])
  refine bodyPost_ret (results_key rfl _ _ w.heap.size 62 #[.int .i64 3, .int .i64 0] _ rfl (Blk.new w _ _) Tryd.underlying62 rfl (by kernel_rfl)) rfl ?_
  exact ⟨rfl, (Below.refl _ _).alloc (Nat.le_refl _) _⟩

theorem key_at13 (w : World) : Calls Tryd.prog 58 #[.string { data := #[91, 50, 48, 48, 126] }] w fun e w' => e = .returned (.agg #[.int .i64 13, .int .i64 0]) ∧ Below w.heap.size w w' := by
  have e0 : (({ data := #[91, 50, 48, 48, 126] } : ByteArray) == { data := #[91, 67] }) = false := by kernel_rfl
  have e1 : (({ data := #[91, 50, 48, 48, 126] } : ByteArray) == { data := #[79, 67] }) = false := by kernel_rfl
  have e2 : (({ data := #[91, 50, 48, 48, 126] } : ByteArray) == { data := #[91, 68] }) = false := by kernel_rfl
  have e3 : (({ data := #[91, 50, 48, 48, 126] } : ByteArray) == { data := #[79, 68] }) = false := by kernel_rfl
  have e4 : (({ data := #[91, 50, 48, 48, 126] } : ByteArray) == { data := #[91, 72] }) = false := by kernel_rfl
  have e5 : (({ data := #[91, 50, 48, 48, 126] } : ByteArray) == { data := #[79, 72] }) = false := by kernel_rfl
  have e6 : (({ data := #[91, 50, 48, 48, 126] } : ByteArray) == { data := #[91, 49, 126] }) = false := by kernel_rfl
  have e7 : (({ data := #[91, 50, 48, 48, 126] } : ByteArray) == { data := #[91, 55, 126] }) = false := by kernel_rfl
  have e8 : (({ data := #[91, 50, 48, 48, 126] } : ByteArray) == { data := #[91, 70] }) = false := by kernel_rfl
  have e9 : (({ data := #[91, 50, 48, 48, 126] } : ByteArray) == { data := #[79, 70] }) = false := by kernel_rfl
  have e10 : (({ data := #[91, 50, 48, 48, 126] } : ByteArray) == { data := #[91, 52, 126] }) = false := by kernel_rfl
  have e11 : (({ data := #[91, 50, 48, 48, 126] } : ByteArray) == { data := #[91, 56, 126] }) = false := by kernel_rfl
  have e12 : (({ data := #[91, 50, 48, 48, 126] } : ByteArray) == { data := #[91, 51, 126] }) = false := by kernel_rfl
  have e13 : (({ data := #[91, 50, 48, 48, 126] } : ByteArray) == { data := #[91, 50, 48, 48, 126] }) = true := by kernel_rfl
  have e14 : (({ data := #[91, 50, 48, 48, 126] } : ByteArray) == { data := #[91, 50, 48, 49, 126] }) = false := by kernel_rfl
  go_enter Tryd.func58, Tryd.ntmps58
  go_wp2
  (try simp only [Exit.inBlock, Exit.then])
  refine bodyPost_ret (results_key rfl _ _ w.heap.size 62 #[.int .i64 13, .int .i64 0] _ rfl (Blk.new w _ _) Tryd.underlying62 rfl (by kernel_rfl)) rfl ?_
  exact ⟨rfl, (Below.refl _ _).alloc (Nat.le_refl _) _⟩

theorem key_at14 (w : World) : Calls Tryd.prog 58 #[.string { data := #[91, 50, 48, 49, 126] }] w fun e w' => e = .returned (.agg #[.int .i64 14, .int .i64 0]) ∧ Below w.heap.size w w' := by
  have e0 : (({ data := #[91, 50, 48, 49, 126] } : ByteArray) == { data := #[91, 67] }) = false := by kernel_rfl
  have e1 : (({ data := #[91, 50, 48, 49, 126] } : ByteArray) == { data := #[79, 67] }) = false := by kernel_rfl
  have e2 : (({ data := #[91, 50, 48, 49, 126] } : ByteArray) == { data := #[91, 68] }) = false := by kernel_rfl
  have e3 : (({ data := #[91, 50, 48, 49, 126] } : ByteArray) == { data := #[79, 68] }) = false := by kernel_rfl
  have e4 : (({ data := #[91, 50, 48, 49, 126] } : ByteArray) == { data := #[91, 72] }) = false := by kernel_rfl
  have e5 : (({ data := #[91, 50, 48, 49, 126] } : ByteArray) == { data := #[79, 72] }) = false := by kernel_rfl
  have e6 : (({ data := #[91, 50, 48, 49, 126] } : ByteArray) == { data := #[91, 49, 126] }) = false := by kernel_rfl
  have e7 : (({ data := #[91, 50, 48, 49, 126] } : ByteArray) == { data := #[91, 55, 126] }) = false := by kernel_rfl
  have e8 : (({ data := #[91, 50, 48, 49, 126] } : ByteArray) == { data := #[91, 70] }) = false := by kernel_rfl
  have e9 : (({ data := #[91, 50, 48, 49, 126] } : ByteArray) == { data := #[79, 70] }) = false := by kernel_rfl
  have e10 : (({ data := #[91, 50, 48, 49, 126] } : ByteArray) == { data := #[91, 52, 126] }) = false := by kernel_rfl
  have e11 : (({ data := #[91, 50, 48, 49, 126] } : ByteArray) == { data := #[91, 56, 126] }) = false := by kernel_rfl
  have e12 : (({ data := #[91, 50, 48, 49, 126] } : ByteArray) == { data := #[91, 51, 126] }) = false := by kernel_rfl
  have e13 : (({ data := #[91, 50, 48, 49, 126] } : ByteArray) == { data := #[91, 50, 48, 48, 126] }) = false := by kernel_rfl
  have e14 : (({ data := #[91, 50, 48, 49, 126] } : ByteArray) == { data := #[91, 50, 48, 49, 126] }) = true := by kernel_rfl
  go_enter Tryd.func58, Tryd.ntmps58
  go_wp2
  (try simp only [Exit.inBlock, Exit.then])
  refine bodyPost_ret (results_key rfl _ _ w.heap.size 62 #[.int .i64 14, .int .i64 0] _ rfl (Blk.new w _ _) Tryd.underlying62 rfl (by kernel_rfl)) rfl ?_
  exact ⟨rfl, (Below.refl _ _).alloc (Nat.le_refl _) _⟩

set_option maxHeartbeats 4000000 in
theorem key_else (s : List UInt8) (w : World) (h0 : s ≠ [91, 67]) (h1 : s ≠ [79, 67]) (h2 : s ≠ [91, 68]) (h3 : s ≠ [79, 68]) (h4 : s ≠ [91, 72]) (h5 : s ≠ [79, 72]) (h6 : s ≠ [91, 49, 126]) (h7 : s ≠ [91, 55, 126]) (h8 : s ≠ [91, 70]) (h9 : s ≠ [79, 70]) (h10 : s ≠ [91, 52, 126]) (h11 : s ≠ [91, 56, 126]) (h12 : s ≠ [91, 51, 126]) (h13 : s ≠ [91, 50, 48, 48, 126]) (h14 : s ≠ [91, 50, 48, 49, 126]) : Calls Tryd.prog 58 #[.string (strOf s)] w fun e w' => e = .returned (.agg #[.int .i64 15, .int .i64 0]) ∧ Below w.heap.size w w' := by
  have e0 : ((strOf s).toList == [91, 67]) = false := by rw [strOf_toList]; simpa using h0
  have e1 : ((strOf s).toList == [79, 67]) = false := by rw [strOf_toList]; simpa using h1
  have e2 : ((strOf s).toList == [91, 68]) = false := by rw [strOf_toList]; simpa using h2
  have e3 : ((strOf s).toList == [79, 68]) = false := by rw [strOf_toList]; simpa using h3
  have e4 : ((strOf s).toList == [91, 72]) = false := by rw [strOf_toList]; simpa using h4
  have e5 : ((strOf s).toList == [79, 72]) = false := by rw [strOf_toList]; simpa using h5
  have e6 : ((strOf s).toList == [91, 49, 126]) = false := by rw [strOf_toList]; simpa using h6
  have e7 : ((strOf s).toList == [91, 55, 126]) = false := by rw [strOf_toList]; simpa using h7
  have e8 : ((strOf s).toList == [91, 70]) = false := by rw [strOf_toList]; simpa using h8
  have e9 : ((strOf s).toList == [79, 70]) = false := by rw [strOf_toList]; simpa using h9
  have e10 : ((strOf s).toList == [91, 52, 126]) = false := by rw [strOf_toList]; simpa using h10
  have e11 : ((strOf s).toList == [91, 56, 126]) = false := by rw [strOf_toList]; simpa using h11
  have e12 : ((strOf s).toList == [91, 51, 126]) = false := by rw [strOf_toList]; simpa using h12
  have e13 : ((strOf s).toList == [91, 50, 48, 48, 126]) = false := by rw [strOf_toList]; simpa using h13
  have e14 : ((strOf s).toList == [91, 50, 48, 49, 126]) = false := by rw [strOf_toList]; simpa using h14
  clear h0 h1 h2 h3 h4 h5 h6 h7 h8 h9 h10 h11 h12 h13 h14
  go_enter Tryd.func58, Tryd.ntmps58
  go_wp2
  (try simp only [Exit.inBlock, Exit.then])
  refine bodyPost_ret (results_key rfl _ _ w.heap.size 62 #[.int .i64 15, .int .i64 0] _ rfl (Blk.new w _ _) Tryd.underlying62 rfl (by kernel_rfl)) rfl ?_
  exact ⟨rfl, (Below.refl _ _).alloc (Nat.le_refl _) _⟩

theorem key_c (s : List UInt8) (w : World) : Calls Tryd.prog 58 #[.string (strOf s)] w fun e w' => e = .returned (.agg #[.int .i64 (refKey s), .int .i64 0]) ∧ Below w.heap.size w w' := by
  by_cases h0 : s = [91, 67]; · subst h0; exact key_at0 w
  by_cases h1 : s = [79, 67]; · subst h1; exact key_at1 w
  by_cases h2 : s = [91, 68]; · subst h2; exact key_at2 w
  by_cases h3 : s = [79, 68]; · subst h3; exact key_at3 w
  by_cases h4 : s = [91, 72]; · subst h4; exact key_at4 w
  by_cases h5 : s = [79, 72]; · subst h5; exact key_at5 w
  by_cases h6 : s = [91, 49, 126]; · subst h6; exact key_at6 w
  by_cases h7 : s = [91, 55, 126]; · subst h7; exact key_at7 w
  by_cases h8 : s = [91, 70]; · subst h8; exact key_at8 w
  by_cases h9 : s = [79, 70]; · subst h9; exact key_at9 w
  by_cases h10 : s = [91, 52, 126]; · subst h10; exact key_at10 w
  by_cases h11 : s = [91, 56, 126]; · subst h11; exact key_at11 w
  by_cases h12 : s = [91, 51, 126]; · subst h12; exact key_at12 w
  by_cases h13 : s = [91, 50, 48, 48, 126]; · subst h13; exact key_at13 w
  by_cases h14 : s = [91, 50, 48, 49, 126]; · subst h14; exact key_at14 w
  have e : refKey s = 15 := by unfold refKey refKeys; simp only [lookT]; rw [if_neg h0, if_neg h1, if_neg h2, if_neg h3, if_neg h4, if_neg h5, if_neg h6, if_neg h7, if_neg h8, if_neg h9, if_neg h10, if_neg h11, if_neg h12, if_neg h13, if_neg h14]; rfl
  rw [e]
  exact key_else s w h0 h1 h2 h3 h4 h5 h6 h7 h8 h9 h10 h11 h12 h13 h14

end Go.Proofs.YtbflcikfaoojmaaDoor.Edit

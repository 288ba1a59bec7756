/- Texts joined: Kd21; Kd22. -/
import Derived.Test.YtbflcikfaoojmaaDoorHKd9
import Derived.Deep.CutBlock
import Derived.Deep.DeepCutAuto
/- The document's key of a sequence: whispererref09.key, Next, walked. -/
set_option linter.unusedVariables false
set_option linter.unusedSimpArgs false
namespace Go.Proofs.YtbflcikfaoojmaaDoor.Edit
open Go.RowKit Go.Lib Go.Shelf ChangeShapes Mem Utf UtfP

/-- the sequences that are keys, without ESC -/
def refKeys : List (List UInt8 × Int) := [([91, 67], 5), ([79, 67], 5), ([91, 68], 4), ([79, 68], 4), ([91, 72], 6), ([79, 72], 6), ([91, 49, 126], 6), ([91, 55, 126], 6), ([91, 70], 7), ([79, 70], 7), ([91, 52, 126], 7), ([91, 56, 126], 7), ([91, 51, 126], 3), ([91, 50, 48, 48, 126], 13), ([91, 50, 48, 49, 126], 14)]
/-- the key of a whole sequence, without ESC -/
def refKey (s : List UInt8) : Int := (lookT refKeys s).getD 15
theorem lookT_map (x : UInt8) (s : List UInt8) : ∀ l : List (List UInt8 × Int), lookT (l.map fun p => (x :: p.1, p.2)) (x :: s) = lookT l s := by
  intro l
  induction l with
  | nil => rfl
  | cons p r ih =>
    obtain ⟨k, v⟩ := p
    simp only [List.map_cons, lookT]
    by_cases h : s = k
    · subst h; simp
    · rw [if_neg (by simpa using h), if_neg h]; exact ih
theorem seqKey_ref (s : List UInt8) : seqKey (27 :: s) = refKey s := by
  have h : seqKeys = refKeys.map fun p => ((27 : UInt8) :: p.1, p.2) := by kernel_rfl
  unfold seqKey refKey
  rw [h, lookT_map]
theorem str_ne {s t : List UInt8} (h : s ≠ t) : (strOf s == strOf t) = false := by
  cases hb : (strOf s == strOf t)
  · rfl
  · rw [MapKept.bytes_beq] at hb
    exact absurd (strOf_inj hb) h

theorem key_at0 (w : World) : Calls Tryd.prog 58 #[.string { data := #[91, 67] }] w fun e w' => e = .returned (.agg #[.int .i64 5, .int .i64 0]) ∧ Below w.heap.size w w' := by
  have e0 : (({ data := #[91, 67] } : ByteArray) == { data := #[91, 67] }) = true := by kernel_rfl
  have e1 : (({ data := #[91, 67] } : ByteArray) == { data := #[79, 67] }) = false := by kernel_rfl
  have e2 : (({ data := #[91, 67] } : ByteArray) == { data := #[91, 68] }) = false := by kernel_rfl
  have e3 : (({ data := #[91, 67] } : ByteArray) == { data := #[79, 68] }) = false := by kernel_rfl
  have e4 : (({ data := #[91, 67] } : ByteArray) == { data := #[91, 72] }) = false := by kernel_rfl
  have e5 : (({ data := #[91, 67] } : ByteArray) == { data := #[79, 72] }) = false := by kernel_rfl
  have e6 : (({ data := #[91, 67] } : ByteArray) == { data := #[91, 49, 126] }) = false := by kernel_rfl
  have e7 : (({ data := #[91, 67] } : ByteArray) == { data := #[91, 55, 126] }) = false := by kernel_rfl
  have e8 : (({ data := #[91, 67] } : ByteArray) == { data := #[91, 70] }) = false := by kernel_rfl
  have e9 : (({ data := #[91, 67] } : ByteArray) == { data := #[79, 70] }) = false := by kernel_rfl
  have e10 : (({ data := #[91, 67] } : ByteArray) == { data := #[91, 52, 126] }) = false := by kernel_rfl
  have e11 : (({ data := #[91, 67] } : ByteArray) == { data := #[91, 56, 126] }) = false := by kernel_rfl
  have e12 : (({ data := #[91, 67] } : ByteArray) == { data := #[91, 51, 126] }) = false := by kernel_rfl
  have e13 : (({ data := #[91, 67] } : ByteArray) == { data := #[91, 50, 48, 48, 126] }) = false := by kernel_rfl
  have e14 : (({ data := #[91, 67] } : ByteArray) == { data := #[91, 50, 48, 49, 126] }) = false := by kernel_rfl
  go_enter Tryd.func58, Tryd.ntmps58
  go_wp2
  (try simp only [Exit.inBlock, Exit.then])
  refine bodyPost_ret (results_key rfl _ _ w.heap.size 62 #[.int .i64 5, .int .i64 0] _ rfl (Blk.new w _ _) Tryd.underlying62 rfl (by kernel_rfl)) rfl ?_
  exact ⟨rfl, (Below.refl _ _).alloc (Nat.le_refl _) _⟩

theorem key_at1 (w : World) : Calls Tryd.prog 58 #[.string { data := #[79, 67] }] w fun e w' => e = .returned (.agg #[.int .i64 5, .int .i64 0]) ∧ Below w.heap.size w w' := by
  have e0 : (({ data := #[79, 67] } : ByteArray) == { data := #[91, 67] }) = false := by kernel_rfl
  have e1 : (({ data := #[79, 67] } : ByteArray) == { data := #[79, 67] }) = true := by kernel_rfl
  have e2 : (({ data := #[79, 67] } : ByteArray) == { data := #[91, 68] }) = false := by kernel_rfl
  have e3 : (({ data := #[79, 67] } : ByteArray) == { data := #[79, 68] }) = false := by kernel_rfl
  have e4 : (({ data := #[79, 67] } : ByteArray) == { data := #[91, 72] }) = false := by kernel_rfl
  have e5 : (({ data := #[79, 67] } : ByteArray) == { data := #[79, 72] }) = false := by kernel_rfl
  have e6 : (({ data := #[79, 67] } : ByteArray) == { data := #[91, 49, 126] }) = false := by kernel_rfl
  have e7 : (({ data := #[79, 67] } : ByteArray) == { data := #[91, 55, 126] }) = false := by kernel_rfl
  have e8 : (({ data := #[79, 67] } : ByteArray) == { data := #[91, 70] }) = false := by kernel_rfl
  have e9 : (({ data := #[79, 67] } : ByteArray) == { data := #[79, 70] }) = false := by kernel_rfl
  have e10 : (({ data := #[79, 67] } : ByteArray) == { data := #[91, 52, 126] }) = false := by kernel_rfl
  have e11 : (({ data := #[79, 67] } : ByteArray) == { data := #[91, 56, 126] }) = false := by kernel_rfl
  have e12 : (({ data := #[79, 67] } : ByteArray) == { data := #[91, 51, 126] }) = false := by kernel_rfl
  have e13 : (({ data := #[79, 67] } : ByteArray) == { data := #[91, 50, 48, 48, 126] }) = false := by kernel_rfl
  have e14 : (({ data := #[79, 67] } : ByteArray) == { data := #[91, 50, 48, 49, 126] }) = false := by kernel_rfl
  go_enter Tryd.func58, Tryd.ntmps58
  go_wp2
  (try simp only [Exit.inBlock, Exit.then])
  refine bodyPost_ret (results_key rfl _ _ w.heap.size 62 #[.int .i64 5, .int .i64 0] _ rfl (Blk.new w _ _) Tryd.underlying62 rfl (by kernel_rfl)) rfl ?_
  exact ⟨rfl, (Below.refl _ _).alloc (Nat.le_refl _) _⟩

theorem key_at2 (w : World) : Calls Tryd.prog 58 #[.string { data := #[91, 68] }] w fun e w' => e = .returned (.agg #[.int .i64 4, .int .i64 0]) ∧ Below w.heap.size w w' := by
  have e0 : (({ data := #[91, 68] } : ByteArray) == { data := #[91, 67] }) = false := by kernel_rfl
  have e1 : (({ data := #[91, 68] } : ByteArray) == { data := #[79, 67] }) = false := by kernel_rfl
  have e2 : (({ data := #[91, 68] } : ByteArray) == { data := #[91, 68] }) = true := by kernel_rfl
  have e3 : (({ data := #[91, 68] } : ByteArray) == { data := #[79, 68] }) = false := by kernel_rfl
  have e4 : (({ data := #[91, 68] } : ByteArray) == { data := #[91, 72] }) = false := by kernel_rfl
  have e5 : (({ data := #[91, 68] } : ByteArray) == { data := #[79, 72] }) = false := by kernel_rfl
  have e6 : (({ data := #[91, 68] } : ByteArray) == { data := #[91, 49, 126] }) = false := by kernel_rfl
  have e7 : (({ data := #[91, 68] } : ByteArray) == { data := #[91, 55, 126] }) = false := by kernel_rfl
  have e8 : (({ data := #[91, 68] } : ByteArray) == { data := #[91, 70] }) = false := by kernel_rfl
  have e9 : (({ data := #[91, 68] } : ByteArray) == { data := #[79, 70] }) = false := by kernel_rfl
  have e10 : (({ data := #[91, 68] } : ByteArray) == { data := #[91, 52, 126] }) = false := by kernel_rfl
  have e11 : (({ data := #[91, 68] } : ByteArray) == { data := #[91, 56, 126] }) = false := by kernel_rfl
  have e12 : (({ data := #[91, 68] } : ByteArray) == { data := #[91, 51, 126] }) = false := by kernel_rfl
  have e13 : (({ data := #[91, 68] } : ByteArray) == { data := #[91, 50, 48, 48, 126] }) = false := by kernel_rfl
  have e14 : (({ data := #[91, 68] } : ByteArray) == { data := #[91, 50, 48, 49, 126] }) = false := by kernel_rfl
  go_enter Tryd.func58, Tryd.ntmps58
  go_wp2
  (try simp only [Exit.inBlock, Exit.then])
  refine bodyPost_ret (results_key rfl _ _ w.heap.size 62 #[.int .i64 4, .int .i64 0] _ rfl (Blk.new w _ _) Tryd.underlying62 rfl (by kernel_rfl)) rfl ?_
  exact ⟨rfl, (Below.refl _ _).alloc (Nat.le_refl _) _⟩

theorem key_at3 (w : World) : Calls Tryd.prog 58 #[.string { data := #[79, 68] }] w fun e w' => e = .returned (.agg #[.int .i64 4, .int .i64 0]) ∧ Below w.heap.size w w' := by
  have e0 : (({ data := #[79, 68] } : ByteArray) == { data := #[91, 67] }) = false := by kernel_rfl
  have e1 : (({ data := #[79, 68] } : ByteArray) == { data := #[79, 67] }) = false := by kernel_rfl
  have e2 : (({ data := #[79, 68] } : ByteArray) == { data := #[91, 68] }) = false := by kernel_rfl
  have e3 : (({ data := #[79, 68] } : ByteArray) == { data := #[79, 68] }) = true := by kernel_rfl
  have e4 : (({ data := #[79, 68] } : ByteArray) == { data := #[91, 72] }) = false := by kernel_rfl
  have e5 : (({ data := #[79, 68] } : ByteArray) == { data := #[79, 72] }) = false := by kernel_rfl
  have e6 : (({ data := #[79, 68] } : ByteArray) == { data := #[91, 49, 126] }) = false := by kernel_rfl
  have e7 : (({ data := #[79, 68] } : ByteArray) == { data := #[91, 55, 126] }) = false := by kernel_rfl
  have e8 : (({ data := #[79, 68] } : ByteArray) == { data := #[91, 70] }) = false := by kernel_rfl
  have e9 : (({ data := #[79, 68] } : ByteArray) == { data := #[79, 70] }) = false := by kernel_rfl
  have e10 : (({ data := #[79, 68] } : ByteArray) == { data := #[91, 52, 126] }) = false := by kernel_rfl
  have e11 : (({ data := #[79, 68] } : ByteArray) == { data := #[91, 56, 126] }) = false := by kernel_rfl
  have e12 : (({ data := #[79, 68] } : ByteArray) == { data := #[91, 51, 126] }) = false := by kernel_rfl
  have e13 : (({ data := #[79, 68] } : ByteArray) == { data := #[91, 50, 48, 48, 126] }) = false := by kernel_rfl
  have e14 : (({ data := #[79, 68] } : ByteArray) == { data := #[91, 50, 48, 49, 126] }) = false := by kernel_rfl
  go_enter Tryd.func58, Tryd.ntmps58
  go_wp2
  (try simp only [Exit.inBlock, Exit.then])
  refine bodyPost_ret (results_key rfl _ _ w.heap.size 62 #[.int .i64 4, .int .i64 0] _ rfl (Blk.new w _ _) Tryd.underlying62 rfl (by kernel_rfl)) rfl ?_
  exact ⟨rfl, (Below.refl _ _).alloc (Nat.le_refl _) _⟩

theorem key_at4 (w : World) : Calls Tryd.prog 58 #[.string { data := #[91, 72] }] w fun e w' => e = .returned (.agg #[.int .i64 6, .int .i64 0]) ∧ Below w.heap.size w w' := by
  have e0 : (({ data := #[91, 72] } : ByteArray) == { data := #[91, 67] }) = false := by kernel_rfl
  have e1 : (({ data := #[91, 72] } : ByteArray) == { data := #[79, 67] }) = false := by kernel_rfl
  have e2 : (({ data := #[91, 72] } : ByteArray) == { data := #[91, 68] }) = false := by kernel_rfl
  have e3 : (({ data := #[91, 72] } : ByteArray) == { data := #[79, 68] }) = false := by kernel_rfl
  have e4 : (({ data := #[91, 72] } : ByteArray) == { data := #[91, 72] }) = true := by kernel_rfl
  have e5 : (({ data := #[91, 72] } : ByteArray) == { data := #[79, 72] }) = false := by kernel_rfl
  have e6 : (({ data := #[91, 72] } : ByteArray) == { data := #[91, 49, 126] }) = false := by kernel_rfl
  have e7 : (({ data := #[91, 72] } : ByteArray) == { data := #[91, 55, 126] }) = false := by kernel_rfl
  have e8 : (({ data := #[91, 72] } : ByteArray) == { data := #[91, 70] }) = false := by kernel_rfl
  have e9 : (({ data := #[91, 72] } : ByteArray) == { data := #[79, 70] }) = false := by kernel_rfl
  have e10 : (({ data := #[91, 72] } : ByteArray) == { data := #[91, 52, 126] }) = false := by kernel_rfl
  have e11 : (({ data := #[91, 72] } : ByteArray) == { data := #[91, 56, 126] }) = false := by kernel_rfl
  have e12 : (({ data := #[91, 72] } : ByteArray) == { data := #[91, 51, 126] }) = false := by kernel_rfl
  have e13 : (({ data := #[91, 72] } : ByteArray) == { data := #[91, 50, 48, 48, 126] }) = false := by kernel_rfl
  have e14 : (({ data := #[91, 72] } : ByteArray) == { data := #[91, 50, 48, 49, 126] }) = false := by kernel_rfl
  go_enter Tryd.func58, Tryd.ntmps58
  go_wp2
  (try simp only [Exit.inBlock, Exit.then])
  refine bodyPost_ret (results_key rfl _ _ w.heap.size 62 #[.int .i64 6, .int .i64 0] _ rfl (Blk.new w _ _) Tryd.underlying62 rfl (by kernel_rfl)) rfl ?_
  exact ⟨rfl, (Below.refl _ _).alloc (Nat.le_refl _) _⟩

theorem key_at5 (w : World) : Calls Tryd.prog 58 #[.string { data := #[79, 72] }] w fun e w' => e = .returned (.agg #[.int .i64 6, .int .i64 0]) ∧ Below w.heap.size w w' := by
  have e0 : (({ data := #[79, 72] } : ByteArray) == { data := #[91, 67] }) = false := by kernel_rfl
  have e1 : (({ data := #[79, 72] } : ByteArray) == { data := #[79, 67] }) = false := by kernel_rfl
  have e2 : (({ data := #[79, 72] } : ByteArray) == { data := #[91, 68] }) = false := by kernel_rfl
  have e3 : (({ data := #[79, 72] } : ByteArray) == { data := #[79, 68] }) = false := by kernel_rfl
  have e4 : (({ data := #[79, 72] } : ByteArray) == { data := #[91, 72] }) = false := by kernel_rfl
  have e5 : (({ data := #[79, 72] } : ByteArray) == { data := #[79, 72] }) = true := by kernel_rfl
  have e6 : (({ data := #[79, 72] } : ByteArray) == { data := #[91, 49, 126] }) = false := by kernel_rfl
  have e7 : (({ data := #[79, 72] } : ByteArray) == { data := #[91, 55, 126] }) = false := by kernel_rfl
  have e8 : (({ data := #[79, 72] } : ByteArray) == { data := #[91, 70] }) = false := by kernel_rfl
  have e9 : (({ data := #[79, 72] } : ByteArray) == { data := #[79, 70] }) = false := by kernel_rfl
  have e10 : (({ data := #[79, 72] } : ByteArray) == { data := #[91, 52, 126] }) = false := by kernel_rfl
  have e11 : (({ data := #[79, 72] } : ByteArray) == { data := #[91, 56, 126] }) = false := by kernel_rfl
  have e12 : (({ data := #[79, 72] } : ByteArray) == { data := #[91, 51, 126] }) = false := by kernel_rfl
  have e13 : (({ data := #[79, 72] } : ByteArray) == { data := #[91, 50, 48, 48, 126] }) = false := by kernel_rfl
  have e14 : (({ data := #[79, 72] } : ByteArray) == { data := #[91, 50, 48, 49, 126] }) = false := by kernel_rfl
  go_enter Tryd.func58, Tryd.ntmps58
  go_wp2
  (try simp only [Exit.inBlock, Exit.then])
  refine bodyPost_ret (results_key rfl _ _ w.heap.size 62 #[.int .i64 6, .int .i64 0] _ rfl (Blk.new w _ _) Tryd.underlying62 rfl (by kernel_rfl)) rfl ?_
  exact ⟨rfl, (Below.refl _ _).alloc (Nat.le_refl _) _⟩

theorem key_at6 (w : World) : Calls Tryd.prog 58 #[.string { data := #[91, 49, 126] }] w fun e w' => e = .returned (.agg #[.int .i64 6, .int .i64 0]) ∧ Below w.heap.size w w' := by
  have e0 : (({ data := #[91, 49, 126] } : ByteArray) == { data := #[91, 67] }) = false := by kernel_rfl
  have e1 : (({ data := #[91, 49, 126] } : ByteArray) == { data := #[79, 67] }) = false := by kernel_rfl
  have e2 : (({ data := #[91, 49, 126] } : ByteArray) == { data := #[91, 68] }) = false := by kernel_rfl
  have e3 : (({ data := #[91, 49, 126] } : ByteArray) == { data := #[79, 68] }) = false := by kernel_rfl
  have e4 : (({ data := #[91, 49, 126] } : ByteArray) == { data := #[91, 72] }) = false := by kernel_rfl
  have e5 : (({ data := #[91, 49, 126] } : ByteArray) == { data := #[79, 72] }) = false := by kernel_rfl
  have e6 : (({ data := #[91, 49, 126] } : ByteArray) == { data := #[91, 49, 126] }) = true := by kernel_rfl
  have e7 : (({ data := #[91, 49, 126] } : ByteArray) == { data := #[91, 55, 126] }) = false := by kernel_rfl
  have e8 : (({ data := #[91, 49, 126] } : ByteArray) == { data := #[91, 70] }) = false := by kernel_rfl
  have e9 : (({ data := #[91, 49, 126] } : ByteArray) == { data := #[79, 70] }) = false := by kernel_rfl
  have e10 : (({ data := #[91, 49, 126] } : ByteArray) == { data := #[91, 52, 126] }) = false := by kernel_rfl
  have e11 : (({ data := #[91, 49, 126] } : ByteArray) == { data := #[91, 56, 126] }) = false := by kernel_rfl
  have e12 : (({ data := #[91, 49, 126] } : ByteArray) == { data := #[91, 51, 126] }) = false := by kernel_rfl
  have e13 : (({ data := #[91, 49, 126] } : ByteArray) == { data := #[91, 50, 48, 48, 126] }) = false := by kernel_rfl
  have e14 : (({ data := #[91, 49, 126] } : ByteArray) == { data := #[91, 50, 48, 49, 126] }) = false := by kernel_rfl
  go_enter Tryd.func58, Tryd.ntmps58
  go_wp2
  (try simp only [Exit.inBlock, Exit.then])
  refine bodyPost_ret (results_key rfl _ _ w.heap.size 62 #[.int .i64 6, .int .i64 0] _ rfl (Blk.new w _ _) Tryd.underlying62 rfl (by kernel_rfl)) rfl ?_
  exact ⟨rfl, (Below.refl _ _).alloc (Nat.le_refl _) _⟩

theorem key_at7 (w : World) : Calls Tryd.prog 58 #[.string { data := #[91, 55, 126] }] w fun e w' => e = .returned (.agg #[.int .i64 6, .int .i64 0]) ∧ Below w.heap.size w w' := by
  have e0 : (({ data := #[91, 55, 126] } : ByteArray) == { data := #[91, 67] }) = false := by kernel_rfl
  have e1 : (({ data := #[91, 55, 126] } : ByteArray) == { data := #[79, 67] }) = false := by kernel_rfl
  have e2 : (({ data := #[91, 55, 126] } : ByteArray) == { data := #[91, 68] }) = false := by kernel_rfl
  have e3 : (({ data := #[91, 55, 126] } : ByteArray) == { data := #[79, 68] }) = false := by kernel_rfl
  have e4 : (({ data := #[91, 55, 126] } : ByteArray) == { data := #[91, 72] }) = false := by kernel_rfl
  have e5 : (({ data := #[91, 55, 126] } : ByteArray) == { data := #[79, 72] }) = false := by kernel_rfl
  have e6 : (({ data := #[91, 55, 126] } : ByteArray) == { data := #[91, 49, 126] }) = false := by kernel_rfl
  have e7 : (({ data := #[91, 55, 126] } : ByteArray) == { data := #[91, 55, 126] }) = true := by kernel_rfl
  have e8 : (({ data := #[91, 55, 126] } : ByteArray) == { data := #[91, 70] }) = false := by kernel_rfl
  have e9 : (({ data := #[91, 55, 126] } : ByteArray) == { data := #[79, 70] }) = false := by kernel_rfl
  have e10 : (({ data := #[91, 55, 126] } : ByteArray) == { data := #[91, 52, 126] }) = false := by kernel_rfl
  have e11 : (({ data := #[91, 55, 126] } : ByteArray) == { data := #[91, 56, 126] }) = false := by kernel_rfl
  have e12 : (({ data := #[91, 55, 126] } : ByteArray) == { data := #[91, 51, 126] }) = false := by kernel_rfl
  have e13 : (({ data := #[91, 55, 126] } : ByteArray) == { data := #[91, 50, 48, 48, 126] }) = false := by kernel_rfl
  have e14 : (({ data := #[91, 55, 126] } : ByteArray) == { data := #[91, 50, 48, 49, 126] }) = false := by kernel_rfl
  go_enter Tryd.func58, Tryd.ntmps58
  go_wp2
  (try simp only [Exit.inBlock, Exit.then])
  refine bodyPost_ret (results_key rfl _ _ w.heap.size 62 #[.int .i64 6, .int .i64 0] _ rfl (Blk.new w _ _) Tryd.underlying62 rfl (by kernel_rfl)) rfl ?_
  exact ⟨rfl, (Below.refl _ _).alloc (Nat.le_refl _) _⟩

theorem key_at8 (w : World) : Calls Tryd.prog 58 #[.string { data := #[91, 70] }] w fun e w' => e = .returned (.agg #[.int .i64 7, .int .i64 0]) ∧ Below w.heap.size w w' := by
  have e0 : (({ data := #[91, 70] } : ByteArray) == { data := #[91, 67] }) = false := by kernel_rfl
  have e1 : (({ data := #[91, 70] } : ByteArray) == { data := #[79, 67] }) = false := by kernel_rfl
  have e2 : (({ data := #[91, 70] } : ByteArray) == { data := #[91, 68] }) = false := by kernel_rfl
  have e3 : (({ data := #[91, 70] } : ByteArray) == { data := #[79, 68] }) = false := by kernel_rfl
  have e4 : (({ data := #[91, 70] } : ByteArray) == { data := #[91, 72] }) = false := by kernel_rfl
  have e5 : (({ data := #[91, 70] } : ByteArray) == { data := #[79, 72] }) = false := by kernel_rfl
  have e6 : (({ data := #[91, 70] } : ByteArray) == { data := #[91, 49, 126] }) = false := by kernel_rfl
  have e7 : (({ data := #[91, 70] } : ByteArray) == { data := #[91, 55, 126] }) = false := by kernel_rfl
  have e8 : (({ data := #[91, 70] } : ByteArray) == { data := #[91, 70] }) = true := by kernel_rfl
  have e9 : (({ data := #[91, 70] } : ByteArray) == { data := #[79, 70] }) = false := by kernel_rfl
  have e10 : (({ data := #[91, 70] } : ByteArray) == { data := #[91, 52, 126] }) = false := by kernel_rfl
  have e11 : (({ data := #[91, 70] } : ByteArray) == { data := #[91, 56, 126] }) = false := by kernel_rfl
  have e12 : (({ data := #[91, 70] } : ByteArray) == { data := #[91, 51, 126] }) = false := by kernel_rfl
  have e13 : (({ data := #[91, 70] } : ByteArray) == { data := #[91, 50, 48, 48, 126] }) = false := by kernel_rfl
  have e14 : (({ data := #[91, 70] } : ByteArray) == { data := #[91, 50, 48, 49, 126] }) = false := by kernel_rfl
  go_enter Tryd.func58, Tryd.ntmps58
  go_wp2
  (try simp only [Exit.inBlock, Exit.then])
  refine bodyPost_ret (results_key rfl _ _ w.heap.size 62 #[.int .i64 7, .int .i64 0] _ rfl (Blk.new w _ _) Tryd.underlying62 rfl (by kernel_rfl)) rfl ?_
  exact ⟨rfl, (Below.refl _ _).alloc (Nat.le_refl _) _⟩

theorem key_at9 (w : World) : Calls Tryd.prog 58 #[.string { data := #[79, 70] }] w fun e w' => e = .returned (.agg #[.int .i64 7, .int .i64 0]) ∧ Below w.heap.size w w' := by
  have e0 : (({ data := #[79, 70] } : ByteArray) == { data := #[91, 67] }) = false := by kernel_rfl
  have e1 : (({ data := #[79, 70] } : ByteArray) == { data := #[79, 67] }) = false := by kernel_rfl
  have e2 : (({ data := #[79, 70] } : ByteArray) == { data := #[91, 68] }) = false := by kernel_rfl
  have e3 : (({ data := #[79, 70] } : ByteArray) == { data := #[79, 68] }) = false := by kernel_rfl
  have e4 : (({ data := #[79, 70] } : ByteArray) == { data := #[91, 72] }) = false := by kernel_rfl
  have e5 : (({ data := #[79, 70] } : ByteArray) == { data := #[79, 72] }) = false := by kernel_rfl
  have e6 : (({ data := #[79, 70] } : ByteArray) == { data := #[91, 49, 126] }) = false := by kernel_rfl
  have e7 : (({ data := #[79, 70] } : ByteArray) == { data := #[91, 55, 126] }) = false := by kernel_rfl
  have e8 : (({ data := #[79, 70] } : ByteArray) == { data := #[91, 70] }) = false := by kernel_rfl
  have e9 : (({ data := #[79, 70] } : ByteArray) == { data := #[79, 70] }) = true := by kernel_rfl
  have e10 : (({ data := #[79, 70] } : ByteArray) == { data := #[91, 52, 126] }) = false := by kernel_rfl
  have e11 : (({ data := #[79, 70] } : ByteArray) == { data := #[91, 56, 126] }) = false := by kernel_rfl
  have e12 : (({ data := #[79, 70] } : ByteArray) == { data := #[91, 51, 126] }) = false := by kernel_rfl
  have e13 : (({ data := #[79, 70] } : ByteArray) == { data := #[91, 50, 48, 48, 126] }) = false := by kernel_rfl
  have e14 : (({ data := #[79, 70] } : ByteArray) == { data := #[91, 50, 48, 49, 126] }) = false := by kernel_rfl
  go_enter Tryd.func58, Tryd.ntmps58
  go_wp2
  (try simp only [Exit.inBlock, Exit.then])
  refine bodyPost_ret (results_key rfl _ _ w.heap.size 62 #[.int .i64 7, .int .i64 0] _ rfl (Blk.new w _ _) Tryd.underlying62 rfl (by kernel_rfl)) rfl ?_
  exact ⟨rfl, (Below.refl _ _).alloc (Nat.le_refl _) _⟩

theorem key_at10 (w : World) : Calls Tryd.prog 58 #[.string { data := #[91, 52, 126] }] w fun e w' => e = .returned (.agg #[.int .i64 7, .int .i64 0]) ∧ Below w.heap.size w w' := by
  have e0 : (({ data := #[91, 52, 126] } : ByteArray) == { data := #[91, 67] }) = false := by kernel_rfl
  have e1 : (({ data := #[91, 52, 126] } : ByteArray) == { data := #[79, 67] }) = false := by kernel_rfl
  have e2 : (({ data := #[91, 52, 126] } : ByteArray) == { data := #[91, 68] }) = false := by kernel_rfl
  have e3 : (({ data := #[91, 52, 126] } : ByteArray) == { data := #[79, 68] }) = false := by kernel_rfl
  have e4 : (({ data := #[91, 52, 126] } : ByteArray) == { data := #[91, 72] }) = false := by kernel_rfl
  have e5 : (({ data := #[91, 52, 126] } : ByteArray) == { data := #[79, 72] }) = false := by kernel_rfl
  have e6 : (({ data := #[91, 52, 126] } : ByteArray) == { data := #[91, 49, 126] }) = false := by kernel_rfl
  have e7 : (({ data := #[91, 52, 126] } : ByteArray) == { data := #[91, 55, 126] }) = false := by kernel_rfl
  have e8 : (({ data := #[91, 52, 126] } : ByteArray) == { data := #[91, 70] }) = false := by kernel_rfl
  have e9 : (({ data := #[91, 52, 126] } : ByteArray) == { data := #[79, 70] }) = false := by kernel_rfl
  have e10 : (({ data := #[91, 52, 126] } : ByteArray) == { data := #[91, 52, 126] }) = true := by kernel_rfl
  have e11 : (({ data := #[91, 52, 126] } : ByteArray) == { data := #[91, 56, 126] }) = false := by kernel_rfl
  have e12 : (({ data := #[91, 52, 126] } : ByteArray) == { data := #[91, 51, 126] }) = false := by kernel_rfl
  have e13 : (({ data := #[91, 52, 126] } : ByteArray) == { data := #[91, 50, 48, 48, 126] }) = false := by kernel_rfl
  have e14 : (({ data := #[91, 52, 126] } : ByteArray) == { data := #[91, 50, 48, 49, 126] }) = false := by kernel_rfl
  go_enter Tryd.func58, Tryd.ntmps58
  go_wp2
  (try simp only [Exit.inBlock, Exit.then])
  refine bodyPost_ret (results_key rfl _ _ w.heap.size 62 #[.int .i64 7, .int .i64 0] _ rfl (Blk.new w _ _) Tryd.underlying62 rfl (by kernel_rfl)) rfl ?_
  exact ⟨rfl, (Below.refl _ _).alloc (Nat.le_refl _) _⟩

theorem key_at11 (w : World) : Calls Tryd.prog 58 #[.string { data := #[91, 56, 126] }] w fun e w' => e = .returned (.agg #[.int .i64 7, .int .i64 0]) ∧ Below w.heap.size w w' := by
  have e0 : (({ data := #[91, 56, 126] } : ByteArray) == { data := #[91, 67] }) = false := by kernel_rfl
  have e1 : (({ data := #[91, 56, 126] } : ByteArray) == { data := #[79, 67] }) = false := by kernel_rfl
  have e2 : (({ data := #[91, 56, 126] } : ByteArray) == { data := #[91, 68] }) = false := by kernel_rfl
  have e3 : (({ data := #[91, 56, 126] } : ByteArray) == { data := #[79, 68] }) = false := by kernel_rfl
  have e4 : (({ data := #[91, 56, 126] } : ByteArray) == { data := #[91, 72] }) = false := by kernel_rfl
  have e5 : (({ data := #[91, 56, 126] } : ByteArray) == { data := #[79, 72] }) = false := by kernel_rfl
  have e6 : (({ data := #[91, 56, 126] } : ByteArray) == { data := #[91, 49, 126] }) = false := by kernel_rfl
  have e7 : (({ data := #[91, 56, 126] } : ByteArray) == { data := #[91, 55, 126] }) = false := by kernel_rfl
  have e8 : (({ data := #[91, 56, 126] } : ByteArray) == { data := #[91, 70] }) = false := by kernel_rfl
  have e9 : (({ data := #[91, 56, 126] } : ByteArray) == { data := #[79, 70] }) = false := by kernel_rfl
  have e10 : (({ data := #[91, 56, 126] } : ByteArray) == { data := #[91, 52, 126] }) = false := by kernel_rfl
  have e11 : (({ data := #[91, 56, 126] } : ByteArray) == { data := #[91, 56, 126] }) = true := by kernel_rfl
  have e12 : (({ data := #[91, 56, 126] } : ByteArray) == { data := #[91, 51, 126] }) = false := by kernel_rfl
  have e13 : (({ data := #[91, 56, 126] } : ByteArray) == { data := #[91, 50, 48, 48, 126] }) = false := by kernel_rfl
  have e14 : (({ data := #[91, 56, 126] } : ByteArray) == { data := #[91, 50, 48, 49, 126] }) = false := by kernel_rfl
  go_enter Tryd.func58, Tryd.ntmps58
  go_wp2
  (try simp only [Exit.inBlock, Exit.then])
  refine bodyPost_ret (results_key rfl _ _ w.heap.size 62 #[.int .i64 7, .int .i64 0] _ rfl (Blk.new w _ _) Tryd.underlying62 rfl (by kernel_rfl)) rfl ?_
  exact ⟨rfl, (Below.refl _ _).alloc (Nat.le_refl _) _⟩

theorem key_at12 (w : World) : Calls Tryd.prog 58 #[.string { data := #[91, 51, 126] }] w fun e w' => e = .returned (.agg #[.int .i64 3, .int .i64 0]) ∧ Below w.heap.size w w' := by
  have e0 : (({ data := #[91, 51, 126] } : ByteArray) == { data := #[91, 67] }) = false := by kernel_rfl
  have e1 : (({ data := #[91, 51, 126] } : ByteArray) == { data := #[79, 67] }) = false := by kernel_rfl
  have e2 : (({ data := #[91, 51, 126] } : ByteArray) == { data := #[91, 68] }) = false := by kernel_rfl
  have e3 : (({ data := #[91, 51, 126] } : ByteArray) == { data := #[79, 68] }) = false := by kernel_rfl
  have e4 : (({ data := #[91, 51, 126] } : ByteArray) == { data := #[91, 72] }) = false := by kernel_rfl
  have e5 : (({ data := #[91, 51, 126] } : ByteArray) == { data := #[79, 72] }) = false := by kernel_rfl
  have e6 : (({ data := #[91, 51, 126] } : ByteArray) == { data := #[91, 49, 126] }) = false := by kernel_rfl
  have e7 : (({ data := #[91, 51, 126] } : ByteArray) == { data := #[91, 55, 126] }) = false := by kernel_rfl
  have e8 : (({ data := #[91, 51, 126] } : ByteArray) == { data := #[91, 70] }) = false := by kernel_rfl
  have e9 : (({ data := #[91, 51, 126] } : ByteArray) == { data := #[79, 70] }) = false := by kernel_rfl
  have e10 : (({ data := #[91, 51, 126] } : ByteArray) == { data := #[91, 52, 126] }) = false := by kernel_rfl
  have e11 : (({ data := #[91, 51, 126] } : ByteArray) == { data := #[91, 56, 126] }) = false := by kernel_rfl
  have e12 : (({ data := #[91, 51, 126] } : ByteArray) == { data := #[91, 51, 126] }) = true := by kernel_rfl
  have e13 : (({ data := #[91, 51, 126] } : ByteArray) == { data := #[91, 50, 48, 48, 126] }) = false := by kernel_rfl
  have e14 : (({ data := #[91, 51, 126] } : ByteArray) == { data := #[91, 50, 48, 49, 126] }) = false := by kernel_rfl
  go_enter Tryd.func58, Tryd.ntmps58
  go_wp2
  (try simp only [Exit.inBlock, Exit.then])
  refine bodyPost_ret (results_key rfl _ _ w.heap.size 62 #[.int .i64 3, .int .i64 0] _ rfl (Blk.new w _ _) Tryd.underlying62 rfl (by kernel_rfl)) rfl ?_
  exact ⟨rfl, (Below.refl _ _).alloc (Nat.le_refl _) _⟩

theorem key_at13 (w : World) : Calls Tryd.prog 58 #[.string { data := #[91, 50, 48, 48, 126] }] w fun e w' => e = .returned (.agg #[.int .i64 13, .int .i64 0]) ∧ Below w.heap.size w w' := by
  have e0 : (({ data := #[91, 50, 48, 48, 126] } : ByteArray) == { data := #[91, 67] }) = false := by kernel_rfl
  have e1 : (({ data := #[91, 50, 48, 48, 126] } : ByteArray) == { data := #[79, 67] }) = false := by kernel_rfl
  have e2 : (({ data := #[91, 50, 48, 48, 126] } : ByteArray) == { data := #[91, 68] }) = false := by kernel_rfl
  have e3 : (({ data := #[91, 50, 48, 48, 126] } : ByteArray) == { data := #[79, 68] }) = false := by kernel_rfl
  have e4 : (({ data := #[91, 50, 48, 48, 126] } : ByteArray) == { data := #[91, 72] }) = false := by kernel_rfl
  have e5 : (({ data := #[91, 50, 48, 48, 126] } : ByteArray) == { data := #[79, 72] }) = false := by kernel_rfl
  have e6 : (({ data := #[91, 50, 48, 48, 126] } : ByteArray) == { data := #[91, 49, 126] }) = false := by kernel_rfl
  have e7 : (({ data := #[91, 50, 48, 48, 126] } : ByteArray) == { data := #[91, 55, 126] }) = false := by kernel_rfl
  have e8 : (({ data := #[91, 50, 48, 48, 126] } : ByteArray) == { data := #[91, 70] }) = false := by kernel_rfl
  have e9 : (({ data := #[91, 50, 48, 48, 126] } : ByteArray) == { data := #[79, 70] }) = false := by kernel_rfl
  have e10 : (({ data := #[91, 50, 48, 48, 126] } : ByteArray) == { data := #[91, 52, 126] }) = false := by kernel_rfl
  have e11 : (({ data := #[91, 50, 48, 48, 126] } : ByteArray) == { data := #[91, 56, 126] }) = false := by kernel_rfl
  have e12 : (({ data := #[91, 50, 48, 48, 126] } : ByteArray) == { data := #[91, 51, 126] }) = false := by kernel_rfl
  have e13 : (({ data := #[91, 50, 48, 48, 126] } : ByteArray) == { data := #[91, 50, 48, 48, 126] }) = true := by kernel_rfl
  have e14 : (({ data := #[91, 50, 48, 48, 126] } : ByteArray) == { data := #[91, 50, 48, 49, 126] }) = false := by kernel_rfl
  go_enter Tryd.func58, Tryd.ntmps58
  go_wp2
  (try simp only [Exit.inBlock, Exit.then])
  refine bodyPost_ret (results_key rfl _ _ w.heap.size 62 #[.int .i64 13, .int .i64 0] _ rfl (Blk.new w _ _) Tryd.underlying62 rfl (by kernel_rfl)) rfl ?_
  exact ⟨rfl, (Below.refl _ _).alloc (Nat.le_refl _) _⟩

theorem key_at14 (w : World) : Calls Tryd.prog 58 #[.string { data := #[91, 50, 48, 49, 126] }] w fun e w' => e = .returned (.agg #[.int .i64 14, .int .i64 0]) ∧ Below w.heap.size w w' := by
  have e0 : (({ data := #[91, 50, 48, 49, 126] } : ByteArray) == { data := #[91, 67] }) = false := by kernel_rfl
  have e1 : (({ data := #[91, 50, 48, 49, 126] } : ByteArray) == { data := #[79, 67] }) = false := by kernel_rfl
  have e2 : (({ data := #[91, 50, 48, 49, 126] } : ByteArray) == { data := #[91, 68] }) = false := by kernel_rfl
  have e3 : (({ data := #[91, 50, 48, 49, 126] } : ByteArray) == { data := #[79, 68] }) = false := by kernel_rfl
  have e4 : (({ data := #[91, 50, 48, 49, 126] } : ByteArray) == { data := #[91, 72] }) = false := by kernel_rfl
  have e5 : (({ data := #[91, 50, 48, 49, 126] } : ByteArray) == { data := #[79, 72] }) = false := by kernel_rfl
  have e6 : (({ data := #[91, 50, 48, 49, 126] } : ByteArray) == { data := #[91, 49, 126] }) = false := by kernel_rfl
  have e7 : (({ data := #[91, 50, 48, 49, 126] } : ByteArray) == { data := #[91, 55, 126] }) = false := by kernel_rfl
  have e8 : (({ data := #[91, 50, 48, 49, 126] } : ByteArray) == { data := #[91, 70] }) = false := by kernel_rfl
  have e9 : (({ data := #[91, 50, 48, 49, 126] } : ByteArray) == { data := #[79, 70] }) = false := by kernel_rfl
  have e10 : (({ data := #[91, 50, 48, 49, 126] } : ByteArray) == { data := #[91, 52, 126] }) = false := by kernel_rfl
  have e11 : (({ data := #[91, 50, 48, 49, 126] } : ByteArray) == { data := #[91, 56, 126] }) = false := by kernel_rfl
  have e12 : (({ data := #[91, 50, 48, 49, 126] } : ByteArray) == { data := #[91, 51, 126] }) = false := by kernel_rfl
  have e13 : (({ data := #[91, 50, 48, 49, 126] } : ByteArray) == { data := #[91, 50, 48, 48, 126] }) = false := by kernel_rfl
  have e14 : (({ data := #[91, 50, 48, 49, 126] } : ByteArray) == { data := #[91, 50, 48, 49, 126] }) = true := by kernel_rfl
  go_enter Tryd.func58, Tryd.ntmps58
  go_wp2
  (try simp only [Exit.inBlock, Exit.then])
  refine bodyPost_ret (results_key rfl _ _ w.heap.size 62 #[.int .i64 14, .int .i64 0] _ rfl (Blk.new w _ _) Tryd.underlying62 rfl (by kernel_rfl)) rfl ?_
  exact ⟨rfl, (Below.refl _ _).alloc (Nat.le_refl _) _⟩

set_option maxHeartbeats 4000000 in
theorem key_else (s : List UInt8) (w : World) (h0 : s ≠ [91, 67]) (h1 : s ≠ [79, 67]) (h2 : s ≠ [91, 68]) (h3 : s ≠ [79, 68]) (h4 : s ≠ [91, 72]) (h5 : s ≠ [79, 72]) (h6 : s ≠ [91, 49, 126]) (h7 : s ≠ [91, 55, 126]) (h8 : s ≠ [91, 70]) (h9 : s ≠ [79, 70]) (h10 : s ≠ [91, 52, 126]) (h11 : s ≠ [91, 56, 126]) (h12 : s ≠ [91, 51, 126]) (h13 : s ≠ [91, 50, 48, 48, 126]) (h14 : s ≠ [91, 50, 48, 49, 126]) : Calls Tryd.prog 58 #[.string (strOf s)] w fun e w' => e = .returned (.agg #[.int .i64 15, .int .i64 0]) ∧ Below w.heap.size w w' := by
  have e0 : ((strOf s).toList == [91, 67]) = false := by rw [strOf_toList]; simpa using h0
  have e1 : ((strOf s).toList == [79, 67]) = false := by rw [strOf_toList]; simpa using h1
  have e2 : ((strOf s).toList == [91, 68]) = false := by rw [strOf_toList]; simpa using h2
  have e3 : ((strOf s).toList == [79, 68]) = false := by rw [strOf_toList]; simpa using h3
  have e4 : ((strOf s).toList == [91, 72]) = false := by rw [strOf_toList]; simpa using h4
  have e5 : ((strOf s).toList == [79, 72]) = false := by rw [strOf_toList]; simpa using h5
  have e6 : ((strOf s).toList == [91, 49, 126]) = false := by rw [strOf_toList]; simpa using h6
  have e7 : ((strOf s).toList == [91, 55, 126]) = false := by rw [strOf_toList]; simpa using h7
  have e8 : ((strOf s).toList == [91, 70]) = false := by rw [strOf_toList]; simpa using h8
  have e9 : ((strOf s).toList == [79, 70]) = false := by rw [strOf_toList]; simpa using h9
  have e10 : ((strOf s).toList == [91, 52, 126]) = false := by rw [strOf_toList]; simpa using h10
  have e11 : ((strOf s).toList == [91, 56, 126]) = false := by rw [strOf_toList]; simpa using h11
  have e12 : ((strOf s).toList == [91, 51, 126]) = false := by rw [strOf_toList]; simpa using h12
  have e13 : ((strOf s).toList == [91, 50, 48, 48, 126]) = false := by rw [strOf_toList]; simpa using h13
  have e14 : ((strOf s).toList == [91, 50, 48, 49, 126]) = false := by rw [strOf_toList]; simpa using h14
  clear h0 h1 h2 h3 h4 h5 h6 h7 h8 h9 h10 h11 h12 h13 h14
  go_enter Tryd.func58, Tryd.ntmps58
  go_wp2
  (try simp only [Exit.inBlock, Exit.then])
  refine bodyPost_ret (results_key rfl _ _ w.heap.size 62 #[.int .i64 15, .int .i64 0] _ rfl (Blk.new w _ _) Tryd.underlying62 rfl (by kernel_rfl)) rfl ?_
  exact ⟨rfl, (Below.refl _ _).alloc (Nat.le_refl _) _⟩

theorem key_c (s : List UInt8) (w : World) : Calls Tryd.prog 58 #[.string (strOf s)] w fun e w' => e = .returned (.agg #[.int .i64 (refKey s), .int .i64 0]) ∧ Below w.heap.size w w' := by
  by_cases h0 : s = [91, 67]; · subst h0; exact key_at0 w
  by_cases h1 : s = [79, 67]; · subst h1; exact key_at1 w
  by_cases h2 : s = [91, 68]; · subst h2; exact key_at2 w
  by_cases h3 : s = [79, 68]; · subst h3; exact key_at3 w
  by_cases h4 : s = [91, 72]; · subst h4; exact key_at4 w
  by_cases h5 : s = [79, 72]; · subst h5; exact key_at5 w
  by_cases h6 : s = [91, 49, 126]; · subst h6; exact key_at6 w
  by_cases h7 : s = [91, 55, 126]; · subst h7; exact key_at7 w
  by_cases h8 : s = [91, 70]; · subst h8; exact key_at8 w
  by_cases h9 : s = [79, 70]; · subst h9; exact key_at9 w
  by_cases h10 : s = [91, 52, 126]; · subst h10; exact key_at10 w
  by_cases h11 : s = [91, 56, 126]; · subst h11; exact key_at11 w
  by_cases h12 : s = [91, 51, 126]; · subst h12; exact key_at12 w
  by_cases h13 : s = [91, 50, 48, 48, 126]; · subst h13; exact key_at13 w
  by_cases h14 : s = [91, 50, 48, 49, 126]; · subst h14; exact key_at14 w
  have e : refKey s = 15 := by unfold refKey refKeys; simp only [lookT]; rw [if_neg h0, if_neg h1, if_neg h2, if_neg h3, if_neg h4, if_neg h5, if_neg h6, if_neg h7, if_neg h8, if_neg h9, if_neg h10, if_neg h11, if_neg h12, if_neg h13, if_neg h14]; rfl
  rw [e]
  exact key_else s w h0 h1 h2 h3 h4 h5 h6 h7 h8 h9 h10 h11 h12 h13 h14

end Go.Proofs.YtbflcikfaoojmaaDoor.Edit

/- The document's key of a sequence: whispererref09.Next, walked. -/
set_option linter.unusedVariables false
set_option linter.unusedSimpArgs false
namespace Go.Proofs.YtbflcikfaoojmaaDoor.Edit
open Go.RowKit Go.Lib Go.Shelf ChangeShapes Mem Utf UtfP

theorem seqF_flip (l : List UInt8) (n i : Nat) (h : n = 0 ∨ bt l 1 = 79 ∨ 34 ≤ i ∨ ¬ (48 ≤ bt l i ∧ bt l i ≤ 63)) : seqF l n i false = seqF l n i true := by
  cases n with
  | zero => rfl
  | succ n =>
    unfold seqF
    split
    · rfl
    · split
      · rfl
      · rename_i h2
        have hn : ¬ ((48 ≤ bt l i ∧ bt l i ≤ 63) ∧ false = false) := fun h3 => by
          rcases h with h | h | h | h
          · cases h
          · exact h2 (Or.inl h)
          · exact h2 (Or.inr h)
          · exact h h3.1
        have hn2 : ¬ ((48 ≤ bt l i ∧ bt l i ≤ 63) ∧ true = false) := fun h3 => by cases h3.2
        rw [if_neg hn, if_neg hn2]

theorem slice_b2 (B off n cap k : Nat) (x : Int) (hx : x = ((k + 1 : Nat) : Int)) (hk : k + 1 ≤ cap) (hk1 : 1 ≤ k) (w : World) :
    (Instr.slice 47 (.slice (some ⟨B, off, none⟩) n cap) (some (.int .i64 1)) (some (.int .i64 x)) none).run Tryd.prog w = .ok (.slice (some ⟨B, off + 1, none⟩) k (cap - 1)) w := by
  subst hx
  have hj : 0 ≤ (k : Int) + 1 ∧ (k : Int) + 1 ≤ (cap : Int) := ⟨by omega, by omega⟩
  have hj2 : (1 : Int) ≤ (k : Int) + 1 := by omega
  have hs : (sizeOf 5).run Tryd.prog w = .ok 1 w := by kernel_rfl
  have hc1 : ¬ cap = 1 := by omega
  simp [Instr.slice, Instr.sliceBounds, Instr.sliceBound, asIntOf, run_underlying Tryd.underlying47, hj, hj2, hk, hs, hc1, Result.andThen, Addr.add]

theorem take_cons27 {l : List UInt8} (h0 : bt l 0 = 27) (h1 : 0 < l.length) (j : Nat) : l.take (j + 1) = 27 :: (l.drop 1).take j := by
  cases l with
  | nil => simp at h1
  | cons x r =>
    have : x = 27 := by
      have h2 : x.toNat = 27 := h0
      exact UInt8.toNat_inj.1 (by rw [h2]; rfl)
    subst this
    simp

theorem SeqW.bytes1 {w W : World} {B off : Nat} {l : List UInt8} (h : SeqW w W B off l) (n : Nat) : BytesAt W (some ⟨B, off + 1, none⟩) ((l.drop 1).take n) := by
  intro hne
  refine ⟨B, off + 1, rfl, h.lt, fun j hj => ?_⟩
  rw [List.length_take, List.length_drop] at hj
  have e : bt ((l.drop 1).take n) j = bt l (1 + j) := by
    unfold bt
    rw [List.getD_eq_getElem?_getD, List.getD_eq_getElem?_getD, List.getElem?_take_of_lt (by omega), List.getElem?_drop]
  rw [Nat.add_assoc, e]
  exact h.cells (1 + j) (by omega)
theorem SeqW.conv1 {w W : World} {B off : Nat} {l : List UInt8} (h : SeqW w W B off l) {j : Nat} (hj : j < l.length) (cap : Nat) :
    (convert 47 9 (.slice (some ⟨B, off + 1, none⟩) j cap)).run Tryd.prog W = .ok (.string (strOf ((l.drop 1).take j))) W := by
  have := conv_str (cap := cap) (h.bytes1 j)
  rw [List.length_take, List.length_drop, Nat.min_eq_left (by omega)] at this
  exact this

set_option maxRecDepth 100000 in
set_option maxHeartbeats 8000000 in
theorem ref_next (l : List UInt8) (A : Option Addr) (cap : Nat) (w : World) (hA : BytesAt w A l) (hcap : l.length ≤ cap) (hm : l.length ≤ 1000000) :
    Calls Tryd.prog 45 #[.slice A l.length cap] w fun e w' => e = .returned (.tuple #[.agg #[.int .i64 (seqN l).1, .int .i64 0], .int .i64 ((seqN l).2.1 : Int), .int .i64 (seqN l).2.2]) ∧ Below w.heap.size w w' := by
  have hal : ∀ C : Array Value, Below w.heap.size w ((w.alloc (.cells C 62)).alloc (.cells #[.int .i64 15, .int .i64 0] 62)) := fun C => by
    have h1 : Below w.heap.size w (w.alloc (.cells C 62)) := (Below.refl _ _).alloc (Nat.le_refl _) _
    exact h1.alloc h1.size _
  have HALC := Lib.hid hal
  clear hal
  by_cases h0 : l = []
  · subst h0
    have hs : seqN [] = (0, 0, 6) := rfl
    rw [hs]
    clear hA hcap hm
    show Calls _ _ #[.slice A 0 cap] _ _
    go_enter Tryd.func45, Tryd.ntmps45
    go_wp2
    (try simp only [Exit.inBlock, Exit.then])
    refine bodyPost_ret (results_cell3 rfl _ _ w.heap.size 62 #[.int .i64 0, .int .i64 0] _ rfl ((Blk.new w _ _).alloc _) Tryd.underlying62 rfl (by kernel_rfl)) rfl ?_
    exact ⟨rfl, HALC.out _⟩
  · have hpos : 0 < l.length := List.length_pos_iff.2 h0
    obtain ⟨B, off, rfl, hB, hc⟩ := hA h0
    have hsz := hB
    have HC := Lib.hid hc
    have q0 : w.cell? ⟨B, off, none⟩ = _ := hc 0 hpos
    obtain ⟨x, hx⟩ : ∃ x, bt l 0 = x := ⟨_, rfl⟩
    rw [hx] at q0
    have hsN : seqN l = (if x ≠ 27 then (0, 0, 8) else if 1 < l.length ∧ bt l 1 ≠ 91 ∧ bt l 1 ≠ 79 then (15, 1, 0) else seqF l (l.length - 2) 2 false) := by
      unfold seqN; rw [if_neg h0, hx]
    obtain ⟨R, hR⟩ : ∃ R, seqN l = R := ⟨_, rfl⟩
    rw [hR] at hsN ⊢
    have HR := Lib.hid hsN
    have HX := Lib.hid hx
    have k0 : (0 : Int) < (l.length : Int) := by omega
    have kz : ((l.length : Int) == 0) = false := by simp; omega
    clear hc hx hsN hR h0
    by_cases hx : x = 27
    · subst hx
      by_cases hl1 : l.length = 1
      · have HR3 : Hid (R = (0, 1, 7)) := by
          have h1 := HR.out
          rw [if_neg (by simp), if_neg (by omega), show l.length - 2 = 0 by omega] at h1
          rw [h1]
          show (0, l.length, 7) = _
          rw [hl1]
        have kl : ((l.length : Int) == 1) = true := by rw [hl1]; rfl
        clear hl1
        go_enter Tryd.func45, Tryd.ntmps45
        go_wp2
        (try simp only [Exit.inBlock, Exit.then])
        refine bodyPost_ret (results_cell3 rfl _ _ w.heap.size 62 #[.int .i64 0, .int .i64 0] _ rfl ((Blk.new w _ _).alloc _) Tryd.underlying62 rfl (by kernel_rfl)) rfl ?_
        exact ⟨by rw [HR3.out]; rfl, HALC.out _⟩
      · have h1 : 1 < l.length := by omega
        have kl1 : ((l.length : Int) == 1) = false := by simp; omega
        have q1 := HC.out 1 h1
        by_cases hI : bt l 1 ≠ 91 ∧ bt l 1 ≠ 79
        · obtain ⟨hA1, hA2⟩ := hI
          obtain ⟨y, hy⟩ : ∃ y, bt l 1 = y := ⟨_, rfl⟩
          have HR2 : Hid (R = (15, 1, 0)) := by
            have := HR.out
            rw [if_neg (by simp), if_pos ⟨h1, hA1, hA2⟩] at this
            exact this
          rw [hy] at q1 hA1 hA2
          have y1 : ((y : Int) != 91) = true := by rw [bne_iff_ne]; omega
          have y2 : ((y : Int) != 79) = true := by rw [bne_iff_ne]; omega
          have kl : (1 : Int) < (l.length : Int) := by omega
          clear hA1 hA2 hy hl1
          go_enter Tryd.func45, Tryd.ntmps45
          go_wp2
          (try simp only [Exit.inBlock, Exit.then])
          refine bodyPost_ret (results_cell3 rfl _ _ w.heap.size 62 #[.int .i64 15, .int .i64 0] _ rfl ((Blk.new w _ _).alloc _) Tryd.underlying62 rfl (by kernel_rfl)) rfl ?_
          exact ⟨by rw [HR2.out]; rfl, HALC.out _⟩
        · have HS := Lib.hid (SeqW.mk2 hB HC.out)
          obtain ⟨W, hW⟩ : ∃ W, (w.alloc (.cells #[.int .i64 0, .int .i64 0] 62)).alloc (.cells #[.int .i64 15, .int .i64 0] 62) = W := ⟨_, rfl⟩
          rw [hW] at HS
          have HW := Lib.hid hW
          have HR2 : Hid (seqF l (l.length - 2) 2 false = R) := by
            have := HR.out
            rw [if_neg (by simp), if_neg (fun h => hI h.2)] at this
            exact this.symm
          have hyy : bt l 1 = 91 ∨ bt l 1 = 79 := by
            by_cases e : bt l 1 = 91
            · exact Or.inl e
            · by_cases e2 : bt l 1 = 79
              · exact Or.inr e2
              · exact absurd ⟨e, e2⟩ hI
          obtain ⟨y, hy⟩ : ∃ y, bt l 1 = y := ⟨_, rfl⟩
          rw [hy] at q1 hyy
          have kl : (1 : Int) < (l.length : Int) := by omega
          have HY := Lib.hid hy
          clear hI hW hA HR hy hl1
          go_enter Tryd.func45, Tryd.ntmps45
          rcases hyy with rfl | rfl
          · skip
            go_upto_block 0 with fail
            rw [HW.out]
            have hBW := HS.out.lt
            have r0 := HS.out.res.cell (j := 0) (v := .int .i64 0) rfl
            have r1 := HS.out.res.cell (j := 1) (v := .int .i64 0) rfl
            have rf0 := HS.out.res.free 0
            have rf1 := HS.out.res.free 1
            have i0 := HS.out.ign.cell (j := 0) (v := .int .i64 15) rfl
            have i1 := HS.out.ign.cell (j := 1) (v := .int .i64 0) rfl
            have hrl := HS.out.res.lt
            have hil := HS.out.ign.lt
            have q1w : W.cell? ⟨B, off + 1, none⟩ = some (.int .u8 91) := by rw [HS.out.cells 1 h1, HY.out]; rfl
            go_cut [6] from 32 to 61 (fun s6 wx => ∃ j : Nat, s6 = .int .i64 (j : Int) ∧ W = wx ∧ 2 ≤ j ∧ j ≤ l.length ∧ j ≤ 34 ∧ Hid (seqF l (l.length - j) j true = R))
            case first =>
              go_wp2
              go_loopw [6] (fun i wr => ∃ j : Nat, i = .int .i64 (j : Int) ∧ W = wr ∧ 2 ≤ j ∧ j ≤ l.length ∧ j ≤ 34 ∧ Hid (seqF l (l.length - j) j false = R)) (fun i _ => l.length - (RowKit.intOf i).toNat)
              case atStart => exact ⟨2, rfl, rfl, Nat.le_refl _, h1, by decide, HR2⟩
              case round =>
                obtain ⟨j, rfl, hwr, hj2, hjl, hj34, HF⟩ := hrel
                obtain rfl := hwr
                by_cases hlt : j < l.length
                · have k0 : (j : Int) < (l.length : Int) := by omega
                  have qj := HS.out.cells j hlt
                  obtain ⟨c, hc⟩ : ∃ c, bt l j = c := ⟨_, rfl⟩
                  rw [hc] at qj
                  by_cases h34 : j < 34
                  · have k34 : decide ((j : Int) < 34) = true := by simp; omega
                    by_cases h48 : 48 ≤ c ∧ c ≤ 63
                    · have t3 : decide ((48 : Int) ≤ (c : Int)) = true := by simp; omega
                      have t4 : decide ((c : Int) ≤ 63) = true := by simp; omega
                      have hF := HF.out
                      rw [show l.length - j = (l.length - (j + 1)) + 1 by omega] at hF
                      unfold seqF at hF
                      rw [HY.out, hc, if_neg (by omega), if_neg (by omega), if_pos ⟨h48, rfl⟩] at hF
                      have HR3 := Lib.hid hF
                      clear hF hc h48 HF
                      go_wp2
                      go_roundw
                      case rel => exact ⟨j + 1, by go_num, trivial, by omega, by omega, by omega, HR3⟩
                      case measure => simp [RowKit.intOf]; omega
                    · have HT : Hid (seqF l (l.length - j) j true = R) := by rw [← seqF_flip l _ j (Or.inr (Or.inr (Or.inr (by rw [hc]; exact h48))))]; exact HF.out
                      by_cases c48 : 48 ≤ c
                      · have t3 : decide ((48 : Int) ≤ (c : Int)) = true := by simp; omega
                        have t4 : decide ((c : Int) ≤ 63) = false := by simp; omega
                        clear hc h48 c48 HF
                        go_wp2
                        go_meet
                        exact ⟨j, rfl, rfl, hj2, hjl, hj34, HT⟩
                      · have t3 : decide ((48 : Int) ≤ (c : Int)) = false := by simp; omega
                        clear hc h48 c48 HF
                        go_wp2
                        go_meet
                        exact ⟨j, rfl, rfl, hj2, hjl, hj34, HT⟩
                  · have k34 : decide ((j : Int) < 34) = false := by simp; omega
                    have HT : Hid (seqF l (l.length - j) j true = R) := by rw [← seqF_flip l _ j (Or.inr (Or.inr (Or.inl (by omega))))]; exact HF.out
                    clear hc HF
                    go_wp2
                    go_meet
                    exact ⟨j, rfl, rfl, hj2, hjl, hj34, HT⟩
                · have kk : decide ((j : Int) < (l.length : Int)) = false := by simp; omega
                  have kk' : decide (j < l.length) = false := by simp; omega
                  have HT : Hid (seqF l (l.length - j) j true = R) := by rw [← seqF_flip l _ j (Or.inl (by omega))]; exact HF.out
                  clear hlt HF
                  go_wp2
                  go_meet
                  exact ⟨j, rfl, rfl, hj2, hjl, hj34, HT⟩
            case rest =>
              obtain ⟨j0, rfl, hwr, hj2, hjl, hj34, HT0⟩ := hcut
              obtain rfl := hwr
              go_upto_block 2 with fail
              go_cut [6] from 62 to 91 (fun s6 wx => ∃ j : Nat, s6 = .int .i64 (j : Int) ∧ W = wx ∧ 2 ≤ j ∧ j ≤ l.length ∧ j ≤ 34 ∧ Hid ((j = l.length ∧ R = (0, j, 7)) ∨ (j < l.length ∧ ((64 ≤ bt l j ∧ bt l j ≤ 126 ∧ R = (seqKey (l.take (j + 1)), j + 1, 0)) ∨ (¬ (64 ≤ bt l j ∧ bt l j ≤ 126) ∧ R = (15, j, 0))))))
              case first =>
                go_wp2
                go_loopw [6] (fun i wr => ∃ j : Nat, i = .int .i64 (j : Int) ∧ W = wr ∧ 2 ≤ j ∧ j ≤ l.length ∧ j ≤ 34 ∧ Hid (seqF l (l.length - j) j true = R)) (fun i _ => l.length - (RowKit.intOf i).toNat)
                case atStart => exact ⟨j0, rfl, rfl, hj2, hjl, hj34, HT0⟩
                case round =>
                  clear hj2 hjl hj34 HT0
                  obtain ⟨j, rfl, hwr, hj2, hjl, hj34, HT⟩ := hrel
                  obtain rfl := hwr
                  by_cases hlt : j < l.length
                  · have k0 : (j : Int) < (l.length : Int) := by omega
                    have qj := HS.out.cells j hlt
                    have hF := HT.out
                    rw [show l.length - j = (l.length - (j + 1)) + 1 by omega] at hF
                    unfold seqF at hF
                    rw [HY.out] at hF
                    obtain ⟨c, hc⟩ : ∃ c, bt l j = c := ⟨_, rfl⟩
                    rw [hc] at qj hF
                    by_cases h34 : j < 34
                    · have k34 : decide ((j : Int) < 34) = true := by simp; omega
                      by_cases h32 : 32 ≤ c ∧ c ≤ 47
                      · rw [if_neg (by omega), if_neg (by omega), if_neg (by simp), if_pos h32] at hF
                        have t3 : decide ((32 : Int) ≤ (c : Int)) = true := by simp; omega
                        have t4 : decide ((c : Int) ≤ 47) = true := by simp; omega
                        have HR3 := Lib.hid hF
                        clear hF hc h32 HT
                        go_wp2
                        go_roundw
                        case rel => exact ⟨j + 1, by go_num, trivial, by omega, by omega, by omega, HR3⟩
                        case measure => simp [RowKit.intOf]; omega
                      · have HE : Hid ((j = l.length ∧ R = (0, j, 7)) ∨ (j < l.length ∧ ((64 ≤ bt l j ∧ bt l j ≤ 126 ∧ R = (seqKey (l.take (j + 1)), j + 1, 0)) ∨ (¬ (64 ≤ bt l j ∧ bt l j ≤ 126) ∧ R = (15, j, 0))))) := by
                          refine Or.inr ⟨hlt, ?_⟩
                          rw [hc]
                          by_cases hA : 64 ≤ c ∧ c ≤ 126
                          · rw [if_pos hA] at hF; exact Or.inl ⟨hA.1, hA.2, hF.symm⟩
                          · rw [if_neg hA, if_neg (by omega), if_neg (by simp), if_neg h32] at hF; exact Or.inr ⟨hA, hF.symm⟩
                        by_cases c32 : 32 ≤ c
                        · have t3 : decide ((32 : Int) ≤ (c : Int)) = true := by simp; omega
                          have t4 : decide ((c : Int) ≤ 47) = false := by simp; omega
                          clear hF hc h32 c32 HT
                          go_wp2
                          go_meet
                          exact ⟨j, rfl, rfl, hj2, hjl, hj34, HE⟩
                        · have t3 : decide ((32 : Int) ≤ (c : Int)) = false := by simp; omega
                          clear hF hc h32 c32 HT
                          go_wp2
                          go_meet
                          exact ⟨j, rfl, rfl, hj2, hjl, hj34, HE⟩
                    · have k34 : decide ((j : Int) < 34) = false := by simp; omega
                      have HE : Hid ((j = l.length ∧ R = (0, j, 7)) ∨ (j < l.length ∧ ((64 ≤ bt l j ∧ bt l j ≤ 126 ∧ R = (seqKey (l.take (j + 1)), j + 1, 0)) ∨ (¬ (64 ≤ bt l j ∧ bt l j ≤ 126) ∧ R = (15, j, 0))))) := by
                        refine Or.inr ⟨hlt, ?_⟩
                        rw [hc]
                        by_cases hA : 64 ≤ c ∧ c ≤ 126
                        · rw [if_pos hA] at hF; exact Or.inl ⟨hA.1, hA.2, hF.symm⟩
                        · rw [if_neg hA, if_pos (by omega)] at hF; exact Or.inr ⟨hA, hF.symm⟩
                      clear hF hc HT
                      go_wp2
                      go_meet
                      exact ⟨j, rfl, rfl, hj2, hjl, hj34, HE⟩
                  · have HE : Hid ((j = l.length ∧ R = (0, j, 7)) ∨ (j < l.length ∧ ((64 ≤ bt l j ∧ bt l j ≤ 126 ∧ R = (seqKey (l.take (j + 1)), j + 1, 0)) ∨ (¬ (64 ≤ bt l j ∧ bt l j ≤ 126) ∧ R = (15, j, 0))))) := by
                      have hF := HT.out
                      rw [show l.length - j = 0 by omega] at hF
                      refine Or.inl ⟨by omega, ?_⟩
                      rw [← hF]
                      show (0, l.length, 7) = _
                      rw [show j = l.length by omega]
                    have kk : decide ((j : Int) < (l.length : Int)) = false := by simp; omega
                    have kk' : decide (j < l.length) = false := by simp; omega
                    clear hlt HT
                    go_wp2
                    go_meet
                    exact ⟨j, rfl, rfl, hj2, hjl, hj34, HE⟩
              case rest =>
                clear hj2 hjl hj34 HT0
                obtain ⟨j, rfl, hwr, hj2, hjl, hj34, HE⟩ := hcut
                obtain rfl := hwr
                rcases HE.out with ⟨hjl2, hRR⟩ | ⟨hlt, hRR⟩
                · have keq : ((j : Int) == (l.length : Int)) = true := by simp; omega
                  have HR3 : Hid ((0, j, 7) = R) := hRR.symm
                  clear HE hRR hjl2
                  go_wp2
                  (try simp only [Exit.inBlock, Exit.then])
                  refine bodyPost_ret (results_cell3 rfl _ _ w.heap.size 62 _ _ rfl (Blk.set (Blk.set (HS.out.res) 0 _) 1 _) Tryd.underlying62 rfl (by kernel_rfl)) rfl ?_
                  refine ⟨?_, seq_below (HS.out.but) (Nat.le_refl _) _ _⟩
                  rw [← HR3.out]
                  (first | rfl | (simp only [hwr]; rfl))
                · have k0 : (j : Int) < (l.length : Int) := by omega
                  have kne : ((j : Int) == (l.length : Int)) = false := by simp; omega
                  have qj := HS.out.cells j hlt
                  obtain ⟨c, hc⟩ : ∃ c, bt l j = c := ⟨_, rfl⟩
                  rw [hc] at qj hRR
                  clear hc HE
                  rcases hRR with ⟨hA1, hA2, hF⟩ | ⟨hA, hF⟩
                  · have t1 : decide ((c : Int) < 64) = false := by simp; omega
                    have t2 : decide ((126 : Int) < (c : Int)) = false := by simp; omega
                    rw [take_cons27 HX.out hpos j, seqKey_ref] at hF
                    clear hA1 hA2
                    have hwr : IntKind.i64.wrap ((j : Int) + 1) = ((j + 1 : Nat) : Int) := by
                      have : ∀ x : Int, 0 ≤ x → x ≤ 2000000 → IntKind.i64.wrap x = x := fun x h1 h2 => by simp [IntKind.wrap, IntKind.bits, IntKind.signed]; omega
                      rw [this _ (by omega) (by omega)]; omega
                    have hsl := fun V => slice_b2 B off l.length cap j _ hwr (by omega) (by omega) V
                    have hcv := HS.out.conv1 hlt (cap - 1)
                    rw [List.drop_one] at hF hcv
                    have HR3 : Hid ((refKey (l.tail.take j), j + 1, 0) = R) := hF.symm
                    have HKY := Lib.hid (fun V => key_c (l.tail.take j) V)
                    clear hF
                    go_wp2_with fail
                    refine (HKY.out _).mono ?_
                    rintro e w5 ⟨rfl, hb5⟩
                    have HS5 := HS.out.below hb5
                    have r0 := HS5.res.cell (j := 0) (v := .int .i64 0) rfl
                    have r1 := HS5.res.cell (j := 1) (v := .int .i64 0) rfl
                    have rf0 := HS5.res.free 0
                    have rf1 := HS5.res.free 1
                    have hrl := HS5.res.lt
                    go_wp2
                    (try simp only [Exit.inBlock, Exit.then])
                    refine bodyPost_ret (results_cell3 rfl _ _ w.heap.size 62 _ _ rfl (Blk.set (Blk.set (HS5.res) 0 _) 1 _) Tryd.underlying62 rfl (by kernel_rfl)) rfl ?_
                    refine ⟨?_, seq_below (HS5.but) (Nat.le_refl _) _ _⟩
                    rw [← HR3.out]
                    (first | rfl | (simp only [hwr]; rfl))
                  · have HR3 : Hid ((15, j, 0) = R) := hF.symm
                    by_cases c64 : c < 64
                    · have t1 : decide ((c : Int) < 64) = true := by simp; omega
                      clear hF hA c64
                      go_wp2
                      (try simp only [Exit.inBlock, Exit.then])
                      refine bodyPost_ret (results_cell3 rfl _ _ w.heap.size 62 _ _ rfl (Blk.set (Blk.set (HS.out.res) 0 _) 1 _) Tryd.underlying62 rfl (by kernel_rfl)) rfl ?_
                      refine ⟨?_, seq_below (HS.out.but) (Nat.le_refl _) _ _⟩
                      rw [← HR3.out]
                      (first | rfl | (simp only [hwr]; rfl))
                    · have t1 : decide ((c : Int) < 64) = false := by simp; omega
                      have t2 : decide ((126 : Int) < (c : Int)) = true := by simp; omega
                      clear hF hA c64
                      go_wp2
                      (try simp only [Exit.inBlock, Exit.then])
                      refine bodyPost_ret (results_cell3 rfl _ _ w.heap.size 62 _ _ rfl (Blk.set (Blk.set (HS.out.res) 0 _) 1 _) Tryd.underlying62 rfl (by kernel_rfl)) rfl ?_
                      refine ⟨?_, seq_below (HS.out.but) (Nat.le_refl _) _ _⟩
                      rw [← HR3.out]
                      (first | rfl | (simp only [hwr]; rfl))
          · skip
            go_upto_block 0 with fail
            rw [HW.out]
            have hBW := HS.out.lt
            have r0 := HS.out.res.cell (j := 0) (v := .int .i64 0) rfl
            have r1 := HS.out.res.cell (j := 1) (v := .int .i64 0) rfl
            have rf0 := HS.out.res.free 0
            have rf1 := HS.out.res.free 1
            have i0 := HS.out.ign.cell (j := 0) (v := .int .i64 15) rfl
            have i1 := HS.out.ign.cell (j := 1) (v := .int .i64 0) rfl
            have hrl := HS.out.res.lt
            have hil := HS.out.ign.lt
            have q1w : W.cell? ⟨B, off + 1, none⟩ = some (.int .u8 79) := by rw [HS.out.cells 1 h1, HY.out]; rfl
            go_cut [6] from 32 to 61 (fun s6 wx => ∃ j : Nat, s6 = .int .i64 (j : Int) ∧ W = wx ∧ 2 ≤ j ∧ j ≤ l.length ∧ j ≤ 34 ∧ Hid (seqF l (l.length - j) j true = R))
            case first =>
              go_wp2
              go_loopw [6] (fun i wr => ∃ j : Nat, i = .int .i64 (j : Int) ∧ W = wr ∧ 2 ≤ j ∧ j ≤ l.length ∧ j ≤ 34 ∧ Hid (seqF l (l.length - j) j false = R)) (fun i _ => l.length - (RowKit.intOf i).toNat)
              case atStart => exact ⟨2, rfl, rfl, Nat.le_refl _, h1, by decide, HR2⟩
              case round =>
                obtain ⟨j, rfl, hwr, hj2, hjl, hj34, HF⟩ := hrel
                obtain rfl := hwr
                have HT : Hid (seqF l (l.length - j) j true = R) := by rw [← seqF_flip l _ j (Or.inr (Or.inl HY.out))]; exact HF.out
                clear HF
                go_wp2
                go_meet
                exact ⟨j, rfl, rfl, hj2, hjl, hj34, HT⟩
            case rest =>
              obtain ⟨j0, rfl, hwr, hj2, hjl, hj34, HT0⟩ := hcut
              obtain rfl := hwr
              go_upto_block 2 with fail
              go_cut [6] from 62 to 91 (fun s6 wx => ∃ j : Nat, s6 = .int .i64 (j : Int) ∧ W = wx ∧ 2 ≤ j ∧ j ≤ l.length ∧ j ≤ 34 ∧ Hid ((j = l.length ∧ R = (0, j, 7)) ∨ (j < l.length ∧ ((64 ≤ bt l j ∧ bt l j ≤ 126 ∧ R = (seqKey (l.take (j + 1)), j + 1, 0)) ∨ (¬ (64 ≤ bt l j ∧ bt l j ≤ 126) ∧ R = (15, j, 0))))))
              case first =>
                go_wp2
                go_loopw [6] (fun i wr => ∃ j : Nat, i = .int .i64 (j : Int) ∧ W = wr ∧ 2 ≤ j ∧ j ≤ l.length ∧ j ≤ 34 ∧ Hid (seqF l (l.length - j) j true = R)) (fun i _ => l.length - (RowKit.intOf i).toNat)
                case atStart => exact ⟨j0, rfl, rfl, hj2, hjl, hj34, HT0⟩
                case round =>
                  clear hj2 hjl hj34 HT0
                  obtain ⟨j, rfl, hwr, hj2, hjl, hj34, HT⟩ := hrel
                  obtain rfl := hwr
                  by_cases hlt : j < l.length
                  · have k0 : (j : Int) < (l.length : Int) := by omega
                    have qj := HS.out.cells j hlt
                    have hF := HT.out
                    rw [show l.length - j = (l.length - (j + 1)) + 1 by omega] at hF
                    unfold seqF at hF
                    rw [HY.out] at hF
                    obtain ⟨c, hc⟩ : ∃ c, bt l j = c := ⟨_, rfl⟩
                    rw [hc] at qj hF
                    have HE : Hid ((j = l.length ∧ R = (0, j, 7)) ∨ (j < l.length ∧ ((64 ≤ bt l j ∧ bt l j ≤ 126 ∧ R = (seqKey (l.take (j + 1)), j + 1, 0)) ∨ (¬ (64 ≤ bt l j ∧ bt l j ≤ 126) ∧ R = (15, j, 0))))) := by
                      refine Or.inr ⟨hlt, ?_⟩
                      rw [hc]
                      by_cases hA : 64 ≤ c ∧ c ≤ 126
                      · rw [if_pos hA] at hF; exact Or.inl ⟨hA.1, hA.2, hF.symm⟩
                      · rw [if_neg hA, if_pos (Or.inl rfl)] at hF; exact Or.inr ⟨hA, hF.symm⟩
                    clear hF hc HT
                    go_wp2
                    go_meet
                    exact ⟨j, rfl, rfl, hj2, hjl, hj34, HE⟩
                  · have HE : Hid ((j = l.length ∧ R = (0, j, 7)) ∨ (j < l.length ∧ ((64 ≤ bt l j ∧ bt l j ≤ 126 ∧ R = (seqKey (l.take (j + 1)), j + 1, 0)) ∨ (¬ (64 ≤ bt l j ∧ bt l j ≤ 126) ∧ R = (15, j, 0))))) := by
                      have hF := HT.out
                      rw [show l.length - j = 0 by omega] at hF
                      refine Or.inl ⟨by omega, ?_⟩
                      rw [← hF]
                      show (0, l.length, 7) = _
                      rw [show j = l.length by omega]
                    have kk : decide ((j : Int) < (l.length : Int)) = false := by simp; omega
                    have kk' : decide (j < l.length) = false := by simp; omega
                    clear hlt HT
                    go_wp2
                    go_meet
                    exact ⟨j, rfl, rfl, hj2, hjl, hj34, HE⟩
              case rest =>
                clear hj2 hjl hj34 HT0
                obtain ⟨j, rfl, hwr, hj2, hjl, hj34, HE⟩ := hcut
                obtain rfl := hwr
                rcases HE.out with ⟨hjl2, hRR⟩ | ⟨hlt, hRR⟩
                · have keq : ((j : Int) == (l.length : Int)) = true := by simp; omega
                  have HR3 : Hid ((0, j, 7) = R) := hRR.symm
                  clear HE hRR hjl2
                  go_wp2
                  (try simp only [Exit.inBlock, Exit.then])
                  refine bodyPost_ret (results_cell3 rfl _ _ w.heap.size 62 _ _ rfl (Blk.set (Blk.set (HS.out.res) 0 _) 1 _) Tryd.underlying62 rfl (by kernel_rfl)) rfl ?_
                  refine ⟨?_, seq_below (HS.out.but) (Nat.le_refl _) _ _⟩
                  rw [← HR3.out]
                  (first | rfl | (simp only [hwr]; rfl))
                · have k0 : (j : Int) < (l.length : Int) := by omega
                  have kne : ((j : Int) == (l.length : Int)) = false := by simp; omega
                  have qj := HS.out.cells j hlt
                  obtain ⟨c, hc⟩ : ∃ c, bt l j = c := ⟨_, rfl⟩
                  rw [hc] at qj hRR
                  clear hc HE
                  rcases hRR with ⟨hA1, hA2, hF⟩ | ⟨hA, hF⟩
                  · have t1 : decide ((c : Int) < 64) = false := by simp; omega
                    have t2 : decide ((126 : Int) < (c : Int)) = false := by simp; omega
                    rw [take_cons27 HX.out hpos j, seqKey_ref] at hF
                    clear hA1 hA2
                    have hwr : IntKind.i64.wrap ((j : Int) + 1) = ((j + 1 : Nat) : Int) := by
                      have : ∀ x : Int, 0 ≤ x → x ≤ 2000000 → IntKind.i64.wrap x = x := fun x h1 h2 => by simp [IntKind.wrap, IntKind.bits, IntKind.signed]; omega
                      rw [this _ (by omega) (by omega)]; omega
                    have hsl := fun V => slice_b2 B off l.length cap j _ hwr (by omega) (by omega) V
                    have hcv := HS.out.conv1 hlt (cap - 1)
                    rw [List.drop_one] at hF hcv
                    have HR3 : Hid ((refKey (l.tail.take j), j + 1, 0) = R) := hF.symm
                    have HKY := Lib.hid (fun V => key_c (l.tail.take j) V)
                    clear hF
                    go_wp2_with fail
                    refine (HKY.out _).mono ?_
                    rintro e w5 ⟨rfl, hb5⟩
                    have HS5 := HS.out.below hb5
                    have r0 := HS5.res.cell (j := 0) (v := .int .i64 0) rfl
                    have r1 := HS5.res.cell (j := 1) (v := .int .i64 0) rfl
                    have rf0 := HS5.res.free 0
                    have rf1 := HS5.res.free 1
                    have hrl := HS5.res.lt
                    go_wp2
                    (try simp only [Exit.inBlock, Exit.then])
                    refine bodyPost_ret (results_cell3 rfl _ _ w.heap.size 62 _ _ rfl (Blk.set (Blk.set (HS5.res) 0 _) 1 _) Tryd.underlying62 rfl (by kernel_rfl)) rfl ?_
                    refine ⟨?_, seq_below (HS5.but) (Nat.le_refl _) _ _⟩
                    rw [← HR3.out]
                    (first | rfl | (simp only [hwr]; rfl))
                  · have HR3 : Hid ((15, j, 0) = R) := hF.symm
                    by_cases c64 : c < 64
                    · have t1 : decide ((c : Int) < 64) = true := by simp; omega
                      clear hF hA c64
                      go_wp2
                      (try simp only [Exit.inBlock, Exit.then])
                      refine bodyPost_ret (results_cell3 rfl _ _ w.heap.size 62 _ _ rfl (Blk.set (Blk.set (HS.out.res) 0 _) 1 _) Tryd.underlying62 rfl (by kernel_rfl)) rfl ?_
                      refine ⟨?_, seq_below (HS.out.but) (Nat.le_refl _) _ _⟩
                      rw [← HR3.out]
                      (first | rfl | (simp only [hwr]; rfl))
                    · have t1 : decide ((c : Int) < 64) = false := by simp; omega
                      have t2 : decide ((126 : Int) < (c : Int)) = true := by simp; omega
                      clear hF hA c64
                      go_wp2
                      (try simp only [Exit.inBlock, Exit.then])
                      refine bodyPost_ret (results_cell3 rfl _ _ w.heap.size 62 _ _ rfl (Blk.set (Blk.set (HS.out.res) 0 _) 1 _) Tryd.underlying62 rfl (by kernel_rfl)) rfl ?_
                      refine ⟨?_, seq_below (HS.out.but) (Nat.le_refl _) _ _⟩
                      rw [← HR3.out]
                      (first | rfl | (simp only [hwr]; rfl))
    · have hxx : ((x : Int) != 27) = true := by rw [bne_iff_ne]; omega
      go_enter Tryd.func45, Tryd.ntmps45
      go_wp2
      (try simp only [Exit.inBlock, Exit.then])
      refine bodyPost_ret (results_cell3 rfl _ _ w.heap.size 62 #[.int .i64 0, .int .i64 0] _ rfl ((Blk.new w _ _).alloc _) Tryd.underlying62 rfl (by kernel_rfl)) rfl ?_
      refine ⟨?_, HALC.out _⟩
      rw [HR.out, if_pos hx]
      rfl

end Go.Proofs.YtbflcikfaoojmaaDoor.Edit

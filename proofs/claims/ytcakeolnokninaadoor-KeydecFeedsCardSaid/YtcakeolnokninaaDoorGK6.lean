/- Texts joined: Kd21; Kd22; Kd23; Kd24. -/
import Derived.Test.YtcakeolnokninaaDoorGK2
import Derived.Deep.CutBlock
import Derived.Deep.DeepCutAuto
import Derived.Test.YtcakeolnokninaaDoorGK3
import Derived.Test.YtcakeolnokninaaDoorGF
import Derived.Test.YtcakeolnokninaaDoorHRowsIn
import Derived.LoopN
/- The document's key of a sequence: whispererref09.key, Next, walked. -/
set_option linter.unusedVariables false
set_option linter.unusedSimpArgs false
namespace Go.Proofs.YtcakeolnokninaaDoor.Edit
open Go.RowKit Go.Lib Go.Shelf ChangeShapes Mem Utf UtfP

/-- the sequences that are keys, without ESC -/
def refKeys : List (List UInt8 × Int) := [([91, 67], 5), ([79, 67], 5), ([91, 68], 4), ([79, 68], 4), ([91, 72], 6), ([79, 72], 6), ([91, 49, 126], 6), ([91, 55, 126], 6), ([91, 70], 7), ([79, 70], 7), ([91, 52, 126], 7), ([91, 56, 126], 7), ([91, 51, 126], 3), ([91, 50, 48, 48, 126], 13), ([91, 50, 48, 49, 126], 14)]
/-- the key of a whole sequence, without ESC -/
def refKey (s : List UInt8) : Int := (lookT refKeys s).getD 15
theorem lookT_map (x : UInt8) (s : List UInt8) : ∀ l : List (List UInt8 × Int), lookT (l.map fun p => (x :: p.1, p.2)) (x :: s) = lookT l s := by
  intro l
  induction l with
  | nil => rfl
  | cons p r ih =>
    obtain ⟨k, v⟩ := p
    simp only [List.map_cons, lookT]
    by_cases h : s = k
    · subst h; simp
    · rw [if_neg (by simpa using h), if_neg h]; exact ih
theorem seqKey_ref (s : List UInt8) : seqKey (27 :: s) = refKey s := by
  have h : seqKeys = refKeys.map fun p => ((27 : UInt8) :: p.1, p.2) := by kernel_rfl
  unfold seqKey refKey
  rw [h, lookT_map]
theorem str_ne {s t : List UInt8} (h : s ≠ t) : (strOf s == strOf t) = false := by
  cases hb : (strOf s == strOf t)
  · rfl
  · rw [MapKept.bytes_beq] at hb
    exact absurd (strOf_inj hb) h

theorem key_at0 (w : World) : Calls Tryd.prog 72 #[.string { data := #[91, 67] }] w fun e w' => e = .returned (.agg #[.int .i64 5, .int .i64 0]) ∧ Below w.heap.size w w' := by
  have e0 : (({ data := #[91, 67] } : ByteArray) == { data := #[91, 67] }) = true := by kernel_rfl
  have e1 : (({ data := #[91, 67] } : ByteArray) == { data := #[79, 67] }) = false := by kernel_rfl
  have e2 : (({ data := #[91, 67] } : ByteArray) == { data := #[91, 68] }) = false := by kernel_rfl
  have e3 : (({ data := #[91, 67] } : ByteArray) == { data := #[79, 68] }) = false := by kernel_rfl
  have e4 : (({ data := #[91, 67] } : ByteArray) == { data := #[91, 72] }) = false := by kernel_rfl
  have e5 : (({ data := #[91, 67] } : ByteArray) == { data := #[79, 72] }) = false := by kernel_rfl
  have e6 : (({ data := #[91, 67] } : ByteArray) == { data := #[91, 49, 126] }) = false := by kernel_rfl
  have e7 : (({ data := #[91, 67] } : ByteArray) == { data := #[91, 55, 126] }) = false := by kernel_rfl
  have e8 : (({ data := #[91, 67] } : ByteArray) == { data := #[91, 70] }) = false := by kernel_rfl
  have e9 : (({ data := #[91, 67] } : ByteArray) == { data := #[79, 70] }) = false := by kernel_rfl
  have e10 : (({ data := #[91, 67] } : ByteArray) == { data := #[91, 52, 126] }) = false := by kernel_rfl
  have e11 : (({ data := #[91, 67] } : ByteArray) == { data := #[91, 56, 126] }) = false := by kernel_rfl
  have e12 : (({ data := #[91, 67] } : ByteArray) == { data := #[91, 51, 126] }) = false := by kernel_rfl
  have e13 : (({ data := #[91, 67] } : ByteArray) == { data := #[91, 50, 48, 48, 126] }) = false := by kernel_rfl
  have e14 : (({ data := #[91, 67] } : ByteArray) == { data := #[91, 50, 48, 49, 126] }) = false := by kernel_rfl
  go_enter Tryd.func72, Tryd.ntmps72
  go_wp2
  (try simp only [Exit.inBlock, Exit.then])
  refine bodyPost_ret (results_key rfl _ _ w.heap.size 54 #[.int .i64 5, .int .i64 0] _ rfl (Blk.new w _ _) Tryd.underlying54 rfl (by kernel_rfl)) rfl ?_
  exact ⟨rfl, (Below.refl _ _).alloc (Nat.le_refl _) _⟩

theorem key_at1 (w : World) : Calls Tryd.prog 72 #[.string { data := #[79, 67] }] w fun e w' => e = .returned (.agg #[.int .i64 5, .int .i64 0]) ∧ Below w.heap.size w w' := by
  have e0 : (({ data := #[79, 67] } : ByteArray) == { data := #[91, 67] }) = false := by kernel_rfl
  have e1 : (({ data := #[79, 67] } : ByteArray) == { data := #[79, 67] }) = true := by kernel_rfl
  have e2 : (({ data := #[79, 67] } : ByteArray) == { data := #[91, 68] }) = false := by kernel_rfl
  have e3 : (({ data := #[79, 67] } : ByteArray) == { data := #[79, 68] }) = false := by kernel_rfl
  have e4 : (({ data := #[79, 67] } : ByteArray) == { data := #[91, 72] }) = false := by kernel_rfl
  have e5 : (({ data := #[79, 67] } : ByteArray) == { data := #[79, 72] }) = false := by kernel_rfl
  have e6 : (({ data := #[79, 67] } : ByteArray) == { data := #[91, 49, 126] }) = false := by kernel_rfl
  have e7 : (({ data := #[79, 67] } : ByteArray) == { data := #[91, 55, 126] }) = false := by kernel_rfl
  have e8 : (({ data := #[79, 67] } : ByteArray) == { data := #[91, 70] }) = false := by kernel_rfl
  have e9 : (({ data := #[79, 67] } : ByteArray) == { data := #[79, 70] }) = false := by kernel_rfl
  have e10 : (({ data := #[79, 67] } : ByteArray) == { data := #[91, 52, 126] }) = false := by kernel_rfl
  have e11 : (({ data := #[79, 67] } : ByteArray) == { data := #[91, 56, 126] }) = false := by kernel_rfl
  have e12 : (({ data := #[79, 67] } : ByteArray) == { data := #[91, 51, 126] }) = false := by kernel_rfl
  have e13 : (({ data := #[79, 67] } : ByteArray) == { data := #[91, 50, 48, 48, 126] }) = false := by kernel_rfl
  have e14 : (({ data := #[79, 67] } : ByteArray) == { data := #[91, 50, 48, 49, 126] }) = false := by kernel_rfl
  go_enter Tryd.func72, Tryd.ntmps72
  go_wp2
  (try simp only [Exit.inBlock, Exit.then])
  refine bodyPost_ret (results_key rfl _ _ w.heap.size 54 #[.int .i64 5, .int .i64 0] _ rfl (Blk.new w _ _) Tryd.underlying54 rfl (by kernel_rfl)) rfl ?_
  exact ⟨rfl, (Below.refl _ _).alloc (Nat.le_refl _) _⟩

theorem key_at2 (w : World) : Calls Tryd.prog 72 #[.string { data := #[91, 68] }] w fun e w' => e = .returned (.agg #[.int .i64 4, .int .i64 0]) ∧ Below w.heap.size w w' := by
  have e0 : (({ data := #[91, 68] } : ByteArray) == { data := #[91, 67] }) = false := by kernel_rfl
  have e1 : (({ data := #[91, 68] } : ByteArray) == { data := #[79, 67] }) = false := by kernel_rfl
  have e2 : (({ data := #[91, 68] } : ByteArray) == { data := #[91, 68] }) = true := by kernel_rfl
  have e3 : (({ data := #[91, 68] } : ByteArray) == { data := #[79, 68] }) = false := by kernel_rfl
  have e4 : (({ data := #[91, 68] } : ByteArray) == { data := #[91, 72] }) = false := by kernel_rfl
  have e5 : (({ data := #[91, 68] } : ByteArray) == { data := #[79, 72] }) = false := by kernel_rfl
  have e6 : (({ data := #[91, 68] } : ByteArray) == { data := #[91, 49, 126] }) = false := by kernel_rfl
  have e7 : (({ data := #[91, 68] } : ByteArray) == { data := #[91, 55, 126] }) = false := by kernel_rfl
  have e8 : (({ data := #[91, 68] } : ByteArray) == { data := #[91, 70] }) = false := by kernel_rfl
  have e9 : (({ data := #[91, 68] } : ByteArray) == { data := #[79, 70] }) = false := by kernel_rfl
  have e10 : (({ data := #[91, 68] } : ByteArray) == { data := #[91, 52, 126] }) = false := by kernel_rfl
  have e11 : (({ data := #[91, 68] } : ByteArray) == { data := #[91, 56, 126] }) = false := by kernel_rfl
  have e12 : (({ data := #[91, 68] } : ByteArray) == { data := #[91, 51, 126] }) = false := by kernel_rfl
  have e13 : (({ data := #[91, 68] } : ByteArray) == { data := #[91, 50, 48, 48, 126] }) = false := by kernel_rfl
  have e14 : (({ data := #[91, 68] } : ByteArray) == { data := #[91, 50, 48, 49, 126] }) = false := by kernel_rfl
  go_enter Tryd.func72, Tryd.ntmps72
  go_wp2
  (try simp only [Exit.inBlock, Exit.then])
  refine bodyPost_ret (results_key rfl _ _ w.heap.size 54 #[.int .i64 4, .int .i64 0] _ rfl (Blk.new w _ _) Tryd.underlying54 rfl (by kernel_rfl)) rfl ?_
  exact ⟨rfl, (Below.refl _ _).alloc (Nat.le_refl _) _⟩

theorem key_at3 (w : World) : Calls Tryd.prog 72 #[.string { data := #[79, 68] }] w fun e w' => e = .returned (.agg #[.int .i64 4, .int .i64 0]) ∧ Below w.heap.size w w' := by
  have e0 : (({ data := #[79, 68] } : ByteArray) == { data := #[91, 67] }) = false := by kernel_rfl
  have e1 : (({ data := #[79, 68] } : ByteArray) == { data := #[79, 67] }) = false := by kernel_rfl
  have e2 : (({ data := #[79, 68] } : ByteArray) == { data := #[91, 68] }) = false := by kernel_rfl
  have e3 : (({ data := #[79, 68] } : ByteArray) == { data := #[79, 68] }) = true := by kernel_rfl
  have e4 : (({ data := #[79, 68] } : ByteArray) == { data := #[91, 72] }) = false := by kernel_rfl
  have e5 : (({ data := #[79, 68] } : ByteArray) == { data := #[79, 72] }) = false := by kernel_rfl
  have e6 : (({ data := #[79, 68] } : ByteArray) == { data := #[91, 49, 126] }) = false := by kernel_rfl
  have e7 : (({ data := #[79, 68] } : ByteArray) == { data := #[91, 55, 126] }) = false := by kernel_rfl
  have e8 : (({ data := #[79, 68] } : ByteArray) == { data := #[91, 70] }) = false := by kernel_rfl
  have e9 : (({ data := #[79, 68] } : ByteArray) == { data := #[79, 70] }) = false := by kernel_rfl
  have e10 : (({ data := #[79, 68] } : ByteArray) == { data := #[91, 52, 126] }) = false := by kernel_rfl
  have e11 : (({ data := #[79, 68] } : ByteArray) == { data := #[91, 56, 126] }) = false := by kernel_rfl
  have e12 : (({ data := #[79, 68] } : ByteArray) == { data := #[91, 51, 126] }) = false := by kernel_rfl
  have e13 : (({ data := #[79, 68] } : ByteArray) == { data := #[91, 50, 48, 48, 126] }) = false := by kernel_rfl
  have e14 : (({ data := #[79, 68] } : ByteArray) == { data := #[91, 50, 48, 49, 126] }) = false := by kernel_rfl
  go_enter Tryd.func72, Tryd.ntmps72
  go_wp2
  (try simp only [Exit.inBlock, Exit.then])
  refine bodyPost_ret (results_key rfl _ _ w.heap.size 54 #[.int .i64 4, .int .i64 0] _ rfl (Blk.new w _ _) Tryd.underlying54 rfl (by kernel_rfl)) rfl ?_
  exact ⟨rfl, (Below.refl _ _).alloc (Nat.le_refl _) _⟩

theorem key_at4 (w : World) : Calls Tryd.prog 72 #[.string { data := #[91, 72] }] w fun e w' => e = .returned (.agg #[.int .i64 6, .int .i64 0]) ∧ Below w.heap.size w w' := by
  have e0 : (({ data := #[91, 72] } : ByteArray) == { data := #[91, 67] }) = false := by kernel_rfl
  have e1 : (({ data := #[91, 72] } : ByteArray) == { data := #[79, 67] }) = false := by kernel_rfl
  have e2 : (({ data := #[91, 72] } : ByteArray) == { data := #[91, 68] }) = false := by kernel_rfl
  have e3 : (({ data := #[91, 72] } : ByteArray) == { data := #[79, 68] }) = false := by kernel_rfl
  have e4 : (({ data := #[91, 72] } : ByteArray) == { data := #[91, 72] }) = true := by kernel_rfl
  have e5 : (({ data := #[91, 72] } : ByteArray) == { data := #[79, 72] }) = false := by kernel_rfl
  have e6 : (({ data := #[91, 72] } : ByteArray) == { data := #[91, 49, 126] }) = false := by kernel_rfl
  have e7 : (({ data := #[91, 72] } : ByteArray) == { data := #[91, 55, 126] }) = false := by kernel_rfl
  have e8 : (({ data := #[91, 72] } : ByteArray) == { data := #[91, 70] }) = false := by kernel_rfl
  have e9 : (({ data := #[91, 72] } : ByteArray) == { data := #[79, 70] }) = false := by kernel_rfl
  have e10 : (({ data := #[91, 72] } : ByteArray) == { data := #[91, 52, 126] }) = false := by kernel_rfl
  have e11 : (({ data := #[91, 72] } : ByteArray) == { data := #[91, 56, 126] }) = false := by kernel_rfl
  have e12 : (({ data := #[91, 72] } : ByteArray) == { data := #[91, 51, 126] }) = false := by kernel_rfl
  have e13 : (({ data := #[91, 72] } : ByteArray) == { data := #[91, 50, 48, 48, 126] }) = false := by kernel_rfl
  have e14 : (({ data := #[91, 72] } : ByteArray) == { data := #[91, 50, 48, 49, 126] }) = false := by kernel_rfl
  go_enter Tryd.func72, Tryd.ntmps72
  go_wp2
  (try simp only [Exit.inBlock, Exit.then])
  refine bodyPost_ret (results_key rfl _ _ w.heap.size 54 #[.int .i64 6, .int .i64 0] _ rfl (Blk.new w _ _) Tryd.underlying54 rfl (by kernel_rfl)) rfl ?_
  exact ⟨rfl, (Below.refl _ _).alloc (Nat.le_refl _) _⟩

theorem key_at5 (w : World) : Calls Tryd.prog 72 #[.string { data := #[79, 72] }] w fun e w' => e = .returned (.agg #[.int .i64 6, .int .i64 0]) ∧ Below w.heap.size w w' := by
  have e0 : (({ data := #[79, 72] } : ByteArray) == { data := #[91, 67] }) = false := by kernel_rfl
  have e1 : (({ data := #[79, 72] } : ByteArray) == { data := #[79, 67] }) = false := by kernel_rfl
  have e2 : (({ data := #[79, 72] } : ByteArray) == { data := #[91, 68] }) = false := by kernel_rfl
  have e3 : (({ data := #[79, 72] } : ByteArray) == { data := #[79, 68] }) = false := by kernel_rfl
  have e4 : (({ data := #[79, 72] } : ByteArray) == { data := #[91, 72] }) = false := by kernel_rfl
  have e5 : (({ data := #[79, 72] } : ByteArray) == { data := #[79, 72] }) = true := by kernel_rfl
  have e6 : (({ data := #[79, 72] } : ByteArray) == { data := #[91, 49, 126] }) = false := by kernel_rfl
  have e7 : (({ data := #[79, 72] } : ByteArray) == { data := #[91, 55, 126] }) = false := by kernel_rfl
  have e8 : (({ data := #[79, 72] } : ByteArray) == { data := #[91, 70] }) = false := by kernel_rfl
  have e9 : (({ data := #[79, 72] } : ByteArray) == { data := #[79, 70] }) = false := by kernel_rfl
  have e10 : (({ data := #[79, 72] } : ByteArray) == { data := #[91, 52, 126] }) = false := by kernel_rfl
  have e11 : (({ data := #[79, 72] } : ByteArray) == { data := #[91, 56, 126] }) = false := by kernel_rfl
  have e12 : (({ data := #[79, 72] } : ByteArray) == { data := #[91, 51, 126] }) = false := by kernel_rfl
  have e13 : (({ data := #[79, 72] } : ByteArray) == { data := #[91, 50, 48, 48, 126] }) = false := by kernel_rfl
  have e14 : (({ data := #[79, 72] } : ByteArray) == { data := #[91, 50, 48, 49, 126] }) = false := by kernel_rfl
  go_enter Tryd.func72, Tryd.ntmps72
  go_wp2
  (try simp only [Exit.inBlock, Exit.then])
  refine bodyPost_ret (results_key rfl _ _ w.heap.size 54 #[.int .i64 6, .int .i64 0] _ rfl (Blk.new w _ _) Tryd.underlying54 rfl (by kernel_rfl)) rfl ?_
  exact ⟨rfl, (Below.refl _ _).alloc (Nat.le_refl _) _⟩

theorem key_at6 (w : World) : Calls Tryd.prog 72 #[.string { data := #[91, 49, 126] }] w fun e w' => e = .returned (.agg #[.int .i64 6, .int .i64 0]) ∧ Below w.heap.size w w' := by
  have e0 : (({ data := #[91, 49, 126] } : ByteArray) == { data := #[91, 67] }) = false := by kernel_rfl
  have e1 : (({ data := #[91, 49, 126] } : ByteArray) == { data := #[79, 67] }) = false := by kernel_rfl
  have e2 : (({ data := #[91, 49, 126] } : ByteArray) == { data := #[91, 68] }) = false := by kernel_rfl
  have e3 : (({ data := #[91, 49, 126] } : ByteArray) == { data := #[79, 68] }) = false := by kernel_rfl
  have e4 : (({ data := #[91, 49, 126] } : ByteArray) == { data := #[91, 72] }) = false := by kernel_rfl
  have e5 : (({ data := #[91, 49, 126] } : ByteArray) == { data := #[79, 72] }) = false := by kernel_rfl
  have e6 : (({ data := #[91, 49, 126] } : ByteArray) == { data := #[91, 49, 126] }) = true := by kernel_rfl
  have e7 : (({ data := #[91, 49, 126] } : ByteArray) == { data := #[91, 55, 126] }) = false := by kernel_rfl
  have e8 : (({ data := #[91, 49, 126] } : ByteArray) == { data := #[91, 70] }) = false := by kernel_rfl
  have e9 : (({ data := #[91, 49, 126] } : ByteArray) == { data := #[79, 70] }) = false := by kernel_rfl
  have e10 : (({ data := #[91, 49, 126] } : ByteArray) == { data := #[91, 52, 126] }) = false := by kernel_rfl
  have e11 : (({ data := #[91, 49, 126] } : ByteArray) == { data := #[91, 56, 126] }) = false := by kernel_rfl
  have e12 : (({ data := #[91, 49, 126] } : ByteArray) == { data := #[91, 51, 126] }) = false := by kernel_rfl
  have e13 : (({ data := #[91, 49, 126] } : ByteArray) == { data := #[91, 50, 48, 48, 126] }) = false := by kernel_rfl
  have e14 : (({ data := #[91, 49, 126] } : ByteArray) == { data := #[91, 50, 48, 49, 126] }) = false := by kernel_rfl
  go_enter Tryd.func72, Tryd.ntmps72
  go_wp2
  (try simp only [Exit.inBlock, Exit.then])
  refine bodyPost_ret (results_key rfl _ _ w.heap.size 54 #[.int .i64 6, .int .i64 0] _ rfl (Blk.new w _ _) Tryd.underlying54 rfl (by kernel_rfl)) rfl ?_
  exact ⟨rfl, (Below.refl _ _).alloc (Nat.le_refl _) _⟩

theorem key_at7 (w : World) : Calls Tryd.prog 72 #[.string { data := #[91, 55, 126] }] w fun e w' => e = .returned (.agg #[.int .i64 6, .int .i64 0]) ∧ Below w.heap.size w w' := by
  have e0 : (({ data := #[91, 55, 126] } : ByteArray) == { data := #[91, 67] }) = false := by kernel_rfl
  have e1 : (({ data := #[91, 55, 126] } : ByteArray) == { data := #[79, 67] }) = false := by kernel_rfl
  have e2 : (({ data := #[91, 55, 126] } : ByteArray) == { data := #[91, 68] }) = false := by kernel_rfl
  have e3 : (({ data := #[91, 55, 126] } : ByteArray) == { data := #[79, 68] }) = false := by kernel_rfl
  have e4 : (({ data := #[91, 55, 126] } : ByteArray) == { data := #[91, 72] }) = false := by kernel_rfl
  have e5 : (({ data := #[91, 55, 126] } : ByteArray) == { data := #[79, 72] }) = false := by kernel_rfl
  have e6 : (({ data := #[91, 55, 126] } : ByteArray) == { data := #[91, 49, 126] }) = false := by kernel_rfl
  have e7 : (({ data := #[91, 55, 126] } : ByteArray) == { data := #[91, 55, 126] }) = true := by kernel_rfl
  have e8 : (({ data := #[91, 55, 126] } : ByteArray) == { data := #[91, 70] }) = false := by kernel_rfl
  have e9 : (({ data := #[91, 55, 126] } : ByteArray) == { data := #[79, 70] }) = false := by kernel_rfl
  have e10 : (({ data := #[91, 55, 126] } : ByteArray) == { data := #[91, 52, 126] }) = false := by kernel_rfl
  have e11 : (({ data := #[91, 55, 126] } : ByteArray) == { data := #[91, 56, 126] }) = false := by kernel_rfl
  have e12 : (({ data := #[91, 55, 126] } : ByteArray) == { data := #[91, 51, 126] }) = false := by kernel_rfl
  have e13 : (({ data := #[91, 55, 126] } : ByteArray) == { data := #[91, 50, 48, 48, 126] }) = false := by kernel_rfl
  have e14 : (({ data := #[91, 55, 126] } : ByteArray) == { data := #[91, 50, 48, 49, 126] }) = false := by kernel_rfl
  go_enter Tryd.func72, Tryd.ntmps72
  go_wp2
  (try simp only [Exit.inBlock, Exit.then])
  refine bodyPost_ret (results_key rfl _ _ w.heap.size 54 #[.int .i64 6, .int .i64 0] _ rfl (Blk.new w _ _) Tryd.underlying54 rfl (by kernel_rfl)) rfl ?_
  exact ⟨rfl, (Below.refl _ _).alloc (Nat.le_refl _) _⟩

theorem key_at8 (w : World) : Calls Tryd.prog 72 #[.string { data := #[91, 70] }] w fun e w' => e = .returned (.agg #[.int .i64 7, .int .i64 0]) ∧ Below w.heap.size w w' := by
  have e0 : (({ data := #[91, 70] } : ByteArray) == { data := #[91, 67] }) = false := by kernel_rfl
  have e1 : (({ data := #[91, 70] } : ByteArray) == { data := #[79, 67] }) = false := by kernel_rfl
  have e2 : (({ data := #[91, 70] } : ByteArray) == { data := #[91, 68] }) = false := by kernel_rfl
  have e3 : (({ data := #[91, 70] } : ByteArray) == { data := #[79, 68] }) = false := by kernel_rfl
  have e4 : (({ data := #[91, 70] } : ByteArray) == { data := #[91, 72] }) = false := by kernel_rfl
  have e5 : (({ data := #[91, 70] } : ByteArray) == { data := #[79, 72] }) = false := by kernel_rfl
  have e6 : (({ data := #[91, 70] } : ByteArray) == { data := #[91, 49, 126] }) = false := by kernel_rfl
  have e7 : (({ data := #[91, 70] } : ByteArray) == { data := #[91, 55, 126] }) = false := by kernel_rfl
  have e8 : (({ data := #[91, 70] } : ByteArray) == { data := #[91, 70] }) = true := by kernel_rfl
  have e9 : (({ data := #[91, 70] } : ByteArray) == { data := #[79, 70] }) = false := by kernel_rfl
  have e10 : (({ data := #[91, 70] } : ByteArray) == { data := #[91, 52, 126] }) = false := by kernel_rfl
  have e11 : (({ data := #[91, 70] } : ByteArray) == { data := #[91, 56, 126] }) = false := by kernel_rfl
  have e12 : (({ data := #[91, 70] } : ByteArray) == { data := #[91, 51, 126] }) = false := by kernel_rfl
  have e13 : (({ data := #[91, 70] } : ByteArray) == { data := #[91, 50, 48, 48, 126] }) = false := by kernel_rfl
  have e14 : (({ data := #[91, 70] } : ByteArray) == { data := #[91, 50, 48, 49, 126] }) = false := by kernel_rfl
  go_enter Tryd.func72, Tryd.ntmps72
  go_wp2
  (try simp only [Exit.inBlock, Exit.then])
  refine bodyPost_ret (results_key rfl _ _ w.heap.size 54 #[.int .i64 7, .int .i64 0] _ rfl (Blk.new w _ _) Tryd.underlying54 rfl (by kernel_rfl)) rfl ?_
  exact ⟨rfl, (Below.refl _ _).alloc (Nat.le_refl _) _⟩

theorem key_at9 (w : World) : Calls Tryd.prog 72 #[.string { data := #[79, 70] }] w fun e w' => e = .returned (.agg #[.int .i64 7, .int .i64 0]) ∧ Below w.heap.size w w' := by
  have e0 : (({ data := #[79, 70] } : ByteArray) == { data := #[91, 67] }) = false := by kernel_rfl
  have e1 : (({ data := #[79, 70] } : ByteArray) == { data := #[79, 67] }) = false := by kernel_rfl
  have e2 : (({ data := #[79, 70] } : ByteArray) == { data := #[91, 68] }) = false := by kernel_rfl
  have e3 : (({ data := #[79, 70] } : ByteArray) == { data := #[79, 68] }) = false := by kernel_rfl
  have e4 : (({ data := #[79, 70] } : ByteArray) == { data := #[91, 72] }) = false := by kernel_rfl
  have e5 : (({ data := #[79, 70] } : ByteArray) == { data := #[79, 72] }) = false := by kernel_rfl
  have e6 : (({ data := #[79, 70] } : ByteArray) == { data := #[91, 49, 126] }) = false := by kernel_rfl
  have e7 : (({ data := #[79, 70] } : ByteArray) == { data := #[91, 55, 126] }) = false := by kernel_rfl
  have e8 : (({ data := #[79, 70] } : ByteArray) == { data := #[91, 70] }) = false := by kernel_rfl
  have e9 : (({ data := #[79, 70] } : ByteArray) == { data := #[79, 70] }) = true := by kernel_rfl
  have e10 : (({ data := #[79, 70] } : ByteArray) == { data := #[91, 52, 126] }) = false := by kernel_rfl
  have e11 : (({ data := #[79, 70] } : ByteArray) == { data := #[91, 56, 126] }) = false := by kernel_rfl
  have e12 : (({ data := #[79, 70] } : ByteArray) == { data := #[91, 51, 126] }) = false := by kernel_rfl
  have e13 : (({ data := #[79, 70] } : ByteArray) == { data := #[91, 50, 48, 48, 126] }) = false := by kernel_rfl
  have e14 : (({ data := #[79, 70] } : ByteArray) == { data := #[91, 50, 48, 49, 126] }) = false := by kernel_rfl
  go_enter Tryd.func72, Tryd.ntmps72
  go_wp2
  (try simp only [Exit.inBlock, Exit.then])
  refine bodyPost_ret (results_key rfl _ _ w.heap.size 54 #[.int .i64 7, .int .i64 0] _ rfl (Blk.new w _ _) Tryd.underlying54 rfl (by kernel_rfl)) rfl ?_
  exact ⟨rfl, (Below.refl _ _).alloc (Nat.le_refl _) _⟩

theorem key_at10 (w : World) : Calls Tryd.prog 72 #[.string { data := #[91, 52, 126] }] w fun e w' => e = .returned (.agg #[.int .i64 7, .int .i64 0]) ∧ Below w.heap.size w w' := by
  have e0 : (({ data := #[91, 52, 126] } : ByteArray) == { data := #[91, 67] }) = false := by kernel_rfl
  have e1 : (({ data := #[91, 52, 126] } : ByteArray) == { data := #[79, 67] }) = false := by kernel_rfl
  have e2 : (({ data := #[91, 52, 126] } : ByteArray) == { data := #[91, 68] }) = false := by kernel_rfl
  have e3 : (({ data := #[91, 52, 126] } : ByteArray) == { data := #[79, 68] }) = false := by kernel_rfl
  have e4 : (({ data := #[91, 52, 126] } : ByteArray) == { data := #[91, 72] }) = false := by kernel_rfl
  have e5 : (({ data := #[91, 52, 126] } : ByteArray) == { data := #[79, 72] }) = false := by kernel_rfl
  have e6 : (({ data := #[91, 52, 126] } : ByteArray) == { data := #[91, 49, 126] }) = false := by kernel_rfl
  have e7 : (({ data := #[91, 52, 126] } : ByteArray) == { data := #[91, 55, 126] }) = false := by kernel_rfl
  have e8 : (({ data := #[91, 52, 126] } : ByteArray) == { data := #[91, 70] }) = false := by kernel_rfl
  have e9 : (({ data := #[91, 52, 126] } : ByteArray) == { data := #[79, 70] }) = false := by kernel_rfl
  have e10 : (({ data := #[91, 52, 126] } : ByteArray) == { data := #[91, 52, 126] }) = true := by kernel_rfl
  have e11 : (({ data := #[91, 52, 126] } : ByteArray) == { data := #[91, 56, 126] }) = false := by kernel_rfl
  have e12 : (({ data := #[91, 52, 126] } : ByteArray) == { data := #[91, 51, 126] }) = false := by kernel_rfl
  have e13 : (({ data := #[91, 52, 126] } : ByteArray) == { data := #[91, 50, 48, 48, 126] }) = false := by kernel_rfl
  have e14 : (({ data := #[91, 52, 126] } : ByteArray) == { data := #[91, 50, 48, 49, 126] }) = false := by kernel_rfl
  go_enter Tryd.func72, Tryd.ntmps72
  go_wp2
  (try simp only [Exit.inBlock, Exit.then])
  refine bodyPost_ret (results_key rfl _ _ w.heap.size 54 #[.int .i64 7, .int .i64 0] _ rfl (Blk.new w _ _) Tryd.underlying54 rfl (by kernel_rfl)) rfl ?_
  exact ⟨rfl, (Below.refl _ _).alloc (Nat.le_refl _) _⟩

theorem key_at11 (w : World) : Calls Tryd.prog 72 #[.string { data := #[91, 56, 126] }] w fun e w' => e = .returned (.agg #[.int .i64 7, .int .i64 0]) ∧ Below w.heap.size w w' := by
  have e0 : (({ data := #[91, 56, 126] } : ByteArray) == { data := #[91, 67] }) = false := by kernel_rfl
  have e1 : (({ data := #[91, 56, 126] } : ByteArray) == { data := #[79, 67] }) = false := by kernel_rfl
  have e2 : (({ data := #[91, 56, 126] } : ByteArray) == { data := #[91, 68] }) = false := by kernel_rfl
  have e3 : (({ data := #[91, 56, 126] } : ByteArray) == { data := #[79, 68] }) = false := by kernel_rfl
  have e4 : (({ data := #[91, 56, 126] } : ByteArray) == { data := #[91, 72] }) = false := by kernel_rfl
  have e5 : (({ data := #[91, 56, 126] } : ByteArray) == { data := #[79, 72] }) = false := by kernel_rfl
  have e6 : (({ data := #[91, 56, 126] } : ByteArray) == { data := #[91, 49, 126] }) = false := by kernel_rfl
  have e7 : (({ data := #[91, 56, 126] } : ByteArray) == { data := #[91, 55, 126] }) = false := by kernel_rfl
  have e8 : (({ data := #[91, 56, 126] } : ByteArray) == { data := #[91, 70] }) = false := by kernel_rfl
  have e9 : (({ data := #[91, 56, 126] } : ByteArray) == { data := #[79, 70] }) = false := by kernel_rfl
  have e10 : (({ data := #[91, 56, 126] } : ByteArray) == { data := #[91, 52, 126] }) = false := by kernel_rfl
  have e11 : (({ data := #[91, 56, 126] } : ByteArray) == { data := #[91, 56, 126] }) = true := by kernel_rfl
  have e12 : (({ data := #[91, 56, 126] } : ByteArray) == { data := #[91, 51, 126] }) = false := by kernel_rfl
  have e13 : (({ data := #[91, 56, 126] } : ByteArray) == { data := #[91, 50, 48, 48, 126] }) = false := by kernel_rfl
  have e14 : (({ data := #[91, 56, 126] } : ByteArray) == { data := #[91, 50, 48, 49, 126] }) = false := by kernel_rfl
  go_enter Tryd.func72, Tryd.ntmps72
  go_wp2
  (try simp only [Exit.inBlock, Exit.then])
  refine bodyPost_ret (results_key rfl _ _ w.heap.size 54 #[.int .i64 7, .int .i64 0] _ rfl (Blk.new w _ _) Tryd.underlying54 rfl (by kernel_rfl)) rfl ?_
  exact ⟨rfl, (Below.refl _ _).alloc (Nat.le_refl _) _⟩

theorem key_at12 (w : World) : Calls Tryd.prog 72 #[.string { data := #[91, 51, 126] }] w fun e w' => e = .returned (.agg #[.int .i64 3, .int .i64 0]) ∧ Below w.heap.size w w' := by
  have e0 : (({ data := #[91, 51, 126] } : ByteArray) == { data := #[91, 67] }) = false := by kernel_rfl
  have e1 : (({ data := #[91, 51, 126] } : ByteArray) == { data := #[79, 67] }) = false := by kernel_rfl
  have e2 : (({ data := #[91, 51, 126] } : ByteArray) == { data := #[91, 68] }) = false := by kernel_rfl
  have e3 : (({ data := #[91, 51, 126] } : ByteArray) == { data := #[79, 68] }) = false := by kernel_rfl
  have e4 : (({ data := #[91, 51, 126] } : ByteArray) == { data := #[91, 72] }) = false := by kernel_rfl
  have e5 : (({ data := #[91, 51, 126] } : ByteArray) == { data := #[79, 72] }) = false := by kernel_rfl
  have e6 : (({ data := #[91, 51, 126] } : ByteArray) == { data := #[91, 49, 126] }) = false := by kernel_rfl
  have e7 : (({ data := #[91, 51, 126] } : ByteArray) == { data := #[91, 55, 126] }) = false := by kernel_rfl
  have e8 : (({ data := #[91, 51, 126] } : ByteArray) == { data := #[91, 70] }) = false := by kernel_rfl
  have e9 : (({ data := #[91, 51, 126] } : ByteArray) == { data := #[79, 70] }) = false := by kernel_rfl
  have e10 : (({ data := #[91, 51, 126] } : ByteArray) == { data := #[91, 52, 126] }) = false := by kernel_rfl
  have e11 : (({ data := #[91, 51, 126] } : ByteArray) == { data := #[91, 56, 126] }) = false := by kernel_rfl
  have e12 : (({ data := #[91, 51, 126] } : ByteArray) == { data := #[91, 51, 126] }) = true := by kernel_rfl
  have e13 : (({ data := #[91, 51, 126] } : ByteArray) == { data := #[91, 50, 48, 48, 126] }) = false := by kernel_rfl
  have e14 : (({ data := #[91, 51, 126] } : ByteArray) == { data := #[91, 50, 48, 49, 126] }) = false := by kernel_rfl
  go_enter Tryd.func72, Tryd.ntmps72
  go_wp2
  (try simp only [Exit.inBlock, Exit.then])
  refine bodyPost_ret (results_key rfl _ _ w.heap.size 54 #[.int .i64 3, .int .i64 0] _ rfl (Blk.new w _ _) Tryd.underlying54 rfl (by kernel_rfl)) rfl ?_
  exact ⟨rfl, (Below.refl _ _).alloc (Nat.le_refl _) _⟩

theorem key_at13 (w : World) : Calls Tryd.prog 72 #[.string { data := #[91, 50, 48, 48, 126] }] w fun e w' => e = .returned (.agg #[.int .i64 13, .int .i64 0]) ∧ Below w.heap.size w w' := by
  have e0 : (({ data := #[91, 50, 48, 48, 126] } : ByteArray) == { data := #[91, 67] }) = false := by kernel_rfl
  have e1 : (({ data := #[91, 50, 48, 48, 126] } : ByteArray) == { data := #[79, 67] }) = false := by kernel_rfl
  have e2 : (({ data := #[91, 50, 48, 48, 126] } : ByteArray) == { data := #[91, 68] }) = false := by kernel_rfl
  have e3 : (({ data := #[91, 50, 48, 48, 126] } : ByteArray) == { data := #[79, 68] }) = false := by kernel_rfl
  have e4 : (({ data := #[91, 50, 48, 48, 126] } : ByteArray) == { data := #[91, 72] }) = false := by kernel_rfl
  have e5 : (({ data := #[91, 50, 48, 48, 126] } : ByteArray) == { data := #[79, 72] }) = false := by kernel_rfl
  have e6 : (({ data := #[91, 50, 48, 48, 126] } : ByteArray) == { data := #[91, 49, 126] }) = false := by kernel_rfl
  have e7 : (({ data := #[91, 50, 48, 48, 126] } : ByteArray) == { data := #[91, 55, 126] }) = false := by kernel_rfl
  have e8 : (({ data := #[91, 50, 48, 48, 126] } : ByteArray) == { data := #[91, 70] }) = false := by kernel_rfl
  have e9 : (({ data := #[91, 50, 48, 48, 126] } : ByteArray) == { data := #[79, 70] }) = false := by kernel_rfl
  have e10 : (({ data := #[91, 50, 48, 48, 126] } : ByteArray) == { data := #[91, 52, 126] }) = false := by kernel_rfl
  have e11 : (({ data := #[91, 50, 48, 48, 126] } : ByteArray) == { data := #[91, 56, 126] }) = false := by kernel_rfl
  have e12 : (({ data := #[91, 50, 48, 48, 126] } : ByteArray) == { data := #[91, 51, 126] }) = false := by kernel_rfl
  have e13 : (({ data := #[91, 50, 48, 48, 126] } : ByteArray) == { data := #[91, 50, 48, 48, 126] }) = true := by kernel_rfl
  have e14 : (({ data := #[91, 50, 48, 48, 126] } : ByteArray) == { data := #[91, 50, 48, 49, 126] }) = false := by kernel_rfl
  go_enter Tryd.func72, Tryd.ntmps72
  go_wp2
  (try simp only [Exit.inBlock, Exit.then])
  refine bodyPost_ret (results_key rfl _ _ w.heap.size 54 #[.int .i64 13, .int .i64 0] _ rfl (Blk.new w _ _) Tryd.underlying54 rfl (by kernel_rfl)) rfl ?_
  exact ⟨rfl, (Below.refl _ _).alloc (Nat.le_refl _) _⟩

theorem key_at14 (w : World) : Calls Tryd.prog 72 #[.string { data := #[91, 50, 48, 49, 126] }] w fun e w' => e = .returned (.agg #[.int .i64 14, .int .i64 0]) ∧ Below w.heap.size w w' := by
  have e0 : (({ data := #[91, 50, 48, 49, 126] } : ByteArray) == { data := #[91, 67] }) = false := by kernel_rfl
  have e1 : (({ data := #[91, 50, 48, 49, 126] } : ByteArray) == { data := #[79, 67] }) = false := by kernel_rfl
  have e2 : (({ data := #[91, 50, 48, 49, 126] } : ByteArray) == { data := #[91, 68] }) = false := by kernel_rfl
  have e3 : (({ data := #[91, 50, 48, 49, 126] } : ByteArray) == { data := #[79, 68] }) = false := by kernel_rfl
  have e4 : (({ data := #[91, 50, 48, 49, 126] } : ByteArray) == { data := #[91, 72] }) = false := by kernel_rfl
  have e5 : (({ data := #[91, 50, 48, 49, 126] } : ByteArray) == { data := #[79, 72] }) = false := by kernel_rfl
  have e6 : (({ data := #[91, 50, 48, 49, 126] } : ByteArray) == { data := #[91, 49, 126] }) = false := by kernel_rfl
  have e7 : (({ data := #[91, 50, 48, 49, 126] } : ByteArray) == { data := #[91, 55, 126] }) = false := by kernel_rfl
  have e8 : (({ data := #[91, 50, 48, 49, 126] } : ByteArray) == { data := #[91, 70] }) = false := by kernel_rfl
  have e9 : (({ data := #[91, 50, 48, 49, 126] } : ByteArray) == { data := #[79, 70] }) = false := by kernel_rfl
  have e10 : (({ data := #[91, 50, 48, 49, 126] } : ByteArray) == { data := #[91, 52, 126] }) = false := by kernel_rfl
  have e11 : (({ data := #[91, 50, 48, 49, 126] } : ByteArray) == { data := #[91, 56, 126] }) = false := by kernel_rfl
  have e12 : (({ data := #[91, 50, 48, 49, 126] } : ByteArray) == { data := #[91, 51, 126] }) = false := by kernel_rfl
  have e13 : (({ data := #[91, 50, 48, 49, 126] } : ByteArray) == { data := #[91, 50, 48, 48, 126] }) = false := by kernel_rfl
  have e14 : (({ data := #[91, 50, 48, 49, 126] } : ByteArray) == { data := #[91, 50, 48, 49, 126] }) = true := by kernel_rfl
  go_enter Tryd.func72, Tryd.ntmps72
  go_wp2
  (try simp only [Exit.inBlock, Exit.then])
  refine bodyPost_ret (results_key rfl _ _ w.heap.size 54 #[.int .i64 14, .int .i64 0] _ rfl (Blk.new w _ _) Tryd.underlying54 rfl (by kernel_rfl)) rfl ?_
  exact ⟨rfl, (Below.refl _ _).alloc (Nat.le_refl _) _⟩

set_option maxHeartbeats 4000000 in
theorem key_else (s : List UInt8) (w : World) (h0 : s ≠ [91, 67]) (h1 : s ≠ [79, 67]) (h2 : s ≠ [91, 68]) (h3 : s ≠ [79, 68]) (h4 : s ≠ [91, 72]) (h5 : s ≠ [79, 72]) (h6 : s ≠ [91, 49, 126]) (h7 : s ≠ [91, 55, 126]) (h8 : s ≠ [91, 70]) (h9 : s ≠ [79, 70]) (h10 : s ≠ [91, 52, 126]) (h11 : s ≠ [91, 56, 126]) (h12 : s ≠ [91, 51, 126]) (h13 : s ≠ [91, 50, 48, 48, 126]) (h14 : s ≠ [91, 50, 48, 49, 126]) : Calls Tryd.prog 72 #[.string (strOf s)] w fun e w' => e = .returned (.agg #[.int .i64 15, .int .i64 0]) ∧ Below w.heap.size w w' := by
  have e0 : ((strOf s).toList == [91, 67]) = false := by rw [strOf_toList]; simpa using h0
  have e1 : ((strOf s).toList == [79, 67]) = false := by rw [strOf_toList]; simpa using h1
  have e2 : ((strOf s).toList == [91, 68]) = false := by rw [strOf_toList]; simpa using h2
  have e3 : ((strOf s).toList == [79, 68]) = false := by rw [strOf_toList]; simpa using h3
  have e4 : ((strOf s).toList == [91, 72]) = false := by rw [strOf_toList]; simpa using h4
  have e5 : ((strOf s).toList == [79, 72]) = false := by rw [strOf_toList]; simpa using h5
  have e6 : ((strOf s).toList == [91, 49, 126]) = false := by rw [strOf_toList]; simpa using h6
  have e7 : ((strOf s).toList == [91, 55, 126]) = false := by rw [strOf_toList]; simpa using h7
  have e8 : ((strOf s).toList == [91, 70]) = false := by rw [strOf_toList]; simpa using h8
  have e9 : ((strOf s).toList == [79, 70]) = false := by rw [strOf_toList]; simpa using h9
  have e10 : ((strOf s).toList == [91, 52, 126]) = false := by rw [strOf_toList]; simpa using h10
  have e11 : ((strOf s).toList == [91, 56, 126]) = false := by rw [strOf_toList]; simpa using h11
  have e12 : ((strOf s).toList == [91, 51, 126]) = false := by rw [strOf_toList]; simpa using h12
  have e13 : ((strOf s).toList == [91, 50, 48, 48, 126]) = false := by rw [strOf_toList]; simpa using h13
  have e14 : ((strOf s).toList == [91, 50, 48, 49, 126]) = false := by rw [strOf_toList]; simpa using h14
  clear h0 h1 h2 h3 h4 h5 h6 h7 h8 h9 h10 h11 h12 h13 h14
  go_enter Tryd.func72, Tryd.ntmps72
  go_wp2
  (try simp only [Exit.inBlock, Exit.then])
  refine bodyPost_ret (results_key rfl _ _ w.heap.size 54 #[.int .i64 15, .int .i64 0] _ rfl (Blk.new w _ _) Tryd.underlying54 rfl (by kernel_rfl)) rfl ?_
  exact ⟨rfl, (Below.refl _ _).alloc (Nat.le_refl _) _⟩

theorem key_c (s : List UInt8) (w : World) : Calls Tryd.prog 72 #[.string (strOf s)] w fun e w' => e = .returned (.agg #[.int .i64 (refKey s), .int .i64 0]) ∧ Below w.heap.size w w' := by
  by_cases h0 : s = [91, 67]; · subst h0; exact key_at0 w
  by_cases h1 : s = [79, 67]; · subst h1; exact key_at1 w
  by_cases h2 : s = [91, 68]; · subst h2; exact key_at2 w
  by_cases h3 : s = [79, 68]; · subst h3; exact key_at3 w
  by_cases h4 : s = [91, 72]; · subst h4; exact key_at4 w
  by_cases h5 : s = [79, 72]; · subst h5; exact key_at5 w
  by_cases h6 : s = [91, 49, 126]; · subst h6; exact key_at6 w
  by_cases h7 : s = [91, 55, 126]; · subst h7; exact key_at7 w
  by_cases h8 : s = [91, 70]; · subst h8; exact key_at8 w
  by_cases h9 : s = [79, 70]; · subst h9; exact key_at9 w
  by_cases h10 : s = [91, 52, 126]; · subst h10; exact key_at10 w
  by_cases h11 : s = [91, 56, 126]; · subst h11; exact key_at11 w
  by_cases h12 : s = [91, 51, 126]; · subst h12; exact key_at12 w
  by_cases h13 : s = [91, 50, 48, 48, 126]; · subst h13; exact key_at13 w
  by_cases h14 : s = [91, 50, 48, 49, 126]; · subst h14; exact key_at14 w
  have e : refKey s = 15 := by unfold refKey refKeys; simp only [lookT]; rw [if_neg h0, if_neg h1, if_neg h2, if_neg h3, if_neg h4, if_neg h5, if_neg h6, if_neg h7, if_neg h8, if_neg h9, if_neg h10, if_neg h11, if_neg h12, if_neg h13, if_neg h14]; rfl
  rw [e]
  exact key_else s w h0 h1 h2 h3 h4 h5 h6 h7 h8 h9 h10 h11 h12 h13 h14

end Go.Proofs.YtcakeolnokninaaDoor.Edit

/- The document's key of a sequence: whispererref09.Next, walked. -/
set_option linter.unusedVariables false
set_option linter.unusedSimpArgs false
namespace Go.Proofs.YtcakeolnokninaaDoor.Edit
open Go.RowKit Go.Lib Go.Shelf ChangeShapes Mem Utf UtfP

theorem seqF_flip (l : List UInt8) (n i : Nat) (h : n = 0 ∨ bt l 1 = 79 ∨ 34 ≤ i ∨ ¬ (48 ≤ bt l i ∧ bt l i ≤ 63)) : seqF l n i false = seqF l n i true := by
  cases n with
  | zero => rfl
  | succ n =>
    unfold seqF
    split
    · rfl
    · split
      · rfl
      · rename_i h2
        have hn : ¬ ((48 ≤ bt l i ∧ bt l i ≤ 63) ∧ false = false) := fun h3 => by
          rcases h with h | h | h | h
          · cases h
          · exact h2 (Or.inl h)
          · exact h2 (Or.inr h)
          · exact h h3.1
        have hn2 : ¬ ((48 ≤ bt l i ∧ bt l i ≤ 63) ∧ true = false) := fun h3 => by cases h3.2
        rw [if_neg hn, if_neg hn2]

theorem slice_b2 (B off n cap k : Nat) (x : Int) (hx : x = ((k + 1 : Nat) : Int)) (hk : k + 1 ≤ cap) (hk1 : 1 ≤ k) (w : World) :
    (Instr.slice 22 (.slice (some ⟨B, off, none⟩) n cap) (some (.int .i64 1)) (some (.int .i64 x)) none).run Tryd.prog w = .ok (.slice (some ⟨B, off + 1, none⟩) k (cap - 1)) w := by
  subst hx
  have hj : 0 ≤ (k : Int) + 1 ∧ (k : Int) + 1 ≤ (cap : Int) := ⟨by omega, by omega⟩
  have hj2 : (1 : Int) ≤ (k : Int) + 1 := by omega
  have hs : (sizeOf 5).run Tryd.prog w = .ok 1 w := by kernel_rfl
  have hc1 : ¬ cap = 1 := by omega
  simp [Instr.slice, Instr.sliceBounds, Instr.sliceBound, asIntOf, run_underlying Tryd.underlying22, hj, hj2, hk, hs, hc1, Result.andThen, Addr.add]

theorem take_cons27 {l : List UInt8} (h0 : bt l 0 = 27) (h1 : 0 < l.length) (j : Nat) : l.take (j + 1) = 27 :: (l.drop 1).take j := by
  cases l with
  | nil => simp at h1
  | cons x r =>
    have : x = 27 := by
      have h2 : x.toNat = 27 := h0
      exact UInt8.toNat_inj.1 (by rw [h2]; rfl)
    subst this
    simp

theorem SeqW.bytes1 {w W : World} {B off : Nat} {l : List UInt8} (h : SeqW w W B off l) (n : Nat) : BytesAt W (some ⟨B, off + 1, none⟩) ((l.drop 1).take n) := by
  intro hne
  refine ⟨B, off + 1, rfl, h.lt, fun j hj => ?_⟩
  rw [List.length_take, List.length_drop] at hj
  have e : bt ((l.drop 1).take n) j = bt l (1 + j) := by
    unfold bt
    rw [List.getD_eq_getElem?_getD, List.getD_eq_getElem?_getD, List.getElem?_take_of_lt (by omega), List.getElem?_drop]
  rw [Nat.add_assoc, e]
  exact h.cells (1 + j) (by omega)
theorem SeqW.conv1 {w W : World} {B off : Nat} {l : List UInt8} (h : SeqW w W B off l) {j : Nat} (hj : j < l.length) (cap : Nat) :
    (convert 22 9 (.slice (some ⟨B, off + 1, none⟩) j cap)).run Tryd.prog W = .ok (.string (strOf ((l.drop 1).take j))) W := by
  have := conv_str (cap := cap) (h.bytes1 j)
  rw [List.length_take, List.length_drop, Nat.min_eq_left (by omega)] at this
  exact this

set_option maxRecDepth 100000 in
set_option maxHeartbeats 8000000 in
theorem ref_next (l : List UInt8) (A : Option Addr) (cap : Nat) (w : World) (hA : BytesAt w A l) (hcap : l.length ≤ cap) (hm : l.length ≤ 1000000) :
    Calls Tryd.prog 55 #[.slice A l.length cap] w fun e w' => e = .returned (.tuple #[.agg #[.int .i64 (seqN l).1, .int .i64 0], .int .i64 ((seqN l).2.1 : Int), .int .i64 (seqN l).2.2]) ∧ Below w.heap.size w w' := by
  have hal : ∀ C : Array Value, Below w.heap.size w ((w.alloc (.cells C 54)).alloc (.cells #[.int .i64 15, .int .i64 0] 54)) := fun C => by
    have h1 : Below w.heap.size w (w.alloc (.cells C 54)) := (Below.refl _ _).alloc (Nat.le_refl _) _
    exact h1.alloc h1.size _
  have HALC := Lib.hid hal
  clear hal
  by_cases h0 : l = []
  · subst h0
    have hs : seqN [] = (0, 0, 6) := rfl
    rw [hs]
    clear hA hcap hm
    show Calls _ _ #[.slice A 0 cap] _ _
    go_enter Tryd.func55, Tryd.ntmps55
    go_wp2
    (try simp only [Exit.inBlock, Exit.then])
    refine bodyPost_ret (results_cell3 rfl _ _ w.heap.size 54 #[.int .i64 0, .int .i64 0] _ rfl ((Blk.new w _ _).alloc _) Tryd.underlying54 rfl (by kernel_rfl)) rfl ?_
    exact ⟨rfl, HALC.out _⟩
  · have hpos : 0 < l.length := List.length_pos_iff.2 h0
    obtain ⟨B, off, rfl, hB, hc⟩ := hA h0
    have hsz := hB
    have HC := Lib.hid hc
    have q0 : w.cell? ⟨B, off, none⟩ = _ := hc 0 hpos
    obtain ⟨x, hx⟩ : ∃ x, bt l 0 = x := ⟨_, rfl⟩
    rw [hx] at q0
    have hsN : seqN l = (if x ≠ 27 then (0, 0, 8) else if 1 < l.length ∧ bt l 1 ≠ 91 ∧ bt l 1 ≠ 79 then (15, 1, 0) else seqF l (l.length - 2) 2 false) := by
      unfold seqN; rw [if_neg h0, hx]
    obtain ⟨R, hR⟩ : ∃ R, seqN l = R := ⟨_, rfl⟩
    rw [hR] at hsN ⊢
    have HR := Lib.hid hsN
    have HX := Lib.hid hx
    have k0 : (0 : Int) < (l.length : Int) := by omega
    have kz : ((l.length : Int) == 0) = false := by simp; omega
    clear hc hx hsN hR h0
    by_cases hx : x = 27
    · subst hx
      by_cases hl1 : l.length = 1
      · have HR3 : Hid (R = (0, 1, 7)) := by
          have h1 := HR.out
          rw [if_neg (by simp), if_neg (by omega), show l.length - 2 = 0 by omega] at h1
          rw [h1]
          show (0, l.length, 7) = _
          rw [hl1]
        have kl : ((l.length : Int) == 1) = true := by rw [hl1]; rfl
        clear hl1
        go_enter Tryd.func55, Tryd.ntmps55
        go_wp2
        (try simp only [Exit.inBlock, Exit.then])
        refine bodyPost_ret (results_cell3 rfl _ _ w.heap.size 54 #[.int .i64 0, .int .i64 0] _ rfl ((Blk.new w _ _).alloc _) Tryd.underlying54 rfl (by kernel_rfl)) rfl ?_
        exact ⟨by rw [HR3.out]; rfl, HALC.out _⟩
      · have h1 : 1 < l.length := by omega
        have kl1 : ((l.length : Int) == 1) = false := by simp; omega
        have q1 := HC.out 1 h1
        by_cases hI : bt l 1 ≠ 91 ∧ bt l 1 ≠ 79
        · obtain ⟨hA1, hA2⟩ := hI
          obtain ⟨y, hy⟩ : ∃ y, bt l 1 = y := ⟨_, rfl⟩
          have HR2 : Hid (R = (15, 1, 0)) := by
            have := HR.out
            rw [if_neg (by simp), if_pos ⟨h1, hA1, hA2⟩] at this
            exact this
          rw [hy] at q1 hA1 hA2
          have y1 : ((y : Int) != 91) = true := by rw [bne_iff_ne]; omega
          have y2 : ((y : Int) != 79) = true := by rw [bne_iff_ne]; omega
          have kl : (1 : Int) < (l.length : Int) := by omega
          clear hA1 hA2 hy hl1
          go_enter Tryd.func55, Tryd.ntmps55
          go_wp2
          (try simp only [Exit.inBlock, Exit.then])
          refine bodyPost_ret (results_cell3 rfl _ _ w.heap.size 54 #[.int .i64 15, .int .i64 0] _ rfl ((Blk.new w _ _).alloc _) Tryd.underlying54 rfl (by kernel_rfl)) rfl ?_
          exact ⟨by rw [HR2.out]; rfl, HALC.out _⟩
        · have HS := Lib.hid (SeqW.mk2 hB HC.out)
          obtain ⟨W, hW⟩ : ∃ W, (w.alloc (.cells #[.int .i64 0, .int .i64 0] 54)).alloc (.cells #[.int .i64 15, .int .i64 0] 54) = W := ⟨_, rfl⟩
          rw [hW] at HS
          have HW := Lib.hid hW
          have HR2 : Hid (seqF l (l.length - 2) 2 false = R) := by
            have := HR.out
            rw [if_neg (by simp), if_neg (fun h => hI h.2)] at this
            exact this.symm
          have hyy : bt l 1 = 91 ∨ bt l 1 = 79 := by
            by_cases e : bt l 1 = 91
            · exact Or.inl e
            · by_cases e2 : bt l 1 = 79
              · exact Or.inr e2
              · exact absurd ⟨e, e2⟩ hI
          obtain ⟨y, hy⟩ : ∃ y, bt l 1 = y := ⟨_, rfl⟩
          rw [hy] at q1 hyy
          have kl : (1 : Int) < (l.length : Int) := by omega
          have HY := Lib.hid hy
          clear hI hW hA HR hy hl1
          go_enter Tryd.func55, Tryd.ntmps55
          rcases hyy with rfl | rfl
          · skip
            go_upto_block 0 with fail
            rw [HW.out]
            have hBW := HS.out.lt
            have r0 := HS.out.res.cell (j := 0) (v := .int .i64 0) rfl
            have r1 := HS.out.res.cell (j := 1) (v := .int .i64 0) rfl
            have rf0 := HS.out.res.free 0
            have rf1 := HS.out.res.free 1
            have i0 := HS.out.ign.cell (j := 0) (v := .int .i64 15) rfl
            have i1 := HS.out.ign.cell (j := 1) (v := .int .i64 0) rfl
            have hrl := HS.out.res.lt
            have hil := HS.out.ign.lt
            have q1w : W.cell? ⟨B, off + 1, none⟩ = some (.int .u8 91) := by rw [HS.out.cells 1 h1, HY.out]; rfl
            go_cut [6] from 32 to 61 (fun s6 wx => ∃ j : Nat, s6 = .int .i64 (j : Int) ∧ W = wx ∧ 2 ≤ j ∧ j ≤ l.length ∧ j ≤ 34 ∧ Hid (seqF l (l.length - j) j true = R))
            case first =>
              go_wp2
              go_loopw [6] (fun i wr => ∃ j : Nat, i = .int .i64 (j : Int) ∧ W = wr ∧ 2 ≤ j ∧ j ≤ l.length ∧ j ≤ 34 ∧ Hid (seqF l (l.length - j) j false = R)) (fun i _ => l.length - (RowKit.intOf i).toNat)
              case atStart => exact ⟨2, rfl, rfl, Nat.le_refl _, h1, by decide, HR2⟩
              case round =>
                obtain ⟨j, rfl, hwr, hj2, hjl, hj34, HF⟩ := hrel
                obtain rfl := hwr
                by_cases hlt : j < l.length
                · have k0 : (j : Int) < (l.length : Int) := by omega
                  have qj := HS.out.cells j hlt
                  obtain ⟨c, hc⟩ : ∃ c, bt l j = c := ⟨_, rfl⟩
                  rw [hc] at qj
                  by_cases h34 : j < 34
                  · have k34 : decide ((j : Int) < 34) = true := by simp; omega
                    by_cases h48 : 48 ≤ c ∧ c ≤ 63
                    · have t3 : decide ((48 : Int) ≤ (c : Int)) = true := by simp; omega
                      have t4 : decide ((c : Int) ≤ 63) = true := by simp; omega
                      have hF := HF.out
                      rw [show l.length - j = (l.length - (j + 1)) + 1 by omega] at hF
                      unfold seqF at hF
                      rw [HY.out, hc, if_neg (by omega), if_neg (by omega), if_pos ⟨h48, rfl⟩] at hF
                      have HR3 := Lib.hid hF
                      clear hF hc h48 HF
                      go_wp2
                      go_roundw
                      case rel => exact ⟨j + 1, by go_num, trivial, by omega, by omega, by omega, HR3⟩
                      case measure => simp [RowKit.intOf]; omega
                    · have HT : Hid (seqF l (l.length - j) j true = R) := by rw [← seqF_flip l _ j (Or.inr (Or.inr (Or.inr (by rw [hc]; exact h48))))]; exact HF.out
                      by_cases c48 : 48 ≤ c
                      · have t3 : decide ((48 : Int) ≤ (c : Int)) = true := by simp; omega
                        have t4 : decide ((c : Int) ≤ 63) = false := by simp; omega
                        clear hc h48 c48 HF
                        go_wp2
                        go_meet
                        exact ⟨j, rfl, rfl, hj2, hjl, hj34, HT⟩
                      · have t3 : decide ((48 : Int) ≤ (c : Int)) = false := by simp; omega
                        clear hc h48 c48 HF
                        go_wp2
                        go_meet
                        exact ⟨j, rfl, rfl, hj2, hjl, hj34, HT⟩
                  · have k34 : decide ((j : Int) < 34) = false := by simp; omega
                    have HT : Hid (seqF l (l.length - j) j true = R) := by rw [← seqF_flip l _ j (Or.inr (Or.inr (Or.inl (by omega))))]; exact HF.out
                    clear hc HF
                    go_wp2
                    go_meet
                    exact ⟨j, rfl, rfl, hj2, hjl, hj34, HT⟩
                · have kk : decide ((j : Int) < (l.length : Int)) = false := by simp; omega
                  have kk' : decide (j < l.length) = false := by simp; omega
                  have HT : Hid (seqF l (l.length - j) j true = R) := by rw [← seqF_flip l _ j (Or.inl (by omega))]; exact HF.out
                  clear hlt HF
                  go_wp2
                  go_meet
                  exact ⟨j, rfl, rfl, hj2, hjl, hj34, HT⟩
            case rest =>
              obtain ⟨j0, rfl, hwr, hj2, hjl, hj34, HT0⟩ := hcut
              obtain rfl := hwr
              go_upto_block 2 with fail
              go_cut [6] from 62 to 91 (fun s6 wx => ∃ j : Nat, s6 = .int .i64 (j : Int) ∧ W = wx ∧ 2 ≤ j ∧ j ≤ l.length ∧ j ≤ 34 ∧ Hid ((j = l.length ∧ R = (0, j, 7)) ∨ (j < l.length ∧ ((64 ≤ bt l j ∧ bt l j ≤ 126 ∧ R = (seqKey (l.take (j + 1)), j + 1, 0)) ∨ (¬ (64 ≤ bt l j ∧ bt l j ≤ 126) ∧ R = (15, j, 0))))))
              case first =>
                go_wp2
                go_loopw [6] (fun i wr => ∃ j : Nat, i = .int .i64 (j : Int) ∧ W = wr ∧ 2 ≤ j ∧ j ≤ l.length ∧ j ≤ 34 ∧ Hid (seqF l (l.length - j) j true = R)) (fun i _ => l.length - (RowKit.intOf i).toNat)
                case atStart => exact ⟨j0, rfl, rfl, hj2, hjl, hj34, HT0⟩
                case round =>
                  clear hj2 hjl hj34 HT0
                  obtain ⟨j, rfl, hwr, hj2, hjl, hj34, HT⟩ := hrel
                  obtain rfl := hwr
                  by_cases hlt : j < l.length
                  · have k0 : (j : Int) < (l.length : Int) := by omega
                    have qj := HS.out.cells j hlt
                    have hF := HT.out
                    rw [show l.length - j = (l.length - (j + 1)) + 1 by omega] at hF
                    unfold seqF at hF
                    rw [HY.out] at hF
                    obtain ⟨c, hc⟩ : ∃ c, bt l j = c := ⟨_, rfl⟩
                    rw [hc] at qj hF
                    by_cases h34 : j < 34
                    · have k34 : decide ((j : Int) < 34) = true := by simp; omega
                      by_cases h32 : 32 ≤ c ∧ c ≤ 47
                      · rw [if_neg (by omega), if_neg (by omega), if_neg (by simp), if_pos h32] at hF
                        have t3 : decide ((32 : Int) ≤ (c : Int)) = true := by simp; omega
                        have t4 : decide ((c : Int) ≤ 47) = true := by simp; omega
                        have HR3 := Lib.hid hF
                        clear hF hc h32 HT
                        go_wp2
                        go_roundw
                        case rel => exact ⟨j + 1, by go_num, trivial, by omega, by omega, by omega, HR3⟩
                        case measure => simp [RowKit.intOf]; omega
                      · have HE : Hid ((j = l.length ∧ R = (0, j, 7)) ∨ (j < l.length ∧ ((64 ≤ bt l j ∧ bt l j ≤ 126 ∧ R = (seqKey (l.take (j + 1)), j + 1, 0)) ∨ (¬ (64 ≤ bt l j ∧ bt l j ≤ 126) ∧ R = (15, j, 0))))) := by
                          refine Or.inr ⟨hlt, ?_⟩
                          rw [hc]
                          by_cases hA : 64 ≤ c ∧ c ≤ 126
                          · rw [if_pos hA] at hF; exact Or.inl ⟨hA.1, hA.2, hF.symm⟩
                          · rw [if_neg hA, if_neg (by omega), if_neg (by simp), if_neg h32] at hF; exact Or.inr ⟨hA, hF.symm⟩
                        by_cases c32 : 32 ≤ c
                        · have t3 : decide ((32 : Int) ≤ (c : Int)) = true := by simp; omega
                          have t4 : decide ((c : Int) ≤ 47) = false := by simp; omega
                          clear hF hc h32 c32 HT
                          go_wp2
                          go_meet
                          exact ⟨j, rfl, rfl, hj2, hjl, hj34, HE⟩
                        · have t3 : decide ((32 : Int) ≤ (c : Int)) = false := by simp; omega
                          clear hF hc h32 c32 HT
                          go_wp2
                          go_meet
                          exact ⟨j, rfl, rfl, hj2, hjl, hj34, HE⟩
                    · have k34 : decide ((j : Int) < 34) = false := by simp; omega
                      have HE : Hid ((j = l.length ∧ R = (0, j, 7)) ∨ (j < l.length ∧ ((64 ≤ bt l j ∧ bt l j ≤ 126 ∧ R = (seqKey (l.take (j + 1)), j + 1, 0)) ∨ (¬ (64 ≤ bt l j ∧ bt l j ≤ 126) ∧ R = (15, j, 0))))) := by
                        refine Or.inr ⟨hlt, ?_⟩
                        rw [hc]
                        by_cases hA : 64 ≤ c ∧ c ≤ 126
                        · rw [if_pos hA] at hF; exact Or.inl ⟨hA.1, hA.2, hF.symm⟩
                        · rw [if_neg hA, if_pos (by omega)] at hF; exact Or.inr ⟨hA, hF.symm⟩
                      clear hF hc HT
                      go_wp2
                      go_meet
                      exact ⟨j, rfl, rfl, hj2, hjl, hj34, HE⟩
                  · have HE : Hid ((j = l.length ∧ R = (0, j, 7)) ∨ (j < l.length ∧ ((64 ≤ bt l j ∧ bt l j ≤ 126 ∧ R = (seqKey (l.take (j + 1)), j + 1, 0)) ∨ (¬ (64 ≤ bt l j ∧ bt l j ≤ 126) ∧ R = (15, j, 0))))) := by
                      have hF := HT.out
                      rw [show l.length - j = 0 by omega] at hF
                      refine Or.inl ⟨by omega, ?_⟩
                      rw [← hF]
                      show (0, l.length, 7) = _
                      rw [show j = l.length by omega]
                    have kk : decide ((j : Int) < (l.length : Int)) = false := by simp; omega
                    have kk' : decide (j < l.length) = false := by simp; omega
                    clear hlt HT
                    go_wp2
                    go_meet
                    exact ⟨j, rfl, rfl, hj2, hjl, hj34, HE⟩
              case rest =>
                clear hj2 hjl hj34 HT0
                obtain ⟨j, rfl, hwr, hj2, hjl, hj34, HE⟩ := hcut
                obtain rfl := hwr
                rcases HE.out with ⟨hjl2, hRR⟩ | ⟨hlt, hRR⟩
                · have keq : ((j : Int) == (l.length : Int)) = true := by simp; omega
                  have HR3 : Hid ((0, j, 7) = R) := hRR.symm
                  clear HE hRR hjl2
                  go_wp2
                  (try simp only [Exit.inBlock, Exit.then])
                  refine bodyPost_ret (results_cell3 rfl _ _ w.heap.size 54 _ _ rfl (Blk.set (Blk.set (HS.out.res) 0 _) 1 _) Tryd.underlying54 rfl (by kernel_rfl)) rfl ?_
                  refine ⟨?_, seq_below (HS.out.but) (Nat.le_refl _) _ _⟩
                  rw [← HR3.out]
                  (first | rfl | (simp only [hwr]; rfl))
                · have k0 : (j : Int) < (l.length : Int) := by omega
                  have kne : ((j : Int) == (l.length : Int)) = false := by simp; omega
                  have qj := HS.out.cells j hlt
                  obtain ⟨c, hc⟩ : ∃ c, bt l j = c := ⟨_, rfl⟩
                  rw [hc] at qj hRR
                  clear hc HE
                  rcases hRR with ⟨hA1, hA2, hF⟩ | ⟨hA, hF⟩
                  · have t1 : decide ((c : Int) < 64) = false := by simp; omega
                    have t2 : decide ((126 : Int) < (c : Int)) = false := by simp; omega
                    rw [take_cons27 HX.out hpos j, seqKey_ref] at hF
                    clear hA1 hA2
                    have hwr : IntKind.i64.wrap ((j : Int) + 1) = ((j + 1 : Nat) : Int) := by
                      have : ∀ x : Int, 0 ≤ x → x ≤ 2000000 → IntKind.i64.wrap x = x := fun x h1 h2 => by simp [IntKind.wrap, IntKind.bits, IntKind.signed]; omega
                      rw [this _ (by omega) (by omega)]; omega
                    have hsl := fun V => slice_b2 B off l.length cap j _ hwr (by omega) (by omega) V
                    have hcv := HS.out.conv1 hlt (cap - 1)
                    rw [List.drop_one] at hF hcv
                    have HR3 : Hid ((refKey (l.tail.take j), j + 1, 0) = R) := hF.symm
                    have HKY := Lib.hid (fun V => key_c (l.tail.take j) V)
                    clear hF
                    go_wp2_with fail
                    refine (HKY.out _).mono ?_
                    rintro e w5 ⟨rfl, hb5⟩
                    have HS5 := HS.out.below hb5
                    have r0 := HS5.res.cell (j := 0) (v := .int .i64 0) rfl
                    have r1 := HS5.res.cell (j := 1) (v := .int .i64 0) rfl
                    have rf0 := HS5.res.free 0
                    have rf1 := HS5.res.free 1
                    have hrl := HS5.res.lt
                    go_wp2
                    (try simp only [Exit.inBlock, Exit.then])
                    refine bodyPost_ret (results_cell3 rfl _ _ w.heap.size 54 _ _ rfl (Blk.set (Blk.set (HS5.res) 0 _) 1 _) Tryd.underlying54 rfl (by kernel_rfl)) rfl ?_
                    refine ⟨?_, seq_below (HS5.but) (Nat.le_refl _) _ _⟩
                    rw [← HR3.out]
                    (first | rfl | (simp only [hwr]; rfl))
                  · have HR3 : Hid ((15, j, 0) = R) := hF.symm
                    by_cases c64 : c < 64
                    · have t1 : decide ((c : Int) < 64) = true := by simp; omega
                      clear hF hA c64
                      go_wp2
                      (try simp only [Exit.inBlock, Exit.then])
                      refine bodyPost_ret (results_cell3 rfl _ _ w.heap.size 54 _ _ rfl (Blk.set (Blk.set (HS.out.res) 0 _) 1 _) Tryd.underlying54 rfl (by kernel_rfl)) rfl ?_
                      refine ⟨?_, seq_below (HS.out.but) (Nat.le_refl _) _ _⟩
                      rw [← HR3.out]
                      (first | rfl | (simp only [hwr]; rfl))
                    · have t1 : decide ((c : Int) < 64) = false := by simp; omega
                      have t2 : decide ((126 : Int) < (c : Int)) = true := by simp; omega
                      clear hF hA c64
                      go_wp2
                      (try simp only [Exit.inBlock, Exit.then])
                      refine bodyPost_ret (results_cell3 rfl _ _ w.heap.size 54 _ _ rfl (Blk.set (Blk.set (HS.out.res) 0 _) 1 _) Tryd.underlying54 rfl (by kernel_rfl)) rfl ?_
                      refine ⟨?_, seq_below (HS.out.but) (Nat.le_refl _) _ _⟩
                      rw [← HR3.out]
                      (first | rfl | (simp only [hwr]; rfl))
          · skip
            go_upto_block 0 with fail
            rw [HW.out]
            have hBW := HS.out.lt
            have r0 := HS.out.res.cell (j := 0) (v := .int .i64 0) rfl
            have r1 := HS.out.res.cell (j := 1) (v := .int .i64 0) rfl
            have rf0 := HS.out.res.free 0
            have rf1 := HS.out.res.free 1
            have i0 := HS.out.ign.cell (j := 0) (v := .int .i64 15) rfl
            have i1 := HS.out.ign.cell (j := 1) (v := .int .i64 0) rfl
            have hrl := HS.out.res.lt
            have hil := HS.out.ign.lt
            have q1w : W.cell? ⟨B, off + 1, none⟩ = some (.int .u8 79) := by rw [HS.out.cells 1 h1, HY.out]; rfl
            go_cut [6] from 32 to 61 (fun s6 wx => ∃ j : Nat, s6 = .int .i64 (j : Int) ∧ W = wx ∧ 2 ≤ j ∧ j ≤ l.length ∧ j ≤ 34 ∧ Hid (seqF l (l.length - j) j true = R))
            case first =>
              go_wp2
              go_loopw [6] (fun i wr => ∃ j : Nat, i = .int .i64 (j : Int) ∧ W = wr ∧ 2 ≤ j ∧ j ≤ l.length ∧ j ≤ 34 ∧ Hid (seqF l (l.length - j) j false = R)) (fun i _ => l.length - (RowKit.intOf i).toNat)
              case atStart => exact ⟨2, rfl, rfl, Nat.le_refl _, h1, by decide, HR2⟩
              case round =>
                obtain ⟨j, rfl, hwr, hj2, hjl, hj34, HF⟩ := hrel
                obtain rfl := hwr
                have HT : Hid (seqF l (l.length - j) j true = R) := by rw [← seqF_flip l _ j (Or.inr (Or.inl HY.out))]; exact HF.out
                clear HF
                go_wp2
                go_meet
                exact ⟨j, rfl, rfl, hj2, hjl, hj34, HT⟩
            case rest =>
              obtain ⟨j0, rfl, hwr, hj2, hjl, hj34, HT0⟩ := hcut
              obtain rfl := hwr
              go_upto_block 2 with fail
              go_cut [6] from 62 to 91 (fun s6 wx => ∃ j : Nat, s6 = .int .i64 (j : Int) ∧ W = wx ∧ 2 ≤ j ∧ j ≤ l.length ∧ j ≤ 34 ∧ Hid ((j = l.length ∧ R = (0, j, 7)) ∨ (j < l.length ∧ ((64 ≤ bt l j ∧ bt l j ≤ 126 ∧ R = (seqKey (l.take (j + 1)), j + 1, 0)) ∨ (¬ (64 ≤ bt l j ∧ bt l j ≤ 126) ∧ R = (15, j, 0))))))
              case first =>
                go_wp2
                go_loopw [6] (fun i wr => ∃ j : Nat, i = .int .i64 (j : Int) ∧ W = wr ∧ 2 ≤ j ∧ j ≤ l.length ∧ j ≤ 34 ∧ Hid (seqF l (l.length - j) j true = R)) (fun i _ => l.length - (RowKit.intOf i).toNat)
                case atStart => exact ⟨j0, rfl, rfl, hj2, hjl, hj34, HT0⟩
                case round =>
                  clear hj2 hjl hj34 HT0
                  obtain ⟨j, rfl, hwr, hj2, hjl, hj34, HT⟩ := hrel
                  obtain rfl := hwr
                  by_cases hlt : j < l.length
                  · have k0 : (j : Int) < (l.length : Int) := by omega
                    have qj := HS.out.cells j hlt
                    have hF := HT.out
                    rw [show l.length - j = (l.length - (j + 1)) + 1 by omega] at hF
                    unfold seqF at hF
                    rw [HY.out] at hF
                    obtain ⟨c, hc⟩ : ∃ c, bt l j = c := ⟨_, rfl⟩
                    rw [hc] at qj hF
                    have HE : Hid ((j = l.length ∧ R = (0, j, 7)) ∨ (j < l.length ∧ ((64 ≤ bt l j ∧ bt l j ≤ 126 ∧ R = (seqKey (l.take (j + 1)), j + 1, 0)) ∨ (¬ (64 ≤ bt l j ∧ bt l j ≤ 126) ∧ R = (15, j, 0))))) := by
                      refine Or.inr ⟨hlt, ?_⟩
                      rw [hc]
                      by_cases hA : 64 ≤ c ∧ c ≤ 126
                      · rw [if_pos hA] at hF; exact Or.inl ⟨hA.1, hA.2, hF.symm⟩
                      · rw [if_neg hA, if_pos (Or.inl rfl)] at hF; exact Or.inr ⟨hA, hF.symm⟩
                    clear hF hc HT
                    go_wp2
                    go_meet
                    exact ⟨j, rfl, rfl, hj2, hjl, hj34, HE⟩
                  · have HE : Hid ((j = l.length ∧ R = (0, j, 7)) ∨ (j < l.length ∧ ((64 ≤ bt l j ∧ bt l j ≤ 126 ∧ R = (seqKey (l.take (j + 1)), j + 1, 0)) ∨ (¬ (64 ≤ bt l j ∧ bt l j ≤ 126) ∧ R = (15, j, 0))))) := by
                      have hF := HT.out
                      rw [show l.length - j = 0 by omega] at hF
                      refine Or.inl ⟨by omega, ?_⟩
                      rw [← hF]
                      show (0, l.length, 7) = _
                      rw [show j = l.length by omega]
                    have kk : decide ((j : Int) < (l.length : Int)) = false := by simp; omega
                    have kk' : decide (j < l.length) = false := by simp; omega
                    clear hlt HT
                    go_wp2
                    go_meet
                    exact ⟨j, rfl, rfl, hj2, hjl, hj34, HE⟩
              case rest =>
                clear hj2 hjl hj34 HT0
                obtain ⟨j, rfl, hwr, hj2, hjl, hj34, HE⟩ := hcut
                obtain rfl := hwr
                rcases HE.out with ⟨hjl2, hRR⟩ | ⟨hlt, hRR⟩
                · have keq : ((j : Int) == (l.length : Int)) = true := by simp; omega
                  have HR3 : Hid ((0, j, 7) = R) := hRR.symm
                  clear HE hRR hjl2
                  go_wp2
                  (try simp only [Exit.inBlock, Exit.then])
                  refine bodyPost_ret (results_cell3 rfl _ _ w.heap.size 54 _ _ rfl (Blk.set (Blk.set (HS.out.res) 0 _) 1 _) Tryd.underlying54 rfl (by kernel_rfl)) rfl ?_
                  refine ⟨?_, seq_below (HS.out.but) (Nat.le_refl _) _ _⟩
                  rw [← HR3.out]
                  (first | rfl | (simp only [hwr]; rfl))
                · have k0 : (j : Int) < (l.length : Int) := by omega
                  have kne : ((j : Int) == (l.length : Int)) = false := by simp; omega
                  have qj := HS.out.cells j hlt
                  obtain ⟨c, hc⟩ : ∃ c, bt l j = c := ⟨_, rfl⟩
                  rw [hc] at qj hRR
                  clear hc HE
                  rcases hRR with ⟨hA1, hA2, hF⟩ | ⟨hA, hF⟩
                  · have t1 : decide ((c : Int) < 64) = false := by simp; omega
                    have t2 : decide ((126 : Int) < (c : Int)) = false := by simp; omega
                    rw [take_cons27 HX.out hpos j, seqKey_ref] at hF
                    clear hA1 hA2
                    have hwr : IntKind.i64.wrap ((j : Int) + 1) = ((j + 1 : Nat) : Int) := by
                      have : ∀ x : Int, 0 ≤ x → x ≤ 2000000 → IntKind.i64.wrap x = x := fun x h1 h2 => by simp [IntKind.wrap, IntKind.bits, IntKind.signed]; omega
                      rw [this _ (by omega) (by omega)]; omega
                    have hsl := fun V => slice_b2 B off l.length cap j _ hwr (by omega) (by omega) V
                    have hcv := HS.out.conv1 hlt (cap - 1)
                    rw [List.drop_one] at hF hcv
                    have HR3 : Hid ((refKey (l.tail.take j), j + 1, 0) = R) := hF.symm
                    have HKY := Lib.hid (fun V => key_c (l.tail.take j) V)
                    clear hF
                    go_wp2_with fail
                    refine (HKY.out _).mono ?_
                    rintro e w5 ⟨rfl, hb5⟩
                    have HS5 := HS.out.below hb5
                    have r0 := HS5.res.cell (j := 0) (v := .int .i64 0) rfl
                    have r1 := HS5.res.cell (j := 1) (v := .int .i64 0) rfl
                    have rf0 := HS5.res.free 0
                    have rf1 := HS5.res.free 1
                    have hrl := HS5.res.lt
                    go_wp2
                    (try simp only [Exit.inBlock, Exit.then])
                    refine bodyPost_ret (results_cell3 rfl _ _ w.heap.size 54 _ _ rfl (Blk.set (Blk.set (HS5.res) 0 _) 1 _) Tryd.underlying54 rfl (by kernel_rfl)) rfl ?_
                    refine ⟨?_, seq_below (HS5.but) (Nat.le_refl _) _ _⟩
                    rw [← HR3.out]
                    (first | rfl | (simp only [hwr]; rfl))
                  · have HR3 : Hid ((15, j, 0) = R) := hF.symm
                    by_cases c64 : c < 64
                    · have t1 : decide ((c : Int) < 64) = true := by simp; omega
                      clear hF hA c64
                      go_wp2
                      (try simp only [Exit.inBlock, Exit.then])
                      refine bodyPost_ret (results_cell3 rfl _ _ w.heap.size 54 _ _ rfl (Blk.set (Blk.set (HS.out.res) 0 _) 1 _) Tryd.underlying54 rfl (by kernel_rfl)) rfl ?_
                      refine ⟨?_, seq_below (HS.out.but) (Nat.le_refl _) _ _⟩
                      rw [← HR3.out]
                      (first | rfl | (simp only [hwr]; rfl))
                    · have t1 : decide ((c : Int) < 64) = false := by simp; omega
                      have t2 : decide ((126 : Int) < (c : Int)) = true := by simp; omega
                      clear hF hA c64
                      go_wp2
                      (try simp only [Exit.inBlock, Exit.then])
                      refine bodyPost_ret (results_cell3 rfl _ _ w.heap.size 54 _ _ rfl (Blk.set (Blk.set (HS.out.res) 0 _) 1 _) Tryd.underlying54 rfl (by kernel_rfl)) rfl ?_
                      refine ⟨?_, seq_below (HS.out.but) (Nat.le_refl _) _ _⟩
                      rw [← HR3.out]
                      (first | rfl | (simp only [hwr]; rfl))
    · have hxx : ((x : Int) != 27) = true := by rw [bne_iff_ne]; omega
      go_enter Tryd.func55, Tryd.ntmps55
      go_wp2
      (try simp only [Exit.inBlock, Exit.then])
      refine bodyPost_ret (results_cell3 rfl _ _ w.heap.size 54 #[.int .i64 0, .int .i64 0] _ rfl ((Blk.new w _ _).alloc _) Tryd.underlying54 rfl (by kernel_rfl)) rfl ?_
      refine ⟨?_, HALC.out _⟩
      rw [HR.out, if_pos hx]
      rfl

end Go.Proofs.YtcakeolnokninaaDoor.Edit

/- The document's reading of bytes: whispererref10.Read, walked. -/
set_option linter.unusedVariables false
set_option linter.unusedSimpArgs false
namespace Go.Proofs.YtcakeolnokninaaDoor.Edit
open Go.RowKit Go.Lib Go.Shelf ChangeShapes Mem Utf UtfP

theorem OwnB.butR {S : List Nat} {w w' : World} {B : Nat} {v : Value} {l : List UInt8} (h : OwnB w B v l) (hb : But S w w') (hS : ∀ k ∈ S, k < B) : OwnB w' B v l := by
  obtain ⟨h1, h2 | ⟨g, cap, cur, h3, h4, h5, h6⟩⟩ := h
  · exact ⟨h1, Or.inl h2⟩
  · refine ⟨h1, Or.inr ⟨g, cap, cur, h3, h4, ?_, h6⟩⟩
    rw [hb.block g]
    · exact h5
    · rcases Nat.lt_or_ge g w.heap.size with h' | h'
      · exact h'
      · rw [Array.getElem?_eq_none h'] at h5; cases h5
    · intro hg
      have := hS g hg
      omega
theorem OwnB.baseR {w : World} {B B' : Nat} {v : Value} {l : List UInt8} (h : OwnB w B v l) (hB : B' ≤ B) : OwnB w B' v l := by
  obtain ⟨h1, h2 | ⟨g, cap, cur, h3, h4, h5⟩⟩ := h
  · exact ⟨h1, Or.inl h2⟩
  · exact ⟨h1, Or.inr ⟨g, cap, cur, h3, Nat.le_trans hB h4, h5⟩⟩
theorem Blk.grown {w w' : World} {b : Nat} {cs : Array Value} {t : TypeId} {row : Option Nat} (h : Blk w b cs t) (hg : w.grownBy w' row) (hr : ∀ k, row = some k → b ≠ k) : Blk w' b cs t :=
  (hg.block b h.lt (fun e => hr b e.symm rfl)).trans h

theorem seqE_ps (ps : Bool) (k : Int) : (seqE ps k 0).2.2 = (if (seqE ps k 0).1 = 13 ∨ (seqE ps k 0).1 = 14 then decide ((seqE ps k 0).1 = 13) else ps) ∧ (seqE ps k 0).2.1 = 0 := by
  unfold seqE
  by_cases h14 : k = 14
  · subst h14; cases ps <;> exact ⟨rfl, rfl⟩
  · by_cases h13 : k = 13
    · subst h13; cases ps <;> exact ⟨rfl, rfl⟩
    · have e14 : (k == 14) = false := by simpa using h14
      have e13 : (k == 13) = false := by simpa using h13
      rw [e14, e13]
      cases ps
      · simp [h13, h14]
      · simp
theorem kindOf_ne : ∀ c : Int, kindOf c ≠ 13 ∧ kindOf c ≠ 14 := by
  intro c
  rcases kindOf_tab c with h | ⟨y, hy, rfl⟩
  · rw [h]; decide
  · have : ∀ y ∈ chIns, kindOf y.2.1 ≠ 13 ∧ kindOf y.2.1 ≠ 14 := by decide
    exact this y hy
theorem charK_ne (ps : Bool) (c : Int) : (charK ps c).1 ≠ 13 ∧ (charK ps c).1 ≠ 14 := by
  obtain ⟨h1, h2⟩ := kindOf_ne c
  unfold charK charE keyOf
  by_cases hp : printC c = true
  · simp only [if_pos hp]
    cases ps <;> exact ⟨by simp, by simp⟩
  · simp only [if_neg hp]
    cases ps
    · exact ⟨h1, h2⟩
    · by_cases h : (true && kindOf c != 0) = true
      · rw [if_pos h]; decide
      · rw [if_neg h]; exact ⟨h1, h2⟩

/-- what stands while Read runs: its result's cells, what it has told -/
structure Rd (w wx : World) (v : Value) (ks : List (Int × Int)) (ps : Bool) : Prop where
  res : Blk wx w.heap.size #[.slice none 0 0, .slice none 0 0, .bool false] 62
  told : Blk wx (w.heap.size + 1) #[v, .slice none 0 0, .bool ps] 62
  own : OwnK wx (w.heap.size + 2) v ks
  but : But [] w wx

section
variable {w wx wy : World} {v : Value} {ks : List (Int × Int)} {ps : Bool}
theorem Rd.go (h : Rd w wx v ks ps) {S : List Nat} (hb : But S wx wy) (hS : ∀ k ∈ S, w.heap.size + 2 ≤ k) (hS2 : ∀ k ∈ S, wx.heap.size ≤ k) : Rd w wy v ks ps := by
  have hb' : But [] wx wy := hb.mono (fun k hk hl => by have := hS2 k hk; omega)
  refine ⟨h.res.but hb' (by simp), h.told.but hb' (by simp), h.own.but hb' (by simp), h.but.trans hb'⟩
theorem Rd.below (h : Rd w wx v ks ps) (hb : Below wx.heap.size wx wy) : Rd w wy v ks ps := h.go (But.of_below (S := []) hb) (by simp) (by simp)
/-- a store into a block that is newer than both -/
theorem Rd.setNew (h : Rd w wx v ks ps) {b : Nat} (hb : w.heap.size + 2 ≤ b) (hv : ∀ k, v.ownBlock = some k → k ≠ b) (j : Nat) (u : Value) : Rd w (wx.setCell ⟨b, j, none⟩ u) v ks ps := by
  have hbt : But [b] wx (wx.setCell ⟨b, j, none⟩ u) := (But.refl _ _).set (Or.inl (by simp)) _
  refine ⟨h.res.but hbt (by simp; omega), h.told.but hbt (by simp; omega), ?_, h.but.set (Or.inr (by show w.heap.size ≤ b; omega)) _⟩
  obtain ⟨h1, h2 | ⟨g, cap, cur, h3, h4, h5, h6⟩⟩ := h.own
  · exact ⟨h1, Or.inl h2⟩
  · refine ⟨h1, Or.inr ⟨g, cap, cur, h3, h4, ?_, h6⟩⟩
    subst h3
    have hne := hv g rfl
    rw [hbt.block g _ (by simpa using hne)]
    · exact h5
    · rcases Nat.lt_or_ge g wx.heap.size with h' | h'
      · exact h'
      · rw [Array.getElem?_eq_none h'] at h5; cases h5
end

/-- the loop -/
def RRd (w : World) (l : List UInt8) (R : List (Int × Int) × List UInt8 × Bool) (s4 : Value) (wr : World) : Prop :=
  ∃ (i : Nat) (v : Value) (ks : List (Int × Int)) (ps : Bool), s4 = .int .i64 (i : Int) ∧ i ≤ l.length ∧ ks.length ≤ i ∧ Hid (Rd w wr v ks ps) ∧ Hid ((ks ++ (drain (l.drop i) ps).1, (drain (l.drop i) ps).2) = R)
/-- behind the two ways to a key -/
def RMd (w wr : World) (l : List UInt8) (i : Nat) (v : Value) (ks : List (Int × Int)) (ps : Bool) (s6 s7 : Value) (wx : World) : Prop :=
  ∃ (K KC : Int) (n : Nat) (er : Int), s6 = .int .i64 (n : Int) ∧ s7 = .int .i64 er ∧ n ≤ l.length ∧ Hid (Rd w wx v ks ps) ∧ Hid (Blk wx wr.heap.size #[.int .i64 K, .int .i64 KC] 54) ∧
    Hid ((er ≠ 0 ∧ nxE (l.drop i) ps = none) ∨ (er = 0 ∧ nxE (l.drop i) ps = some ((K, KC), n, if K = 13 ∨ K = 14 then decide (K = 13) else ps)))

set_option maxRecDepth 100000 in
set_option maxHeartbeats 8000000 in
theorem read_c (l : List UInt8) (A : Option Addr) (cap : Nat) (w : World) (hA : BytesAt w A l) (hcap : l.length ≤ cap) (hm : l.length ≤ 1000000) :
    Calls Tryd.prog 34 #[.slice A l.length cap] w fun e w' => ∃ v hv, e = .returned (.agg #[v, hv, .bool (drain l false).2.2]) ∧ OwnK w' w.heap.size v (drain l false).1 ∧ OwnB w' w.heap.size hv (drain l false).2.1 ∧ Below w.heap.size w w' := by
  have HA := Lib.hid hA
  obtain ⟨R, hR⟩ : ∃ R, drain l false = R := ⟨_, rfl⟩
  rw [hR]
  have HR := Lib.hid hR
  clear hA hR
  go_enter Tryd.func34, Tryd.ntmps34
  go_wp2
  have hb1 : But [] w ((w.alloc (.cells #[.slice none 0 0, .slice none 0 0, .bool false] 62)).alloc (.cells #[.slice none 0 0, .slice none 0 0, .bool false] 62)) := ((But.refl [] w).alloc _).alloc _
  have hs1 : (w.alloc (.cells #[.slice none 0 0, .slice none 0 0, .bool false] 62)).heap.size = w.heap.size + 1 := Array.size_push _
  have hk2 := Blk.new (w.alloc (.cells #[.slice none 0 0, .slice none 0 0, .bool false] 62)) #[.slice none 0 0, .slice none 0 0, .bool false] 62
  rw [hs1] at hk2
  have hrd0 : Rd w ((w.alloc (.cells #[.slice none 0 0, .slice none 0 0, .bool false] 62)).alloc (.cells #[.slice none 0 0, .slice none 0 0, .bool false] 62)) (.slice none 0 0) [] false := ⟨(Blk.new w _ _).alloc _, hk2, OwnK.nil _ _, hb1⟩
  have HRD0 := Lib.hid hrd0
  clear hb1 hs1 hk2 hrd0
  go_loopw [4] (fun s4 wr => RRd w l R s4 wr) (fun i _ => l.length - (RowKit.intOf i).toNat)
  case atStart => exact ⟨0, _, [], false, rfl, Nat.zero_le _, Nat.le_refl _, HRD0, HR⟩
  case round =>
    obtain ⟨i, v, ks, ps, rfl, hi, hks, HRD, HF⟩ := hrel
    obtain ⟨A5, c5, rfl, hc5, _, _, _⟩ := HRD.out.own.form
    by_cases hlt : i < l.length
    · have k0 : (i : Int) < (l.length : Int) := by omega
      have kl : (i : Int) ≤ (l.length : Int) := by omega
      have kc : (i : Int) ≤ (cap : Int) := by omega
      obtain ⟨B, off, rfl, hBl, hc⟩ := HA.out (List.length_pos_iff.1 (by omega : 0 < l.length))
      have hne : l.drop i ≠ [] := fun h => by have := congrArg List.length h; rw [List.length_drop] at this; simp at this; omega
      have hbt0 : bt (l.drop i) 0 = bt l i := by
        unfold bt
        rw [List.getD_eq_getElem?_getD, List.getD_eq_getElem?_getD, List.getElem?_drop]; rfl
      have q0 : wr.cell? ⟨B, off + i, none⟩ = some (.int .u8 (bt l i : Int)) := by
        rw [But.cell HRD.out.but (p := ⟨B, off + i, none⟩) hBl (by simp), hc i hlt]
      have hcut : BytesAt w (some ⟨B, off + i, none⟩) (l.drop i) := by
        have := BytesAt.cut HA.out (k := i) hcap
        rw [if_neg (by omega)] at this
        simpa [addr_add] using this
      obtain ⟨x, hx⟩ : ∃ x, bt l i = x := ⟨_, rfl⟩
      rw [hx] at q0 hbt0
      have hal : Below wr.heap.size wr (wr.alloc (.cells #[.int .i64 0, .int .i64 0] 54)) := (Below.refl _ _).alloc (Nat.le_refl _) _
      have hrd1 := HRD.out.below hal
      have hblk1 := Blk.new wr #[.int .i64 0, .int .i64 0] 54
      have hkb : w.heap.size + 2 ≤ wr.heap.size := by have := HRD.out.told.lt; omega
      have hvk : ∀ k, (Value.slice A5 ks.length c5).ownBlock = some k → k ≠ wr.heap.size := fun k hk => by have := (HRD.out.own.lt hk).2; omega
      have hbel1 : Below w.heap.size w (wr.alloc (.cells #[.int .i64 0, .int .i64 0] 54)) := hrd1.but.below (Nat.le_refl _) (by simp)
      have HCUT := Lib.hid hcut
      have HRD1 := Lib.hid hrd1
      have HBLK1 := Lib.hid hblk1
      have HKB := Lib.hid hkb
      have HVK := Lib.hid hvk
      have HBEL1 := Lib.hid hbel1
      have HNE := Lib.hid hne
      have HBT0 := Lib.hid hbt0
      have hcn : ¬ cap = i := by omega
      have hBw : B < wr.heap.size := Nat.lt_of_lt_of_le hBl HRD.out.but.size
      have hld : (l.drop i).length = l.length - i := List.length_drop
      have HLD := Lib.hid hld
      clear hBl hc hx hcut hal hrd1 hblk1 hkb hvk hbel1 hne hbt0 hld
      go_upto_if 21 with fail
      obtain ⟨w1, hw1⟩ : ∃ w1, wr.alloc (.cells #[.int .i64 0, .int .i64 0] 54) = w1 := ⟨_, rfl⟩
      rw [hw1] at HRD1 HBLK1 HBEL1
      rw [hw1]
      have hwlt : wr.heap.size < w1.heap.size := HBLK1.out.lt
      clear hw1 q0 hcn
      go_cut [6, 7, 8, 9, 10] from 21 to 69 (fun s6 s7 s8 s9 s10 wx => RMd w wr l i (.slice A5 ks.length c5) ks ps s6 s7 wx)
      case first =>
        by_cases h27 : x = 27
        · subst h27
          have hcn2 : ¬ cap = i := by omega
          have hnx := ref_next (l.drop i) (some ⟨B, off + i, none⟩) (cap - i) w1 (HCUT.out.below HBEL1.out) (by rw [HLD.out]; omega) (by rw [HLD.out]; omega)
          have hsn := seqN_le (l.drop i)
          have hg : nxE (l.drop i) ps = (if (seqN (l.drop i)).2.2 ≠ 0 then none else some (((seqE ps (seqN (l.drop i)).1 0).1, (seqE ps (seqN (l.drop i)).1 0).2.1), (seqN (l.drop i)).2.1, (seqE ps (seqN (l.drop i)).1 0).2.2)) := by
            unfold nxE
            rw [if_neg HNE.out, if_pos HBT0.out]
          obtain ⟨k, n, er, hs⟩ : ∃ k n er, seqN (l.drop i) = (k, n, er) := ⟨_, _, _, rfl⟩
          rw [hs] at hnx hsn hg
          simp only at hnx hsn hg
          rw [HLD.out] at hnx hsn
          rw [(seqE_ps ps k).1, (seqE_ps ps k).2] at hg
          have HG : Hid ((er ≠ 0 ∧ nxE (l.drop i) ps = none) ∨ (er = 0 ∧ nxE (l.drop i) ps = some (((seqE ps k 0).1, 0), n, if (seqE ps k 0).1 = 13 ∨ (seqE ps k 0).1 = 14 then decide ((seqE ps k 0).1 = 13) else ps))) := by
            by_cases he : er = 0
            · rw [if_neg (by simpa using he)] at hg; exact Or.inr ⟨he, hg⟩
            · rw [if_pos he] at hg; exact Or.inl ⟨he, hg⟩
          have HN : Hid (n ≤ l.length) := by unfold Hid; omega
          have HNX := Lib.hid hnx
          clear hnx hsn hg hs
          go_wp2_with fail
          refine (HNX.out).mono ?_
          rintro e w2 ⟨rfl, hb2⟩
          have hrd2 := HRD1.out.below hb2
          have hbk2 := HBLK1.out.but (But.of_below (S := []) hb2) (by simp)
          have HRD2 := Lib.hid hrd2
          have HBK2 := Lib.hid hbk2
          have y0 := hbk2.cell (j := 0) (v := .int .i64 0) rfl
          have y1 := hbk2.cell (j := 1) (v := .int .i64 0) rfl
          have yf0 := hbk2.free 0
          have yf1 := hbk2.free 1
          have yl := hbk2.lt
          have t2 := hrd2.told.cell (j := 2) (v := .bool ps) rfl
          have tl := hrd2.told.lt
          have hne1 : wr.heap.size ≠ w.heap.size + 1 := by have := HKB.out; omega
          have hne2 : w.heap.size + 1 ≠ wr.heap.size := by have := HKB.out; omega
          clear hrd2 hbk2 hb2 HNX
          by_cases h14 : k = 14
          · subst h14
            cases ps
            · skip
              have hK : (seqE false 14 0).1 = 15 := by rfl
              have HG2 := HG.out
              rw [hK] at HG2
              have HG3 := Lib.hid HG2
              clear HG2 hK HG
              go_wp2
              go_meet
              exact ⟨_, _, n, er, rfl, rfl, HN.out, ((((((HRD2.out).setNew HKB.out HVK.out 0 _).setNew HKB.out HVK.out 1 _)).setNew HKB.out HVK.out 0 _).setNew HKB.out HVK.out 1 _), Blk.set (Blk.set (Blk.set (Blk.set (HBK2.out) 0 _) 1 _) 0 _) 1 _, HG3⟩
            · skip
              have hK : (seqE true 14 0).1 = 14 := by rfl
              have HG2 := HG.out
              rw [hK] at HG2
              have HG3 := Lib.hid HG2
              clear HG2 hK HG
              go_wp2
              go_meet
              exact ⟨_, _, n, er, rfl, rfl, HN.out, (((HRD2.out).setNew HKB.out HVK.out 0 _).setNew HKB.out HVK.out 1 _), Blk.set (Blk.set (HBK2.out) 0 _) 1 _, HG3⟩
          · have e14 : (k == 14) = false := by simpa using h14
            have f14 : (k != 14) = true := by simpa using h14
            cases ps
            · skip
              have hK : (seqE false k 0).1 = k := by unfold seqE; simp [h14]; split <;> rfl
              have HG2 := HG.out
              rw [hK] at HG2
              have HG3 := Lib.hid HG2
              clear HG2 hK HG
              go_wp2
              go_meet
              exact ⟨_, _, n, er, rfl, rfl, HN.out, (((HRD2.out).setNew HKB.out HVK.out 0 _).setNew HKB.out HVK.out 1 _), Blk.set (Blk.set (HBK2.out) 0 _) 1 _, HG3⟩
            · skip
              have hK : (seqE true k 0).1 = 15 := by unfold seqE; simp [h14]
              have HG2 := HG.out
              rw [hK] at HG2
              have HG3 := Lib.hid HG2
              clear HG2 hK HG
              go_wp2
              go_meet
              exact ⟨_, _, n, er, rfl, rfl, HN.out, ((((((HRD2.out).setNew HKB.out HVK.out 0 _).setNew HKB.out HVK.out 1 _)).setNew HKB.out HVK.out 0 _).setNew HKB.out HVK.out 1 _), Blk.set (Blk.set (Blk.set (Blk.set (HBK2.out) 0 _) 1 _) 0 _) 1 _, HG3⟩
        · skip
          have k27 : ((x : Int) == 27) = false := by simp; omega
          have hcn2 : ¬ cap = i := by omega
          have hnx := nextRef (l.drop i) (some ⟨B, off + i, none⟩) (cap - i) w1 (HCUT.out.below HBEL1.out) (by rw [HLD.out]; omega)
          obtain ⟨f1, f2, f3, _, f5, f6⟩ := next_facts HNE.out
          have hg : nxE (l.drop i) ps = (if (next (l.drop i)).2.2 = 7 then none else some (charK ps (if (next (l.drop i)).2.2 = 8 then 65533 else ((next (l.drop i)).1 : Int)), (next (l.drop i)).2.1, ps)) := by
            unfold nxE
            rw [if_neg HNE.out, if_neg (by rw [HBT0.out]; exact h27)]
          obtain ⟨cc, n, f, hs⟩ : ∃ cc n f, next (l.drop i) = (cc, n, f) := ⟨_, _, _, rfl⟩
          rw [hs] at hnx hg f1 f2 f3 f5
          simp only at hg f1 f2 f3 f5
          rw [HLD.out] at hnx f2
          have HN : Hid (n ≤ l.length) := by unfold Hid; omega
          have HNX := Lib.hid (hnx.mono (R' := fun e w' => e = .returned (.tuple #[.int .i64 cc, .int .i64 n, .int .i64 f]) ∧ Below w1.heap.size w1 w') (fun e w' ⟨he, hb⟩ => ⟨by rw [he]; rfl, hb⟩))
          clear hnx hs f1 f2 f3 f6 h27
          go_wp2_with fail
          refine (HNX.out).mono ?_
          rintro e w2 ⟨rfl, hb2⟩
          have HRD2 := Lib.hid (HRD1.out.below hb2)
          have HBK2 := Lib.hid (HBLK1.out.but (But.of_below (S := []) hb2) (by simp))
          clear hb2 HNX
          by_cases h8 : f = 8
          · subst h8
            rw [if_neg (by decide), if_pos rfl] at hg
            clear f5
            have hof := fun V => refOf 65533 V
            obtain ⟨K0, KC0, hko⟩ : ∃ K0 KC0, keyOf 65533 = (K0, KC0) := ⟨_, _, rfl⟩
            rw [hko] at hof
            have hck : charK ps 65533 = charE ps K0 KC0 := by unfold charK; rw [hko]
            have hcne := charK_ne ps 65533
            rw [hck] at hg hcne
            have HOF := Lib.hid hof
            have HG : Hid (((0 : Int) ≠ 0 ∧ nxE (l.drop i) ps = none) ∨ ((0 : Int) = 0 ∧ nxE (l.drop i) ps = some (charE ps K0 KC0, n, if (charE ps K0 KC0).1 = 13 ∨ (charE ps K0 KC0).1 = 14 then decide ((charE ps K0 KC0).1 = 13) else ps))) := by
              rw [if_neg (by rintro (h | h); exact hcne.1 h; exact hcne.2 h)]
              exact Or.inr ⟨rfl, hg⟩
            clear hof hko hck hcne hg
            go_wp2_with fail
            refine (HOF.out _).mono ?_
            rintro e w3 ⟨rfl, hb3⟩
            have hrd2 := HRD2.out.below hb3
            have hbk2 := HBK2.out.but (But.of_below (S := []) hb3) (by simp)
            have HRD3 := Lib.hid hrd2
            have HBK3 := Lib.hid hbk2
            have y0 := hbk2.cell (j := 0) (v := .int .i64 0) rfl
            have y1 := hbk2.cell (j := 1) (v := .int .i64 0) rfl
            have yf0 := hbk2.free 0
            have yf1 := hbk2.free 1
            have yl := hbk2.lt
            have t2 := hrd2.told.cell (j := 2) (v := .bool ps) rfl
            have tl := hrd2.told.lt
            have hne1 : wr.heap.size ≠ w.heap.size + 1 := by have := HKB.out; omega
            have hne2 : w.heap.size + 1 ≠ wr.heap.size := by have := HKB.out; omega
            clear hrd2 hbk2 hb3 HOF
            cases ps
            · go_wp2
              go_meet
              exact ⟨K0, KC0, n, 0, rfl, rfl, HN.out, ((HRD3.out).setNew HKB.out HVK.out 0 _).setNew HKB.out HVK.out 1 _, Blk.set (Blk.set HBK3.out 0 _) 1 _, Lib.hid (HG.out.imp id (fun h => ⟨rfl, h.2⟩))⟩
            · by_cases hk0 : K0 = 0
              · subst hk0
                go_wp2
                go_meet
                exact ⟨0, KC0, n, 0, rfl, rfl, HN.out, ((HRD3.out).setNew HKB.out HVK.out 0 _).setNew HKB.out HVK.out 1 _, Blk.set (Blk.set HBK3.out 0 _) 1 _, Lib.hid (HG.out.imp id (fun h => ⟨rfl, h.2⟩))⟩
              · have ek : (K0 == 0) = false := by simpa using hk0
                have fk : (K0 != 0) = true := by simpa using hk0
                have hce : charE true K0 KC0 = (15, 0) := by unfold charE; simp [hk0]
                have HG2 := HG.out
                rw [hce] at HG2
                have HG3 := Lib.hid HG2
                clear HG HG2 hce hk0
                go_wp2
                go_meet
                exact ⟨15, 0, n, 0, rfl, rfl, HN.out, ((((HRD3.out).setNew HKB.out HVK.out 0 _).setNew HKB.out HVK.out 1 _).setNew HKB.out HVK.out 0 _).setNew HKB.out HVK.out 1 _, Blk.set (Blk.set (Blk.set (Blk.set HBK3.out 0 _) 1 _) 0 _) 1 _, Lib.hid (HG3.out.imp id (fun h => ⟨rfl, h.2⟩))⟩
          · have e8 : ((f : Int) == 8) = false := by simp; omega
            have hg : ((f : Int) ≠ 0 ∧ nxE (l.drop i) ps = none) ∨ ((f : Int) = 0 ∧ nxE (l.drop i) ps = some (charK ps (cc : Int), n, ps)) := by
              rcases f5 with h | h | h
              · subst h
                rw [if_neg (by decide), if_neg (by decide)] at hg
                exact Or.inr ⟨rfl, hg⟩
              · subst h
                rw [if_pos rfl] at hg
                exact Or.inl ⟨by decide, hg⟩
              · exact absurd h h8
            clear f5 h8
            have hof := fun V => refOf (cc : Int) V
            obtain ⟨K0, KC0, hko⟩ : ∃ K0 KC0, keyOf (cc : Int) = (K0, KC0) := ⟨_, _, rfl⟩
            rw [hko] at hof
            have hck : charK ps (cc : Int) = charE ps K0 KC0 := by unfold charK; rw [hko]
            have hcne := charK_ne ps (cc : Int)
            rw [hck] at hg hcne
            have HOF := Lib.hid hof
            have HG : Hid (((f : Int) ≠ 0 ∧ nxE (l.drop i) ps = none) ∨ ((f : Int) = 0 ∧ nxE (l.drop i) ps = some (charE ps K0 KC0, n, if (charE ps K0 KC0).1 = 13 ∨ (charE ps K0 KC0).1 = 14 then decide ((charE ps K0 KC0).1 = 13) else ps))) := by
              rw [if_neg (by rintro (h | h); exact hcne.1 h; exact hcne.2 h)]
              exact hg
            clear hof hko hck hcne hg
            go_wp2_with fail
            refine (HOF.out _).mono ?_
            rintro e w3 ⟨rfl, hb3⟩
            have hrd2 := HRD2.out.below hb3
            have hbk2 := HBK2.out.but (But.of_below (S := []) hb3) (by simp)
            have HRD3 := Lib.hid hrd2
            have HBK3 := Lib.hid hbk2
            have y0 := hbk2.cell (j := 0) (v := .int .i64 0) rfl
            have y1 := hbk2.cell (j := 1) (v := .int .i64 0) rfl
            have yf0 := hbk2.free 0
            have yf1 := hbk2.free 1
            have yl := hbk2.lt
            have t2 := hrd2.told.cell (j := 2) (v := .bool ps) rfl
            have tl := hrd2.told.lt
            have hne1 : wr.heap.size ≠ w.heap.size + 1 := by have := HKB.out; omega
            have hne2 : w.heap.size + 1 ≠ wr.heap.size := by have := HKB.out; omega
            clear hrd2 hbk2 hb3 HOF
            cases ps
            · go_wp2
              go_meet
              exact ⟨K0, KC0, n, (f : Int), rfl, rfl, HN.out, ((HRD3.out).setNew HKB.out HVK.out 0 _).setNew HKB.out HVK.out 1 _, Blk.set (Blk.set HBK3.out 0 _) 1 _, HG⟩
            · by_cases hk0 : K0 = 0
              · subst hk0
                go_wp2
                go_meet
                exact ⟨0, KC0, n, (f : Int), rfl, rfl, HN.out, ((HRD3.out).setNew HKB.out HVK.out 0 _).setNew HKB.out HVK.out 1 _, Blk.set (Blk.set HBK3.out 0 _) 1 _, HG⟩
              · have ek : (K0 == 0) = false := by simpa using hk0
                have fk : (K0 != 0) = true := by simpa using hk0
                have hce : charE true K0 KC0 = (15, 0) := by unfold charE; simp [hk0]
                have HG2 := HG.out
                rw [hce] at HG2
                have HG3 := Lib.hid HG2
                clear HG HG2 hce hk0
                go_wp2
                go_meet
                exact ⟨15, 0, n, (f : Int), rfl, rfl, HN.out, ((((HRD3.out).setNew HKB.out HVK.out 0 _).setNew HKB.out HVK.out 1 _).setNew HKB.out HVK.out 0 _).setNew HKB.out HVK.out 1 _, Blk.set (Blk.set (Blk.set (Blk.set HBK3.out 0 _) 1 _) 0 _) 1 _, HG3⟩
      case rest =>
        obtain ⟨K, KC, n, er, rfl, rfl, hn, HRDX, HBKX, HE⟩ := hcut
        have hrx := HRDX.out
        have hbx := HBKX.out
        have y0 := hbx.cell (j := 0) (v := .int .i64 K) rfl
        have y1 := hbx.cell (j := 1) (v := .int .i64 KC) rfl
        have yl := hbx.lt
        have tl := hrx.told.lt
        have rl := hrx.res.lt
        clear hrx hbx
        rcases HE.out with ⟨he, hnone⟩ | ⟨he, hsome⟩
        · have kq : (er != 0) = true := by simpa using he
          have hF := HF.out
          rw [drain_none hnone] at hF
          have hF2 : Hid (R = (ks, l.drop i, ps)) := by unfold Hid; rw [← hF]; simp
          have hbw : But [] wc (wc.alloc (.cells #[] 5)) := (But.refl [] wc).alloc _
          have hwb : Below w.heap.size w (wc.alloc (.cells #[] 5)) := (HRDX.out.but.trans hbw).below (Nat.le_refl _) (by simp)
          have hsrc := HCUT.out.below hwb
          have hown0 := OwnB.new wc (w.heap.size + 2) #[] [] rfl (by omega) (by decide)
          have hbase : w.heap.size + 2 ≤ (wc.alloc (.cells #[] 5)).heap.size := by have := hbw.size; omega
          have hbd : ([] : List UInt8).length + (l.drop i).length ≤ 140737488355328 := by rw [HLD.out]; simp; omega
          have HSRC := Lib.hid hsrc
          have HOWN0 := Lib.hid hown0
          have HBASE := Lib.hid hbase
          have HBD := Lib.hid hbd
          have hcn2 : ¬ cap = i := by omega
          clear hF HF hnone HE he hbw hwb hsrc hown0 hbase hbd
          go_wp2_with (at_builtin; (refine wpList_append_bytes (B := w.heap.size + 2) (l := []) (src := l.drop i) rfl _ _ rfl rfl HOWN0.out rfl HLD.out HSRC.out HBD.out HBASE.out ?_))
          intro v' w3 hown3 hg3
          have hb3 : But [] wc w3 := But.of_grown ((But.refl [] wc).alloc _) hg3 (fun k hk => Or.inr (by cases hk; exact Nat.le_refl _))
          have hrd3 := HRDX.out.go hb3 (by simp) (by simp)
          obtain ⟨A3, c3, rfl, _, _, _, _⟩ := OwnB.form hown3
          have HOW3 := Lib.hid hown3
          have HRD3 := Lib.hid hrd3
          have t0 := hrd3.told.cell (j := 0) (v := .slice A5 ks.length c5) rfl
          have t1 := hrd3.told.cell (j := 1) (v := .slice none 0 0) rfl
          have t2 := hrd3.told.cell (j := 2) (v := .bool ps) rfl
          have tf1 := hrd3.told.free 1
          have r0 := hrd3.res.cell (j := 0) (v := .slice none 0 0) rfl
          have r1 := hrd3.res.cell (j := 1) (v := .slice none 0 0) rfl
          have r2 := hrd3.res.cell (j := 2) (v := .bool false) rfl
          have rf0 := hrd3.res.free 0
          have rf1 := hrd3.res.free 1
          have rf2 := hrd3.res.free 2
          have hrl := hrd3.res.lt
          have htl := hrd3.told.lt
          clear hown3 hg3 hb3 hrd3 y0 y1
          go_wp2
          (try simp only [Exit.inBlock, Exit.then])
          refine bodyPost_ret (results_key rfl _ _ w.heap.size 62 _ _ rfl (Blk.set (Blk.set (Blk.set (Blk.other HRD3.out.res (a := ⟨w.heap.size + 1, 1, none⟩) (by simp) _) 0 _) 1 _) 2 _) Tryd.underlying62 rfl (by kernel_rfl)) rfl ?_
          rw [hF2.out]
          have how := HOW3.out
          rw [HLD.out] at how
          have hbs : But [w.heap.size, w.heap.size + 1] w3 ((((w3.setCell ⟨w.heap.size + 1, 1, none⟩ (.slice A3 (l.length - i) c3)).setCell ⟨w.heap.size, 0, none⟩ (.slice A5 ks.length c5)).setCell ⟨w.heap.size, 1, none⟩ (.slice A3 (l.length - i) c3)).setCell ⟨w.heap.size, 2, none⟩ (.bool ps)) := ((((But.refl _ _).set (Or.inl (by simp)) _).set (Or.inl (by simp)) _).set (Or.inl (by simp)) _).set (Or.inl (by simp)) _
          refine ⟨_, _, rfl, (HRD3.out.own.but hbs (by simp)).base (by omega), (OwnB.baseR (OwnB.butR how hbs (by simp)) (by omega)), ?_⟩
          exact ((((HRD3.out.but.set (Or.inr (by simp)) _).set (Or.inr (Nat.le_refl _)) _).set (Or.inr (Nat.le_refl _)) _).set (Or.inr (Nat.le_refl _)) _).below (Nat.le_refl _) (by simp)
        · subst he
          have hF := HF.out
          rw [drain_some hsome, List.drop_drop] at hF
          obtain ⟨hn1, hn2⟩ := nxE_some hsome
          rw [HLD.out] at hn2
          by_cases k13 : K = 13
          · subst k13
            have HFF := Lib.hid hF
            rw [if_pos (Or.inl rfl)] at HFF
            clear hF
            have hbw : But [w.heap.size + 1] wc (wc.setCell ⟨w.heap.size + 1, 2, none⟩ (.bool true)) := But.set (But.refl [w.heap.size + 1] wc) (Or.inl (by simp)) _
            have hal : Below (wc.setCell ⟨w.heap.size + 1, 2, none⟩ (.bool true)).heap.size (wc.setCell ⟨w.heap.size + 1, 2, none⟩ (.bool true)) ((wc.setCell ⟨w.heap.size + 1, 2, none⟩ (.bool true)).alloc (.cells #[.int .i64 13, .int .i64 KC] 54)) := (Below.refl _ _).alloc (Nat.le_refl _) _
            have hown : OwnK ((wc.setCell ⟨w.heap.size + 1, 2, none⟩ (.bool true)).alloc (.cells #[.int .i64 13, .int .i64 KC] 54)) (w.heap.size + 2) (.slice A5 ks.length c5) ks := (HRDX.out.own.but hbw (by simp)).below hal
            have hsrc : KeysAt ((wc.setCell ⟨w.heap.size + 1, 2, none⟩ (.bool true)).alloc (.cells #[.int .i64 13, .int .i64 KC] 54)) (some ⟨(wc.setCell ⟨w.heap.size + 1, 2, none⟩ (.bool true)).heap.size, 0, none⟩) [(13, KC)] := CellsAt.new _ #[.int .i64 13, .int .i64 KC] _ (cellsK [(13, KC)]) rfl
            have htold : Blk ((wc.setCell ⟨w.heap.size + 1, 2, none⟩ (.bool true)).alloc (.cells #[.int .i64 13, .int .i64 KC] 54)) (w.heap.size + 1) #[.slice A5 ks.length c5, .slice none 0 0, .bool (true)] 62 := Blk.alloc (HRDX.out.told.set 2 _) _
            have hres : Blk ((wc.setCell ⟨w.heap.size + 1, 2, none⟩ (.bool true)).alloc (.cells #[.int .i64 13, .int .i64 KC] 54)) w.heap.size #[.slice none 0 0, .slice none 0 0, .bool false] 62 := Blk.alloc (HRDX.out.res.but hbw (by simp)) _
            have hbt : But [] w ((wc.setCell ⟨w.heap.size + 1, 2, none⟩ (.bool true)).alloc (.cells #[.int .i64 13, .int .i64 KC] 54)) := ((HRDX.out.but.set (Or.inr (by simp)) _).alloc _)
            have hbase : w.heap.size + 2 ≤ ((wc.setCell ⟨w.heap.size + 1, 2, none⟩ (.bool true)).alloc (.cells #[.int .i64 13, .int .i64 KC] 54)).heap.size := by have h1 := hbw.size; have h2 := hal.size; omega
            have hbd : ks.length + [((13 : Int), KC)].length ≤ 1099511627776 := by simp; omega
            have hz : (wc.setCell ⟨w.heap.size + 1, 2, none⟩ (.bool true)).heap.size = wc.heap.size := by simp
            rw [hz] at hsrc
            have HOWN := Lib.hid hown
            have HSRC := Lib.hid hsrc
            have HTOLD := Lib.hid htold
            have HRES := Lib.hid hres
            have HBT := Lib.hid hbt
            have HBASE := Lib.hid hbase
            have HBD := Lib.hid hbd
            have t0 := HRDX.out.told.cell (j := 0) (v := .slice A5 ks.length c5) rfl
            have t2 := HRDX.out.told.cell (j := 2) (v := .bool ps) rfl
            have tf2 := HRDX.out.told.free 2
            have hne2 : w.heap.size + 1 ≠ wr.heap.size := by have := HKB.out; omega
            have hne1 : wr.heap.size ≠ w.heap.size + 1 := by have := HKB.out; omega
            clear hbw hal hown hsrc htold hres hbt hbase hbd HF HE hsome
            go_wp2_with (at_builtin; (refine wpList_append_keys (B := w.heap.size + 2) (l := ks) (src := [(13, KC)]) rfl _ _ rfl rfl HOWN.out rfl rfl HSRC.out HBD.out HBASE.out ?_))
            intro v' w5 hown5 hg5
            have hrow : ∀ k, Option.map (fun x => x.block) A5 = some k → w.heap.size + 2 ≤ k := fun k hk => (HOWN.out.lt (k := k) (by rw [‹(Value.slice A5 ks.length c5).ownBlock = Option.map (fun x => x.block) A5›]; exact hk)).1
            have htold5 := Blk.grown HTOLD.out hg5 (fun k hk => by have := hrow k hk; omega)
            have hres5 := Blk.grown HRES.out hg5 (fun k hk => by have := hrow k hk; omega)
            have hbt5 : But [] w w5 := But.of_grown HBT.out hg5 (fun k hk => Or.inr (by have := hrow k hk; omega))
            obtain ⟨A6, c6, rfl, _, _, _, _⟩ := hown5.form
            have HTOLD5 := Lib.hid htold5
            have HRES5 := Lib.hid hres5
            have HBT5 := Lib.hid hbt5
            have HOWN5 := Lib.hid hown5
            have s0 := htold5.cell (j := 0) (v := .slice A5 ks.length c5) rfl
            have sf0 := htold5.free 0
            have sl := htold5.lt
            have hnsum : IntKind.i64.wrap ((i : Int) + (n : Int)) = (i : Int) + (n : Int) := IntWalk.i64_in _ (by omega)
            clear hown5 hg5 hrow htold5 hres5 hbt5 t0 t2 tf2 y0 y1
            go_wp2
            go_roundw
            case rel =>
              have hl : (ks ++ [(13, KC)] : List (Int × Int)).length = ks.length + 1 := by simp
              have how := HOWN5.out
              rw [hl] at how
              have hbs : But [w.heap.size + 1] w5 (w5.setCell ⟨w.heap.size + 1, 0, none⟩ (.slice A6 (ks.length + 1) c6)) := (But.refl _ _).set (Or.inl (by simp)) _
              refine ⟨i + n, _, ks ++ [(13, KC)], true, by go_num, by omega, by simp; omega, ⟨HRES5.out.but hbs (by simp), Blk.set HTOLD5.out 0 _, how.but hbs (by simp), HBT5.out.set (Or.inr (by simp)) _⟩, ?_⟩
              unfold Hid
              rw [← HFF.out]
              simp
            case measure => simp [RowKit.intOf]; omega
          · by_cases k14 : K = 14
            · subst k14
              have HFF := Lib.hid hF
              rw [if_pos (Or.inr rfl)] at HFF
              clear hF
              have hbw : But [w.heap.size + 1] wc (wc.setCell ⟨w.heap.size + 1, 2, none⟩ (.bool false)) := But.set (But.refl [w.heap.size + 1] wc) (Or.inl (by simp)) _
              have hal : Below (wc.setCell ⟨w.heap.size + 1, 2, none⟩ (.bool false)).heap.size (wc.setCell ⟨w.heap.size + 1, 2, none⟩ (.bool false)) ((wc.setCell ⟨w.heap.size + 1, 2, none⟩ (.bool false)).alloc (.cells #[.int .i64 14, .int .i64 KC] 54)) := (Below.refl _ _).alloc (Nat.le_refl _) _
              have hown : OwnK ((wc.setCell ⟨w.heap.size + 1, 2, none⟩ (.bool false)).alloc (.cells #[.int .i64 14, .int .i64 KC] 54)) (w.heap.size + 2) (.slice A5 ks.length c5) ks := (HRDX.out.own.but hbw (by simp)).below hal
              have hsrc : KeysAt ((wc.setCell ⟨w.heap.size + 1, 2, none⟩ (.bool false)).alloc (.cells #[.int .i64 14, .int .i64 KC] 54)) (some ⟨(wc.setCell ⟨w.heap.size + 1, 2, none⟩ (.bool false)).heap.size, 0, none⟩) [(14, KC)] := CellsAt.new _ #[.int .i64 14, .int .i64 KC] _ (cellsK [(14, KC)]) rfl
              have htold : Blk ((wc.setCell ⟨w.heap.size + 1, 2, none⟩ (.bool false)).alloc (.cells #[.int .i64 14, .int .i64 KC] 54)) (w.heap.size + 1) #[.slice A5 ks.length c5, .slice none 0 0, .bool (false)] 62 := Blk.alloc (HRDX.out.told.set 2 _) _
              have hres : Blk ((wc.setCell ⟨w.heap.size + 1, 2, none⟩ (.bool false)).alloc (.cells #[.int .i64 14, .int .i64 KC] 54)) w.heap.size #[.slice none 0 0, .slice none 0 0, .bool false] 62 := Blk.alloc (HRDX.out.res.but hbw (by simp)) _
              have hbt : But [] w ((wc.setCell ⟨w.heap.size + 1, 2, none⟩ (.bool false)).alloc (.cells #[.int .i64 14, .int .i64 KC] 54)) := ((HRDX.out.but.set (Or.inr (by simp)) _).alloc _)
              have hbase : w.heap.size + 2 ≤ ((wc.setCell ⟨w.heap.size + 1, 2, none⟩ (.bool false)).alloc (.cells #[.int .i64 14, .int .i64 KC] 54)).heap.size := by have h1 := hbw.size; have h2 := hal.size; omega
              have hbd : ks.length + [((14 : Int), KC)].length ≤ 1099511627776 := by simp; omega
              have hz : (wc.setCell ⟨w.heap.size + 1, 2, none⟩ (.bool false)).heap.size = wc.heap.size := by simp
              rw [hz] at hsrc
              have HOWN := Lib.hid hown
              have HSRC := Lib.hid hsrc
              have HTOLD := Lib.hid htold
              have HRES := Lib.hid hres
              have HBT := Lib.hid hbt
              have HBASE := Lib.hid hbase
              have HBD := Lib.hid hbd
              have t0 := HRDX.out.told.cell (j := 0) (v := .slice A5 ks.length c5) rfl
              have t2 := HRDX.out.told.cell (j := 2) (v := .bool ps) rfl
              have tf2 := HRDX.out.told.free 2
              have hne2 : w.heap.size + 1 ≠ wr.heap.size := by have := HKB.out; omega
              have hne1 : wr.heap.size ≠ w.heap.size + 1 := by have := HKB.out; omega
              clear hbw hal hown hsrc htold hres hbt hbase hbd HF HE hsome
              go_wp2_with (at_builtin; (refine wpList_append_keys (B := w.heap.size + 2) (l := ks) (src := [(14, KC)]) rfl _ _ rfl rfl HOWN.out rfl rfl HSRC.out HBD.out HBASE.out ?_))
              intro v' w5 hown5 hg5
              have hrow : ∀ k, Option.map (fun x => x.block) A5 = some k → w.heap.size + 2 ≤ k := fun k hk => (HOWN.out.lt (k := k) (by rw [‹(Value.slice A5 ks.length c5).ownBlock = Option.map (fun x => x.block) A5›]; exact hk)).1
              have htold5 := Blk.grown HTOLD.out hg5 (fun k hk => by have := hrow k hk; omega)
              have hres5 := Blk.grown HRES.out hg5 (fun k hk => by have := hrow k hk; omega)
              have hbt5 : But [] w w5 := But.of_grown HBT.out hg5 (fun k hk => Or.inr (by have := hrow k hk; omega))
              obtain ⟨A6, c6, rfl, _, _, _, _⟩ := hown5.form
              have HTOLD5 := Lib.hid htold5
              have HRES5 := Lib.hid hres5
              have HBT5 := Lib.hid hbt5
              have HOWN5 := Lib.hid hown5
              have s0 := htold5.cell (j := 0) (v := .slice A5 ks.length c5) rfl
              have sf0 := htold5.free 0
              have sl := htold5.lt
              have hnsum : IntKind.i64.wrap ((i : Int) + (n : Int)) = (i : Int) + (n : Int) := IntWalk.i64_in _ (by omega)
              clear hown5 hg5 hrow htold5 hres5 hbt5 t0 t2 tf2 y0 y1
              go_wp2
              go_roundw
              case rel =>
                have hl : (ks ++ [(14, KC)] : List (Int × Int)).length = ks.length + 1 := by simp
                have how := HOWN5.out
                rw [hl] at how
                have hbs : But [w.heap.size + 1] w5 (w5.setCell ⟨w.heap.size + 1, 0, none⟩ (.slice A6 (ks.length + 1) c6)) := (But.refl _ _).set (Or.inl (by simp)) _
                refine ⟨i + n, _, ks ++ [(14, KC)], false, by go_num, by omega, by simp; omega, ⟨HRES5.out.but hbs (by simp), Blk.set HTOLD5.out 0 _, how.but hbs (by simp), HBT5.out.set (Or.inr (by simp)) _⟩, ?_⟩
                unfold Hid
                rw [← HFF.out]
                simp
              case measure => simp [RowKit.intOf]; omega
            · have e13 : (K == 13) = false := by simpa using k13
              have e14 : (K == 14) = false := by simpa using k14
              have HFF := Lib.hid hF
              rw [if_neg (by omega)] at HFF
              clear hF k13 k14
              have hbw : But [w.heap.size + 1] wc wc := But.refl [w.heap.size + 1] wc
              have hal : Below wc.heap.size wc (wc.alloc (.cells #[.int .i64 K, .int .i64 KC] 54)) := (Below.refl _ _).alloc (Nat.le_refl _) _
              have hown : OwnK (wc.alloc (.cells #[.int .i64 K, .int .i64 KC] 54)) (w.heap.size + 2) (.slice A5 ks.length c5) ks := (HRDX.out.own.but hbw (by simp)).below hal
              have hsrc : KeysAt (wc.alloc (.cells #[.int .i64 K, .int .i64 KC] 54)) (some ⟨wc.heap.size, 0, none⟩) [(K, KC)] := CellsAt.new _ #[.int .i64 K, .int .i64 KC] _ (cellsK [(K, KC)]) rfl
              have htold : Blk (wc.alloc (.cells #[.int .i64 K, .int .i64 KC] 54)) (w.heap.size + 1) #[.slice A5 ks.length c5, .slice none 0 0, .bool (ps)] 62 := Blk.alloc HRDX.out.told _
              have hres : Blk (wc.alloc (.cells #[.int .i64 K, .int .i64 KC] 54)) w.heap.size #[.slice none 0 0, .slice none 0 0, .bool false] 62 := Blk.alloc (HRDX.out.res.but hbw (by simp)) _
              have hbt : But [] w (wc.alloc (.cells #[.int .i64 K, .int .i64 KC] 54)) := (HRDX.out.but.alloc _)
              have hbase : w.heap.size + 2 ≤ (wc.alloc (.cells #[.int .i64 K, .int .i64 KC] 54)).heap.size := by have h1 := hbw.size; have h2 := hal.size; omega
              have hbd : ks.length + [((K : Int), KC)].length ≤ 1099511627776 := by simp; omega
              have hz : wc.heap.size = wc.heap.size := by simp
              have HOWN := Lib.hid hown
              have HSRC := Lib.hid hsrc
              have HTOLD := Lib.hid htold
              have HRES := Lib.hid hres
              have HBT := Lib.hid hbt
              have HBASE := Lib.hid hbase
              have HBD := Lib.hid hbd
              have t0 := HRDX.out.told.cell (j := 0) (v := .slice A5 ks.length c5) rfl
              have t2 := HRDX.out.told.cell (j := 2) (v := .bool ps) rfl
              have tf2 := HRDX.out.told.free 2
              have hne2 : w.heap.size + 1 ≠ wr.heap.size := by have := HKB.out; omega
              have hne1 : wr.heap.size ≠ w.heap.size + 1 := by have := HKB.out; omega
              clear hbw hal hown hsrc htold hres hbt hbase hbd HF HE hsome
              go_wp2_with (at_builtin; (refine wpList_append_keys (B := w.heap.size + 2) (l := ks) (src := [(K, KC)]) rfl _ _ rfl rfl HOWN.out rfl rfl HSRC.out HBD.out HBASE.out ?_))
              intro v' w5 hown5 hg5
              have hrow : ∀ k, Option.map (fun x => x.block) A5 = some k → w.heap.size + 2 ≤ k := fun k hk => (HOWN.out.lt (k := k) (by rw [‹(Value.slice A5 ks.length c5).ownBlock = Option.map (fun x => x.block) A5›]; exact hk)).1
              have htold5 := Blk.grown HTOLD.out hg5 (fun k hk => by have := hrow k hk; omega)
              have hres5 := Blk.grown HRES.out hg5 (fun k hk => by have := hrow k hk; omega)
              have hbt5 : But [] w w5 := But.of_grown HBT.out hg5 (fun k hk => Or.inr (by have := hrow k hk; omega))
              obtain ⟨A6, c6, rfl, _, _, _, _⟩ := hown5.form
              have HTOLD5 := Lib.hid htold5
              have HRES5 := Lib.hid hres5
              have HBT5 := Lib.hid hbt5
              have HOWN5 := Lib.hid hown5
              have s0 := htold5.cell (j := 0) (v := .slice A5 ks.length c5) rfl
              have sf0 := htold5.free 0
              have sl := htold5.lt
              have hnsum : IntKind.i64.wrap ((i : Int) + (n : Int)) = (i : Int) + (n : Int) := IntWalk.i64_in _ (by omega)
              clear hown5 hg5 hrow htold5 hres5 hbt5 t0 t2 tf2 y0 y1
              go_wp2
              go_roundw
              case rel =>
                have hl : (ks ++ [(K, KC)] : List (Int × Int)).length = ks.length + 1 := by simp
                have how := HOWN5.out
                rw [hl] at how
                have hbs : But [w.heap.size + 1] w5 (w5.setCell ⟨w.heap.size + 1, 0, none⟩ (.slice A6 (ks.length + 1) c6)) := (But.refl _ _).set (Or.inl (by simp)) _
                refine ⟨i + n, _, ks ++ [(K, KC)], ps, by go_num, by omega, by simp; omega, ⟨HRES5.out.but hbs (by simp), Blk.set HTOLD5.out 0 _, how.but hbs (by simp), HBT5.out.set (Or.inr (by simp)) _⟩, ?_⟩
                unfold Hid
                rw [← HFF.out]
                simp
              case measure => simp [RowKit.intOf]; omega
    · have hil : i = l.length := by omega
      have kk : decide ((i : Int) < (l.length : Int)) = false := by simp; omega
      have kk' : decide (i < l.length) = false := by simp; omega
      have hF := HF.out
      rw [hil, List.drop_length] at hF
      have hF2 : Hid (R = (ks, [], ps)) := by unfold Hid; rw [← hF]; simp [drain, drF]
      have t0 := HRD.out.told.cell (j := 0) (v := .slice A5 ks.length c5) rfl
      have t1 := HRD.out.told.cell (j := 1) (v := .slice none 0 0) rfl
      have t2 := HRD.out.told.cell (j := 2) (v := .bool ps) rfl
      have r0 := HRD.out.res.cell (j := 0) (v := .slice none 0 0) rfl
      have r1 := HRD.out.res.cell (j := 1) (v := .slice none 0 0) rfl
      have r2 := HRD.out.res.cell (j := 2) (v := .bool false) rfl
      have rf0 := HRD.out.res.free 0
      have rf1 := HRD.out.res.free 1
      have rf2 := HRD.out.res.free 2
      have hrl := HRD.out.res.lt
      have htl := HRD.out.told.lt
      clear hlt hil hF HF
      go_wp2
      (try simp only [Exit.inBlock, Exit.then])
      refine bodyPost_ret (results_key rfl _ _ w.heap.size 62 _ _ rfl (Blk.set (Blk.set (Blk.set HRD.out.res 0 _) 1 _) 2 _) Tryd.underlying62 rfl (by kernel_rfl)) rfl ?_
      rw [hF2.out]
      have hbs : But [w.heap.size] wr (((wr.setCell ⟨w.heap.size, 0, none⟩ (.slice A5 ks.length c5)).setCell ⟨w.heap.size, 1, none⟩ (.slice none 0 0)).setCell ⟨w.heap.size, 2, none⟩ (.bool ps)) := (((But.refl _ _).set (Or.inl (by simp)) _).set (Or.inl (by simp)) _).set (Or.inl (by simp)) _
      refine ⟨_, _, rfl, (HRD.out.own.but hbs (by simp)).base (by omega), OwnB.nil _ _, ?_⟩
      exact (((HRD.out.but.set (Or.inr (Nat.le_refl _)) _).set (Or.inr (Nat.le_refl _)) _).set (Or.inr (Nat.le_refl _)) _).below (Nat.le_refl _) (by simp)

end Go.Proofs.YtcakeolnokninaaDoor.Edit

/- The key of what is held at the end (whispererref10.Last), and whether pieces are more than are looked at (great). -/
set_option linter.unusedVariables false
set_option linter.unusedSimpArgs false
namespace Go.Proofs.YtcakeolnokninaaDoor.Edit
open Go.RowKit Go.Lib Go.Shelf ChangeShapes Mem Utf UtfP Law

def lastP (t : List UInt8) : Int × Int := if t = [] then (0, 0) else lastK (bt t 0 : Int)

set_option maxRecDepth 100000 in
set_option maxHeartbeats 1000000 in
theorem last_c (t : List UInt8) (A : Option Addr) (cap : Nat) (w : World) (hA : BytesAt w A t) (hcap : t.length ≤ cap) :
    Calls Tryd.prog 36 #[.slice A t.length cap] w fun e w' => e = .returned (.tuple #[.agg #[.int .i64 (lastP t).1, .int .i64 (lastP t).2], .bool (decide (t ≠ []))]) ∧ Below w.heap.size w w' := by
  have hbel : ∀ C : Array Value, Below w.heap.size w (w.alloc (.cells C 54)) := fun C => (Below.refl _ _).alloc (Nat.le_refl _) _
  have HBEL := Lib.hid hbel
  clear hbel
  by_cases h0 : t = []
  · subst h0
    have hs : lastP [] = (0, 0) := rfl
    have hd : decide (([] : List UInt8) ≠ []) = false := by simp
    rw [hs, hd]
    clear hA hcap
    show Calls _ _ #[.slice A 0 cap] _ _
    go_enter Tryd.func36, Tryd.ntmps36
    go_wp2
    (try simp only [Exit.inBlock, Exit.then])
    refine bodyPost_ret (results_cell2 rfl _ _ w.heap.size 54 _ _ rfl (Blk.new w _ _) Tryd.underlying54 rfl (by kernel_rfl)) rfl ?_
    exact ⟨rfl, HBEL.out _⟩
  · have hpos : 0 < t.length := List.length_pos_iff.2 h0
    obtain ⟨B, off, rfl, hB, hc⟩ := hA h0
    have q0 : w.cell? ⟨B, off, none⟩ = _ := hc 0 hpos
    have hd : decide (t ≠ []) = true := by simpa using h0
    obtain ⟨x, hx⟩ : ∃ x, bt t 0 = x := ⟨_, rfl⟩
    have hl : lastP t = lastK (x : Int) := by unfold lastP; rw [if_neg h0, hx]
    rw [hx] at q0
    have k0 : (0 : Int) < (t.length : Int) := by omega
    have kz : ((t.length : Int) == 0) = false := by simp; omega
    have kz' : (t.length == 0) = false := by simp; omega
    rw [hl, hd]
    clear hc hx h0 hl hd
    by_cases hx : x = 27
    · subst hx
      have hk : lastK ((27 : Nat) : Int) = (15, 0) := rfl
      rw [hk]
      go_enter Tryd.func36, Tryd.ntmps36
      go_wp2
      (try simp only [Exit.inBlock, Exit.then])
      refine bodyPost_ret (results_cell2 rfl _ _ w.heap.size 54 _ _ rfl (Blk.new w _ _) Tryd.underlying54 rfl (by kernel_rfl)) rfl ?_
      exact ⟨rfl, HBEL.out _⟩
    · have hk : lastK (x : Int) = (0, 65533) := by unfold lastK; rw [if_neg (by omega)]
      have k1 : ((x : Int) == 27) = false := by simp; omega
      have k1' : (x == 27) = false := by simp; omega
      rw [hk]
      clear hk hx
      go_enter Tryd.func36, Tryd.ntmps36
      go_wp2
      (try simp only [Exit.inBlock, Exit.then])
      refine bodyPost_ret (results_cell2 rfl _ _ w.heap.size 54 _ _ rfl (Blk.new w _ _) Tryd.underlying54 rfl (by kernel_rfl)) rfl ?_
      exact ⟨rfl, HBEL.out _⟩

def sumB (rs : List ByteRow) : Nat := (rs.map fun r => r.l.length).sum
theorem sumB_snoc {rs : List ByteRow} {j : Nat} {r : ByteRow} (h : rs[j]? = some r) : sumB (rs.take (j + 1)) = sumB (rs.take j) + r.l.length := by
  obtain ⟨hj, rfl⟩ := List.getElem?_eq_some_iff.1 h
  unfold sumB
  rw [List.take_add_one, List.getElem?_eq_getElem hj, List.map_append, List.sum_append]
  rfl
theorem sumB_bd : ∀ {rs : List ByteRow} {m : Nat}, (∀ r ∈ rs, r.l.length ≤ m) → sumB rs ≤ rs.length * m
  | [], _, _ => by simp [sumB]
  | r :: rs, m, h => by
    have h1 := h r (by simp)
    have h2 := sumB_bd (rs := rs) (m := m) (fun x hx => h x (by simp [hx]))
    unfold sumB at h2 ⊢
    rw [List.map_cons, List.sum_cons, List.length_cons, Nat.add_mul]
    omega
theorem sumB_take (rs : List ByteRow) (j : Nat) : sumB (rs.take j) ≤ sumB rs := by
  have h : sumB (rs.take j ++ rs.drop j) = sumB (rs.take j) + sumB (rs.drop j) := by unfold sumB; rw [List.map_append, List.sum_append]
  rw [List.take_append_drop] at h
  omega

/-- an answer, and what it says -/
def GreatB (rs : List ByteRow) (w : World) (e : Ending) (w' : World) : Prop := ∃ b, e = .returned (.bool b) ∧ (b = false → rs.length ≤ 100 ∧ sumB rs ≤ 2000) ∧ w' = w

set_option maxHeartbeats 1000000 in
theorem great_c (rs : List ByteRow) (Q : Option Addr) (cap : Nat) (w : World) (hA : RowsAt w 1 ByteRow.cells Q rs) (hm : rs.length ≤ 140737488355328) (hc : ∀ r ∈ rs, r.l.length ≤ 140737488351232) :
    Calls Tryd.prog 33 #[.slice Q rs.length cap] w (GreatB rs w) := by
  have HA := Lib.hid hA
  have HC := Lib.hid hc
  clear hA hc
  by_cases hbig : 100 < rs.length
  · have k9 : decide (100 < (rs.length : Int)) = true := by simp; omega
    have k9' : decide (100 < rs.length) = true := by simp; omega
    go_enter Tryd.func33, Tryd.ntmps33
    go_wp2
    go_loopw [3, 8] (fun n i wr => ∃ (z : Int) (j : Nat), n = .int .i64 z ∧ i = .int .i64 (j : Int) ∧ j ≤ rs.length ∧ wr = w) (fun _ i _ => rs.length - (RowKit.intOf i).toNat)
    case atStart => exact ⟨0, 0, rfl, rfl, by omega, rfl⟩
    case round =>
      obtain ⟨z, j, rfl, rfl, hj, rfl⟩ := hrel
      by_cases hlt : j < rs.length
      · have k0 : (j : Int) < (rs.length : Int) := by omega
        obtain ⟨r, hr⟩ : ∃ r, rs[j]? = some r := ⟨_, List.getElem?_eq_getElem hlt⟩
        obtain ⟨g, off, rfl, hgl, hcell⟩ := HA.out (List.length_pos_iff.1 (by omega : 0 < rs.length))
        have e0 := hcell j r hr 0 _ rfl
        rw [Nat.mul_one, Nat.add_zero] at e0
        obtain ⟨A0, l, cap0⟩ := r
        simp only at e0
        clear hcell hgl hr
        go_wp2
        go_roundw
        case rel => exact ⟨_, j + 1, rfl, by go_num, by omega, by trivial⟩
        case measure => simp [RowKit.intOf]; omega
      · have hge : decide ((j : Int) < (rs.length : Int)) = false := by simp; omega
        have hge' : decide (j < rs.length) = false := by simp; omega
        clear hlt
        go_wp2
        go_ret
        exact ⟨true, rfl, by simp, rfl⟩
  · have k9 : decide (100 < (rs.length : Int)) = false := by simp; omega
    have k9' : decide (100 < rs.length) = false := by simp; omega
    go_enter Tryd.func33, Tryd.ntmps33
    go_wp2
    go_loopw [3, 8] (fun n i wr => ∃ (z j : Nat), n = .int .i64 (z : Int) ∧ i = .int .i64 (j : Int) ∧ j ≤ rs.length ∧ Hid (z = sumB (rs.take j)) ∧ wr = w) (fun _ i _ => rs.length - (RowKit.intOf i).toNat)
    case atStart => exact ⟨0, 0, rfl, rfl, by omega, rfl, rfl⟩
    case round =>
      obtain ⟨z, j, rfl, rfl, hj, HZ, rfl⟩ := hrel
      have hz : z ≤ 28147497670246400 := by
        have h1 := sumB_bd (rs := rs.take j) (m := 140737488351232) (fun r hr => HC.out r (List.mem_of_mem_take hr))
        rw [List.length_take] at h1
        have h2 : min j rs.length * 140737488351232 ≤ 200 * 140737488351232 := Nat.mul_le_mul_right _ (by omega)
        rw [HZ.out]
        omega
      by_cases hlt : j < rs.length
      · have k0 : (j : Int) < (rs.length : Int) := by omega
        obtain ⟨r, hr⟩ : ∃ r, rs[j]? = some r := ⟨_, List.getElem?_eq_getElem hlt⟩
        obtain ⟨g, off, rfl, hgl, hcell⟩ := HA.out (List.length_pos_iff.1 (by omega : 0 < rs.length))
        have hlr : r.l.length ≤ 140737488351232 := HC.out r (List.mem_of_getElem? hr)
        have HS := Lib.hid (sumB_snoc hr)
        have e0 := hcell j r hr 0 _ rfl
        rw [Nat.mul_one, Nat.add_zero] at e0
        obtain ⟨A0, l, cap0⟩ := r
        simp only at e0 hlr
        clear hcell hgl hr
        go_wp2
        go_roundw
        case rel => exact ⟨z + l.length, j + 1, by go_num, by go_num, by omega, by unfold Hid; rw [HS.out, ← HZ.out], by trivial⟩
        case measure => simp [RowKit.intOf]; omega
      · have hge : decide ((j : Int) < (rs.length : Int)) = false := by simp; omega
        have hge' : decide (j < rs.length) = false := by simp; omega
        have hjl : j = rs.length := by omega
        have Hj := Lib.hid hjl
        have HBIG := Lib.hid hbig
        clear hlt hjl
        by_cases h3 : z ≤ 2000
        · have k8 : decide (2000 < (z : Int)) = false := by simp; omega
          go_wp2
          go_ret
          refine ⟨false, rfl, fun _ => ⟨by have := HBIG.out; omega, ?_⟩, rfl⟩
          have h2 := HZ.out
          rw [Hj.out, List.take_length] at h2
          omega
        · have k8 : decide (2000 < (z : Int)) = true := by simp; omega
          go_wp2
          go_ret
          exact ⟨true, rfl, by simp, rfl⟩

end Go.Proofs.YtcakeolnokninaaDoor.Edit

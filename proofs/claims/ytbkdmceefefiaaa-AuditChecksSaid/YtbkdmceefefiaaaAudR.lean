/- The document's step of an audit, walked: it is the plain step. -/
import Derived.Test.YtbkdmceefefiaaaAudC
import Derived.IntWalk
set_option linter.unusedVariables false
namespace Go.Proofs.Ytbkdmceefefiaaa.Aud
open Go.RowKit Go.Lib Mem Byt

theorem rset1 (k fl mn tm fl' mn' tm' : Int) (d : Value) (n : Int) (ok : Bool) (w : World) (hk : (k == 1) = false) :
    Calls Try.prog 19 #[.agg (effC k fl mn tm d n ok), .agg #[.int .u32 fl', .int .u8 mn', .int .u8 tm']] w fun e w' => e = .returned (.int .i64 11) ∧ Below w.heap.size w w' := by
  unfold effC
  have hw := Lib.hid (((Below.refl w.heap.size w).alloc (Nat.le_refl _) (.cells #[.int .i64 k, .int .u32 fl, .int .u8 mn, .int .u8 tm, d, .int .i64 n, .bool ok] 44)).alloc (by simp) (.cells #[.int .u32 fl', .int .u8 mn', .int .u8 tm'] 41))
  go_enter Try.func19, Try.ntmps19
  go_wp2
  go_ret
  exact ⟨rfl, hw.out⟩

theorem rset2 (fl mn tm fl' mn' tm' : Int) (d : Value) (n : Int) (ok : Bool) (w : World) :
    Calls Try.prog 19 #[.agg (effC 1 fl mn tm d n ok), .agg #[.int .u32 fl', .int .u8 mn', .int .u8 tm']] w fun e w' => e = .returned (.int .i64 (if fl = fl' ∧ mn = mn' ∧ tm = tm' then 0 else 2)) ∧ Below w.heap.size w w' := by
  unfold effC
  go_enter Try.func19, Try.ntmps19
  go_wp2
  all_goals
    go_ret
    exact ⟨rfl, ((Below.refl _ _).alloc (Nat.le_refl _) _).alloc (by simp) _⟩

theorem rset (k fl mn tm fl' mn' tm' : Int) (d : Value) (n : Int) (ok : Bool) (w : World) :
    Calls Try.prog 19 #[.agg (effC k fl mn tm d n ok), .agg #[.int .u32 fl', .int .u8 mn', .int .u8 tm']] w fun e w' => e = .returned (.int .i64 (setErr k fl mn tm fl' mn' tm')) ∧ Below w.heap.size w w' := by
  unfold setErr
  cases h : k == 1 with
  | false => exact rset1 k fl mn tm fl' mn' tm' d n ok w h
  | true =>
    obtain rfl : k = 1 := by simpa using h
    exact rset2 fl mn tm fl' mn' tm' d n ok w

theorem rawFl_eq (fl : Int) (h : 0 ≤ fl ∧ fl < 4294967296) : (fl - fl.tmod 64) % 4294967296 = rawFl fl := by
  obtain ⟨n, rfl⟩ : ∃ n : Nat, fl = n := ⟨fl.toNat, by omega⟩
  unfold rawFl
  show _ = IntKind.u32.wrap ((BitVec.ofInt 32 (n : Int) &&& ~~~BitVec.ofInt 32 ((63 : Nat) : Int)).toNat : Int)
  rw [BitVec.toNat_and, BitVec.toNat_not, ofInt_u32 n (by omega), ofInt_u32 63 (by omega)]
  rw [show 2 ^ 32 - 1 - 63 = 4294967232 by decide, nat_midmask 32 6 n (by decide), IntKind.wrap_u32']
  have e : (n : Int).tmod 64 = ((n % 64 : Nat) : Int) := by
    rw [Int.tmod_eq_emod_of_nonneg (by omega)]; rfl
  rw [e]
  omega

theorem rraw (fl mn tm : Int) (hf : 0 ≤ fl ∧ fl < 4294967296) (w : World) :
    Calls Try.prog 20 #[.agg #[.int .u32 fl, .int .u8 mn, .int .u8 tm]] w fun e w' => e = .returned (.agg #[.int .u32 (rawFl fl), .int .u8 1, .int .u8 0]) ∧ Below w.heap.size w w' := by
  rw [← rawFl_eq fl hf]
  clear hf
  go_enter Try.func20, Try.ntmps20
  go_wp2
  (try simp only [Exit.inBlock, Exit.then])
  refine bodyPost_ret (results_cell_row rfl _ _ (w.heap.size + 1) 41 _ (0, 0) _ rfl (by have h := Blk.new (w.alloc (.cells #[.int .u32 fl, .int .u8 mn, .int .u8 tm] 41)) #[.int .u32 ((fl - fl.tmod 64) % 4294967296), .int .u8 1, .int .u8 0] 41; simpa [Blk] using h) Try.underlying41 rfl (by kernel_rfl)) rfl ?_
  exact ⟨rfl, ((Below.refl _ _).alloc (Nat.le_refl _) _).alloc (by simp) _⟩

end Go.Proofs.Ytbkdmceefefiaaa.Aud

/- The document's examples of an audit, walked; and how many calls a prompt may need. -/
import Derived.Test.YtbkdmceefefiaaaAudC
set_option linter.unusedVariables false
namespace Go.Proofs.Ytbkdmceefefiaaa.Aud
open Go.RowKit Go.Lib Mem Byt

theorem effs_new (w : World) (e : Eff) (hl : e.l = []) (cs : Array Value) (hcs : cs = e.cells) : EffsAt (w.alloc (.cells cs 44)) (some ⟨w.heap.size, 0, none⟩) [e] := by
  subst hcs
  intro _
  refine ⟨w.heap.size, 0, rfl, by simp, fun j e' he => ?_⟩
  obtain rfl : j = 0 := by
    rcases j with _ | j
    · rfl
    · simp at he
  obtain rfl : e = e' := by simpa using he
  refine ⟨fun i v hv => ?_, fun h => absurd hl h⟩
  have := Blk.cell (Blk.new w e.cells 44) hv
  simpa using this

def ex (k : Int) (ok : Bool) : Eff := ⟨k, 0, 0, 0, none, [], 0, 0, ok⟩
theorem check_one (k : Int) (ok : Bool) (n x : Int) (hR : (repC (checkS 0 0 zeroS [ex k ok]).1, ((checkS 0 0 zeroS [ex k ok]).2.1 : Int), (checkS 0 0 zeroS [ex k ok]).2.2) = (#[.int .i64 0, .int .i64 0, .int .i64 0, .int .i64 0, .int .i64 0, .int .i64 0, .bool false], n, x)) (w w1 : World) (g : Nat) (hw : w1 = w.alloc (.cells #[.int .i64 k, .int .u32 0, .int .u8 0, .int .u8 0, .slice none 0 0, .int .i64 0, .bool ok] 44)) (hg : g = w.heap.size) :
    Calls Try.prog 8 #[.slice (some ⟨g, 0, none⟩) 1 1] w1 fun e w' => e = .returned (.tuple #[.agg #[.int .i64 0, .int .i64 0, .int .i64 0, .int .i64 0, .int .i64 0, .int .i64 0, .bool false], .int .i64 n, .int .i64 x]) ∧ Below w1.heap.size w1 w' := by
  obtain ⟨h1, h2⟩ := Prod.mk.injEq _ _ _ _ ▸ hR
  obtain ⟨h2, h3⟩ := Prod.mk.injEq _ _ _ _ ▸ h2
  subst hw hg
  have h := check [ex k ok] (some ⟨w.heap.size, 0, none⟩) 1 _ (effs_new w (ex k ok) rfl _ rfl) (by simp)
  rw [h1, h2, h3] at h
  exact h

theorem one1 : (repC (checkS 0 0 zeroS [ex 0 false]).1, ((checkS 0 0 zeroS [ex 0 false]).2.1 : Int), (checkS 0 0 zeroS [ex 0 false]).2.2) = (#[.int .i64 0, .int .i64 0, .int .i64 0, .int .i64 0, .int .i64 0, .int .i64 0, .bool false], 1, 0) := by kernel_rfl
theorem one2 : (repC (checkS 0 0 zeroS [ex 0 true]).1, ((checkS 0 0 zeroS [ex 0 true]).2.1 : Int), (checkS 0 0 zeroS [ex 0 true]).2.2) = (#[.int .i64 0, .int .i64 0, .int .i64 0, .int .i64 0, .int .i64 0, .int .i64 0, .bool false], 1, 7) := by kernel_rfl
theorem one3 : (repC (checkS 0 0 zeroS [ex 6 false]).1, ((checkS 0 0 zeroS [ex 6 false]).2.1 : Int), (checkS 0 0 zeroS [ex 6 false]).2.2) = (#[.int .i64 0, .int .i64 0, .int .i64 0, .int .i64 0, .int .i64 0, .int .i64 0, .bool false], 0, 13) := by kernel_rfl

set_option maxHeartbeats 4000000 in
theorem alive (w : World) : Calls Try.prog 6 #[] w fun e w' => e = .returned (.bool true) ∧ Below w.heap.size w w' := by
  have H1 := Lib.hid (check_one 0 false 1 0 one1)
  have H2 := Lib.hid (check_one 0 true 1 7 one2)
  have H3 := Lib.hid (check_one 6 false 0 13 one3)
  go_enter Try.func6, Try.ntmps6
  go_wp2_with fail
  refine (H1.out w _ _ rfl rfl).mono ?_
  rintro e w1 ⟨rfl, hb1⟩
  have HB1 := Lib.hid (((Below.refl w.heap.size w).alloc (Nat.le_refl _) _).trans (hb1.mono (by simp)))
  clear hb1
  go_wp2_with fail
  refine (H2.out (w1.alloc (.cells #[.int .i64 0, .int .i64 0, .int .i64 0, .int .i64 0, .int .i64 0, .int .i64 0, .bool false] 26)) _ _ rfl (by simp)).mono ?_
  rintro e w2 ⟨rfl, hb2⟩
  have HB2 := Lib.hid hb2
  clear hb2
  go_wp2_with fail
  refine (H3.out (w2.alloc (.cells #[.int .i64 0, .int .i64 0, .int .i64 0, .int .i64 0, .int .i64 0, .int .i64 0, .bool false] 26)) _ _ rfl (by simp)).mono ?_
  rintro e w3 ⟨rfl, hb3⟩
  have HB3 := Lib.hid hb3
  have hk2 : Blk w2 w1.heap.size #[.int .i64 0, .int .i64 0, .int .i64 0, .int .i64 0, .int .i64 0, .int .i64 0, .bool false] 26 := ((Blk.new w1 _ _).alloc _).but (But.of_below (S := []) HB2.out) (by simp)
  have hk3 : Blk w3 w1.heap.size #[.int .i64 0, .int .i64 0, .int .i64 0, .int .i64 0, .int .i64 0, .int .i64 0, .bool false] 26 := ((hk2.alloc _).alloc _).but (But.of_below (S := []) hb3) (by simp)
  have hlt := hk3.lt
  have hne : w1.heap.size ≠ w3.heap.size := by omega
  have c0 := hk3.cell (j := 0) rfl
  have c1 := hk3.cell (j := 1) rfl
  have c2 := hk3.cell (j := 2) rfl
  have c3 := hk3.cell (j := 3) rfl
  have c4 := hk3.cell (j := 4) rfl
  have c5 := hk3.cell (j := 5) rfl
  have c6 := hk3.cell (j := 6) rfl
  have HB : Hid (Below w.heap.size w w3) := HB1.out.trans (((((Below.refl w1.heap.size w1).alloc (Nat.le_refl _) _).alloc (by simp) _).trans (HB2.out.mono (by simp; omega))).mono HB1.out.size |>.trans ((((Below.refl w2.heap.size w2).alloc (Nat.le_refl _) _).alloc (by simp) _).trans (HB3.out.mono (by simp; omega)) |>.mono (by have := HB2.out.size; have := HB1.out.size; simp at *; omega)))
  clear hk2 hk3 hb3
  go_wp2
  go_ret
  exact ⟨rfl, HB.out.alloc HB.out.size _⟩

end Go.Proofs.Ytbkdmceefefiaaa.Aud

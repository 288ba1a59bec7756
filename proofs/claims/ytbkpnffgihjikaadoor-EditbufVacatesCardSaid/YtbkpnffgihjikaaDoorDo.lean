/- Do, walked over what a key's function does. -/
import Derived.Test.YtbkpnffgihjikaaDoorKinds
import Derived.Deep.RegionWith
set_option linter.unusedVariables false
namespace Go.Proofs.YtbkpnffgihjikaaDoor.Edit
open Go.RowKit Go.Lib Go.Shelf ChangeShapes Mem Utf

theorem Buf.drewN {w : World} {b a c N : Nat} {t : List UInt8} {p : Nat} (h : Buf w b a c N t p) (n : Nat) : Buf (w.drewN n) b a c N t p := ⟨h.head, ⟨h.ar.head, h.ar.body, h.ar.ne, h.ar.fit, h.ar.pos, h.ar.max⟩, h.ba, h.bc, h.le⟩
theorem But.drewN {S : List Nat} (w : World) (n : Nat) : But S w (w.drewN n) := ⟨rfl, rfl, rfl, Nat.le_refl _, fun _ _ _ => rfl⟩

set_option maxRecDepth 200000 in
set_option maxHeartbeats 2000000 in
theorem do_key {b a c N p : Nat} {t : List UInt8} (k cc : Int) (i F : Nat) (hf : Instr.findNow (.int .i64) (.int .i64 k) tbl.toList 0 = some (some (i, fnV F))) (hk0 : (k == 0) = false)
    (hcf : ∀ args W, (callFunc F args).run Tryd.prog W = .ok (.enter F args) W) (t' : List UInt8) (p' : Nat)
    (HF : ∀ W, Buf W b a c N t p → Calls Tryd.prog F #[.pointer (some ⟨b, 0, none⟩)] W fun e w' => e = .returned (.tuple #[]) ∧ Buf w' b a c N t' p' ∧ But [b, a, c] W w') (w : World) (h : Buf w b a c N t p) :
    Calls Tryd.prog 34 #[.pointer (some ⟨b, 0, none⟩), .agg #[.int .i64 k, .int .i64 cc]] w fun e w' => e = .returned (.tuple #[.bool (decide (p' ≠ p) || decide (t'.length ≠ t.length)), .int .i64 0]) ∧ Buf w' b a c N t' p' ∧ But [b, a, c] w w' := by
  obtain ⟨o, ho⟩ : ∃ o : Obj, o = .cells #[.int .i64 k, .int .i64 cc] 52 := ⟨_, rfl⟩
  have hn : Blk (w.alloc o) w.heap.size #[.int .i64 k, .int .i64 cc] 52 := by rw [ho]; exact Blk.new _ _ _
  have hS : ∀ W, Below (w.alloc o).heap.size (w.alloc o) W → Below (w.alloc o).heap.size (w.alloc o) W ∧ W.cell? ⟨w.heap.size, 0, none⟩ = some (.int .i64 k) ∧ W.cell? ⟨w.heap.size, 1, none⟩ = some (.int .i64 cc) := fun W hW => by
    have q : ∀ j v, (w.alloc o).cell? ⟨w.heap.size, j, none⟩ = some v → W.cell? ⟨w.heap.size, j, none⟩ = some v := fun j v h => by rw [hW.cell (p := ⟨w.heap.size, j, none⟩) hn.lt]; exact h
    exact ⟨hW, q _ _ (hn.cell rfl), q _ _ (hn.cell rfl)⟩
  have HS := Lib.hid hS
  have H1 : Hid (∀ W, Below (w.alloc o).heap.size (w.alloc o) W → Calls Tryd.prog 67 #[] W fun e w' => ∃ m, e = .returned (.map (some m)) ∧ ((Instr.lookup 101 (.map (some m)) (.int .i64 k) true).run Tryd.prog w' = .ok (.tuple #[.func (.func F) #[] #[], .bool true]) w') ∧ Below (w.alloc o).heap.size (w.alloc o) w') := fun W hW => (kinds W).mono fun e w' ⟨he, hm, hb⟩ => ⟨_, he, run_look w' Tryd.underlying101 Tryd.underlying3 _ tbl 8 hm k i _ hf, hW.trans (hb.mono hW.size)⟩
  have hd0 : Below (w.alloc o).heap.size (w.alloc o) (w.alloc o).drew := (Below.refl _ _).drew
  have HO := Lib.hid ho
  have HB := Lib.hid h
  have HCF := Lib.hid hcf
  have HHF := Lib.hid HF
  clear hS hn ho h hf hcf HF
  go_enter Tryd.func34, Tryd.ntmps34
  go_wp2
  rw [← HO.out]
  have d0 := (HS.out _ hd0).2.1
  have d1 := (HS.out _ hd0).2.2
  go_region_with (go_at_call 67; refine (H1.out _ hd0).mono ?_; rintro e w3 ⟨m, rfl, hlk, hb3⟩; have g0 := (HS.out _ hb3).2.1)
  all_goals
    have hw3 : Below w.heap.size w w3 := ((Below.refl _ _).alloc (Nat.le_refl _) o).trans (hb3.mono (by simp))
    have hbuf3 : Buf w3 b a c N t p := HB.out.but (But.of_below (S := []) hw3) (by simp) (by simp) (by simp)
    have HW3 := Lib.hid hw3
    have HB3 := Lib.hid hbuf3
    have HL : Hid (∀ n, Calls Tryd.prog 45 #[.pointer (some ⟨a, 0, none⟩)] (w3.drewN n) fun e w' => e = .returned (.int .i64 (t.length : Int)) ∧ w' = w3.drewN n) := fun n => len (w3.drewN n) (Buf.drewN HB3.out n).ar
    have c0 := hbuf3.head.cell (j := 0) (v := .pointer (some ⟨a, 0, none⟩)) rfl
    have c1 := hbuf3.head.cell (j := 1) (v := .int .i64 (p : Int)) rfl
    clear hb3 hw3 hbuf3 hlk d0 d1 hd0
    go_wp2
    go_quiet ((go_at_call 45; exact Calls.quiet_of_same (HL.out _)))
    clear c0 c1 g0
    have hcf := HCF.out
    go_wp2_with fail
    refine (HHF.out _ (Buf.drewN HB3.out _)).mono ?_
    rintro e w4 ⟨rfl, hbuf4, hb4⟩
    have HL4 := Lib.hid (len w4 hbuf4.ar)
    have e0 := hbuf4.head.cell (j := 0) (v := .pointer (some ⟨a, 0, none⟩)) rfl
    have e1 := hbuf4.head.cell (j := 1) (v := .int .i64 (p' : Int)) rfl
    have HB4 := Lib.hid hbuf4
    have HW4 : Hid (But [b, a, c] w w4) := (But.of_below HW3.out).trans ((But.drewN _ _).trans hb4)
    clear hbuf4 hb4 hcf
    by_cases hp : p' = p
    · have q1 : ((p' : Int) != (p : Int)) = false := by simp [hp]
      by_cases hl : t'.length = t.length
      · have q2 : ((t'.length : Int) != (t.length : Int)) = false := by simp [hl]
        have Q : Hid ((decide (p' ≠ p) || decide (t'.length ≠ t.length)) = false) := by unfold Hid; simp [hp, hl]
        clear hp hl
        go_wp2_with (go_at_call 45; refine (HL4.out).mono ?_; rintro e w5 ⟨rfl, hq⟩; obtain rfl := hq.symm)
        go_ret2
        exact ⟨by rw [Q.out]; rfl, HB4.out, HW4.out⟩
      · have q2 : ((t'.length : Int) != (t.length : Int)) = true := by rw [bne_iff_ne]; omega
        have Q : Hid ((decide (p' ≠ p) || decide (t'.length ≠ t.length)) = true) := by unfold Hid; simp [hl]
        clear hp hl
        go_wp2_with (go_at_call 45; refine (HL4.out).mono ?_; rintro e w5 ⟨rfl, hq⟩; obtain rfl := hq.symm)
        go_ret2
        exact ⟨by rw [Q.out]; rfl, HB4.out, HW4.out⟩
    · have q1 : ((p' : Int) != (p : Int)) = true := by rw [bne_iff_ne]; omega
      have Q : Hid ((decide (p' ≠ p) || decide (t'.length ≠ t.length)) = true) := by unfold Hid; simp [hp]
      clear hp
      go_wp2_with (go_at_call 45; refine (HL4.out).mono ?_; rintro e w5 ⟨rfl, hq⟩; obtain rfl := hq.symm)
      go_ret2
      exact ⟨by rw [Q.out]; rfl, HB4.out, HW4.out⟩

theorem zero_fn (w : World) : (zeroValue 99).run Tryd.prog w = .ok .nilFunc w := by
  obtain ⟨i, hi⟩ := Option.isSome_iff_exists.1 (show (Tryd.prog.info? 99).isSome = true by kernel_rfl)
  have h1 : (Tryd.prog.info? 99).map (fun i => i.zero) = some (some .nilFunc) := by kernel_rfl
  rw [hi] at h1
  simp only [Option.map_some, Option.some.injEq] at h1
  simp [zeroValue, typeInfo, hi, h1]

set_option maxRecDepth 200000 in
set_option maxHeartbeats 2000000 in
/-- Of a key that is none of them nothing is done. -/
theorem do_other {b a c N p : Nat} {t : List UInt8} (k cc : Int) (hf : Instr.findNow (.int .i64) (.int .i64 k) tbl.toList 0 = some none) (hk0 : (k == 0) = false) (w : World) (h : Buf w b a c N t p) :
    Calls Tryd.prog 34 #[.pointer (some ⟨b, 0, none⟩), .agg #[.int .i64 k, .int .i64 cc]] w fun e w' => e = .returned (.tuple #[.bool false, .int .i64 0]) ∧ Below w.heap.size w w' := by
  obtain ⟨o, ho⟩ : ∃ o : Obj, o = .cells #[.int .i64 k, .int .i64 cc] 52 := ⟨_, rfl⟩
  have hn : Blk (w.alloc o) w.heap.size #[.int .i64 k, .int .i64 cc] 52 := by rw [ho]; exact Blk.new _ _ _
  have hS : ∀ W, Below (w.alloc o).heap.size (w.alloc o) W → W.cell? ⟨w.heap.size, 0, none⟩ = some (.int .i64 k) ∧ W.cell? ⟨w.heap.size, 1, none⟩ = some (.int .i64 cc) := fun W hW => by
    have q : ∀ j v, (w.alloc o).cell? ⟨w.heap.size, j, none⟩ = some v → W.cell? ⟨w.heap.size, j, none⟩ = some v := fun j v h => by rw [hW.cell (p := ⟨w.heap.size, j, none⟩) hn.lt]; exact h
    exact ⟨q _ _ (hn.cell rfl), q _ _ (hn.cell rfl)⟩
  have HS := Lib.hid hS
  have H1 : Hid (∀ W, Below (w.alloc o).heap.size (w.alloc o) W → Calls Tryd.prog 67 #[] W fun e w' => ∃ m, e = .returned (.map (some m)) ∧ ((Instr.lookup 101 (.map (some m)) (.int .i64 k) true).run Tryd.prog w' = .ok (.tuple #[.nilFunc, .bool false]) w') ∧ Below (w.alloc o).heap.size (w.alloc o) w') := fun W hW => (kinds W).mono fun e w' ⟨he, hm, hb⟩ => ⟨_, he, run_look_none w' Tryd.underlying101 Tryd.underlying3 _ tbl 8 hm k .nilFunc zero_fn hf, hW.trans (hb.mono hW.size)⟩
  have hd0 : Below (w.alloc o).heap.size (w.alloc o) (w.alloc o).drew := (Below.refl _ _).drew
  have HO := Lib.hid ho
  clear hS hn ho h hf
  go_enter Tryd.func34, Tryd.ntmps34
  go_wp2
  rw [← HO.out]
  have d0 := (HS.out _ hd0).1
  have d1 := (HS.out _ hd0).2
  go_region_with (go_at_call 67; refine (H1.out _ hd0).mono ?_; rintro e w3 ⟨m, rfl, hlk, hb3⟩; have g0 := (HS.out _ hb3).1)
  all_goals
    have HW3 : Hid (Below w.heap.size w w3) := ((Below.refl _ _).alloc (Nat.le_refl _) o).trans (hb3.mono (by simp))
    clear hb3 hlk d0 d1 hd0
    go_wp2
    go_ret2
    exact ⟨rfl, HW3.out⟩

theorem do_nil (k : Value) (x y : Int) (hk : k = .agg #[.int .i64 x, .int .i64 y]) (w : World) : Calls Tryd.prog 34 #[.pointer none, k] w fun e w' => e = .returned (.tuple #[.bool false, .int .i64 1]) ∧ Below w.heap.size w w' := by
  subst hk
  go_enter Tryd.func34, Tryd.ntmps34
  go_wp2
  go_ret2
  exact ⟨rfl, (Below.refl _ _).alloc (Nat.le_refl _) _⟩

end Go.Proofs.YtbkpnffgihjikaaDoor.Edit

/- Texts joined: Kinds; Do; Keys1; Keys2; Del; Keys3; Keys4; DefB; PutB; EdC; EdD; EdE; EdA; EdL; Zero. -/
import Derived.Test.YtbkpnffgihjikaaDoorGE
import Derived.Deep.QuietTactic
import Derived.MapKept
import Derived.BigQuiet
import Derived.Deep.RegionHeldLaw
import Derived.Deep.RegionWith
import Derived.Test.YtbkpnffgihjikaaDoorGD
import Derived.LoopN
import Derived.StillTailTactics
import Derived.Defers
import Derived.WalkKit
import Derived.Test.YtbkpnffgihjikaaDoorGC
/- What keys do: the table of them. -/
set_option linter.unusedVariables false
namespace Go.Proofs.YtbkpnffgihjikaaDoor.Edit
open Go.RowKit Go.Lib Go.Shelf ChangeShapes Mem Utf

def fnV (f : Nat) : Value := .func (.func f) #[] #[]
def tbl : Array MapEntry := #[
  { key := .int .i64 2, val := fnV 76, born := 0 },
  { key := .int .i64 3, val := fnV 77, born := 1 },
  { key := .int .i64 4, val := fnV 78, born := 2 },
  { key := .int .i64 5, val := fnV 79, born := 3 },
  { key := .int .i64 6, val := fnV 80, born := 4 },
  { key := .int .i64 7, val := fnV 81, born := 5 },
  { key := .int .i64 8, val := fnV 82, born := 6 },
  { key := .int .i64 9, val := fnV 83, born := 7 }]

theorem push_put {α : Type} (h : Array α) (a b : α) : (h.push a).setIfInBounds h.size b = h.push b := by
  rcases h with ⟨l⟩
  simp

theorem run_put {T K E : TypeId} {P : Program} (w : World) (ht : P.underlying T = some (.map K E)) (hk : P.underlying K = some (.int .i64)) (es : Array MapEntry) (clock : Nat) (k : Int) (v : Value) (hf : Instr.findNow (.int .i64) (.int .i64 k) es.toList 0 = some none) :
    (Instr.mapUpdate T (.map (some w.heap.size)) (.int .i64 k) v).run P (w.alloc (.map es clock)) = .ok () (w.alloc (.map (es.push { key := .int .i64 k, val := v, born := clock }) (clock + 1))) := by
  have hb : (w.alloc (.map es clock)).heap[w.heap.size]? = some (.map es clock) := heap_alloc_new w _
  have hc : (Instr.checkKey false 10000 K (.int .i64 k)).run P (w.alloc (.map es clock)) = .ok () (w.alloc (.map es clock)) := MapKept.run_checkKey (k := .int .i64 k) hk (by simp [MapKept.IsKey]) false 9999
  simp [Instr.mapUpdate, run_underlying ht, MapKept.run_getObj_map hb, hc, MapKept.run_findKey hk hf, MapKept.run_setObj_map _ hb, Result.andThen]
  show ({ heap := (w.heap.push _).setIfInBounds w.heap.size _, tape := w.tape, drawn := w.drawn, os := w.os, output := w.output } : World) = { w with heap := w.heap.push _ }
  rw [push_put]

theorem run_look {T K E : TypeId} {P : Program} (w : World) (ht : P.underlying T = some (.map K E)) (hk : P.underlying K = some (.int .i64)) (b : Nat) (es : Array MapEntry) (clock : Nat) (hb : w.heap[b]? = some (.map es clock)) (k : Int) (i : Nat) (v : Value) (hf : Instr.findNow (.int .i64) (.int .i64 k) es.toList 0 = some (some (i, v))) :
    (Instr.lookup T (.map (some b)) (.int .i64 k) true).run P w = .ok (.tuple #[v, .bool true]) w := by
  have hc : (Instr.checkKey es.isEmpty 10000 K (.int .i64 k)).run P w = .ok () w := MapKept.run_checkKey (k := .int .i64 k) hk (by simp [MapKept.IsKey]) _ 9999
  simp [Instr.lookup, run_underlying ht, MapKept.run_getObj_map hb, hc, MapKept.run_findKey hk hf, Result.andThen]

theorem run_look_none {T K E : TypeId} {P : Program} (w : World) (ht : P.underlying T = some (.map K E)) (hk : P.underlying K = some (.int .i64)) (b : Nat) (es : Array MapEntry) (clock : Nat) (hb : w.heap[b]? = some (.map es clock)) (k : Int) (z : Value) (hz : ∀ w, (zeroValue E).run P w = .ok z w) (hf : Instr.findNow (.int .i64) (.int .i64 k) es.toList 0 = some none) :
    (Instr.lookup T (.map (some b)) (.int .i64 k) true).run P w = .ok (.tuple #[z, .bool false]) w := by
  have hc : (Instr.checkKey es.isEmpty 10000 K (.int .i64 k)).run P w = .ok () w := MapKept.run_checkKey (k := .int .i64 k) hk (by simp [MapKept.IsKey]) _ 9999
  simp [Instr.lookup, run_underlying ht, MapKept.run_getObj_map hb, hc, MapKept.run_findKey hk hf, hz, Result.andThen]

theorem put_tbl (w : World) (es : Array MapEntry) (clock : Nat) (k : Int) (v : Value) (hf : Instr.findNow (.int .i64) (.int .i64 k) es.toList 0 = some none) :
    (Instr.mapUpdate 101 (.map (some w.heap.size)) (.int .i64 k) v).run Tryd.prog (w.alloc (.map es clock)) = .ok () (w.alloc (.map (es.push { key := .int .i64 k, val := v, born := clock }) (clock + 1))) :=
  run_put w Tryd.underlying101 Tryd.underlying3 es clock k v hf

set_option maxRecDepth 100000 in
set_option maxHeartbeats 1000000 in
theorem kinds (w : World) : Calls Tryd.prog 67 #[] w fun e w' => e = .returned (.map (some w.heap.size)) ∧ w'.heap[w.heap.size]? = some (.map tbl 8) ∧ Below w.heap.size w w' := by
  have hmm := @run_makeMap Tryd.prog
  have p0 : (Instr.mapUpdate 101 (.map (some w.heap.size)) (.int .i64 2) (.func (.func 76) #[] #[])).run Tryd.prog (w.alloc (.map #[] 0)) = .ok () (w.alloc (.map #[{ key := .int .i64 2, val := .func (.func 76) #[] #[], born := 0 }] 1)) := put_tbl w _ _ _ _ rfl
  have p1 : (Instr.mapUpdate 101 (.map (some w.heap.size)) (.int .i64 3) (.func (.func 77) #[] #[])).run Tryd.prog (w.alloc (.map #[{ key := .int .i64 2, val := .func (.func 76) #[] #[], born := 0 }] 1)) = .ok () (w.alloc (.map #[{ key := .int .i64 2, val := .func (.func 76) #[] #[], born := 0 }, { key := .int .i64 3, val := .func (.func 77) #[] #[], born := 1 }] 2)) := put_tbl w _ _ _ _ rfl
  have p2 : (Instr.mapUpdate 101 (.map (some w.heap.size)) (.int .i64 4) (.func (.func 78) #[] #[])).run Tryd.prog (w.alloc (.map #[{ key := .int .i64 2, val := .func (.func 76) #[] #[], born := 0 }, { key := .int .i64 3, val := .func (.func 77) #[] #[], born := 1 }] 2)) = .ok () (w.alloc (.map #[{ key := .int .i64 2, val := .func (.func 76) #[] #[], born := 0 }, { key := .int .i64 3, val := .func (.func 77) #[] #[], born := 1 }, { key := .int .i64 4, val := .func (.func 78) #[] #[], born := 2 }] 3)) := put_tbl w _ _ _ _ rfl
  have p3 : (Instr.mapUpdate 101 (.map (some w.heap.size)) (.int .i64 5) (.func (.func 79) #[] #[])).run Tryd.prog (w.alloc (.map #[{ key := .int .i64 2, val := .func (.func 76) #[] #[], born := 0 }, { key := .int .i64 3, val := .func (.func 77) #[] #[], born := 1 }, { key := .int .i64 4, val := .func (.func 78) #[] #[], born := 2 }] 3)) = .ok () (w.alloc (.map #[{ key := .int .i64 2, val := .func (.func 76) #[] #[], born := 0 }, { key := .int .i64 3, val := .func (.func 77) #[] #[], born := 1 }, { key := .int .i64 4, val := .func (.func 78) #[] #[], born := 2 }, { key := .int .i64 5, val := .func (.func 79) #[] #[], born := 3 }] 4)) := put_tbl w _ _ _ _ rfl
  have p4 : (Instr.mapUpdate 101 (.map (some w.heap.size)) (.int .i64 6) (.func (.func 80) #[] #[])).run Tryd.prog (w.alloc (.map #[{ key := .int .i64 2, val := .func (.func 76) #[] #[], born := 0 }, { key := .int .i64 3, val := .func (.func 77) #[] #[], born := 1 }, { key := .int .i64 4, val := .func (.func 78) #[] #[], born := 2 }, { key := .int .i64 5, val := .func (.func 79) #[] #[], born := 3 }] 4)) = .ok () (w.alloc (.map #[{ key := .int .i64 2, val := .func (.func 76) #[] #[], born := 0 }, { key := .int .i64 3, val := .func (.func 77) #[] #[], born := 1 }, { key := .int .i64 4, val := .func (.func 78) #[] #[], born := 2 }, { key := .int .i64 5, val := .func (.func 79) #[] #[], born := 3 }, { key := .int .i64 6, val := .func (.func 80) #[] #[], born := 4 }] 5)) := put_tbl w _ _ _ _ rfl
  have p5 : (Instr.mapUpdate 101 (.map (some w.heap.size)) (.int .i64 7) (.func (.func 81) #[] #[])).run Tryd.prog (w.alloc (.map #[{ key := .int .i64 2, val := .func (.func 76) #[] #[], born := 0 }, { key := .int .i64 3, val := .func (.func 77) #[] #[], born := 1 }, { key := .int .i64 4, val := .func (.func 78) #[] #[], born := 2 }, { key := .int .i64 5, val := .func (.func 79) #[] #[], born := 3 }, { key := .int .i64 6, val := .func (.func 80) #[] #[], born := 4 }] 5)) = .ok () (w.alloc (.map #[{ key := .int .i64 2, val := .func (.func 76) #[] #[], born := 0 }, { key := .int .i64 3, val := .func (.func 77) #[] #[], born := 1 }, { key := .int .i64 4, val := .func (.func 78) #[] #[], born := 2 }, { key := .int .i64 5, val := .func (.func 79) #[] #[], born := 3 }, { key := .int .i64 6, val := .func (.func 80) #[] #[], born := 4 }, { key := .int .i64 7, val := .func (.func 81) #[] #[], born := 5 }] 6)) := put_tbl w _ _ _ _ rfl
  have p6 : (Instr.mapUpdate 101 (.map (some w.heap.size)) (.int .i64 8) (.func (.func 82) #[] #[])).run Tryd.prog (w.alloc (.map #[{ key := .int .i64 2, val := .func (.func 76) #[] #[], born := 0 }, { key := .int .i64 3, val := .func (.func 77) #[] #[], born := 1 }, { key := .int .i64 4, val := .func (.func 78) #[] #[], born := 2 }, { key := .int .i64 5, val := .func (.func 79) #[] #[], born := 3 }, { key := .int .i64 6, val := .func (.func 80) #[] #[], born := 4 }, { key := .int .i64 7, val := .func (.func 81) #[] #[], born := 5 }] 6)) = .ok () (w.alloc (.map #[{ key := .int .i64 2, val := .func (.func 76) #[] #[], born := 0 }, { key := .int .i64 3, val := .func (.func 77) #[] #[], born := 1 }, { key := .int .i64 4, val := .func (.func 78) #[] #[], born := 2 }, { key := .int .i64 5, val := .func (.func 79) #[] #[], born := 3 }, { key := .int .i64 6, val := .func (.func 80) #[] #[], born := 4 }, { key := .int .i64 7, val := .func (.func 81) #[] #[], born := 5 }, { key := .int .i64 8, val := .func (.func 82) #[] #[], born := 6 }] 7)) := put_tbl w _ _ _ _ rfl
  have p7 : (Instr.mapUpdate 101 (.map (some w.heap.size)) (.int .i64 9) (.func (.func 83) #[] #[])).run Tryd.prog (w.alloc (.map #[{ key := .int .i64 2, val := .func (.func 76) #[] #[], born := 0 }, { key := .int .i64 3, val := .func (.func 77) #[] #[], born := 1 }, { key := .int .i64 4, val := .func (.func 78) #[] #[], born := 2 }, { key := .int .i64 5, val := .func (.func 79) #[] #[], born := 3 }, { key := .int .i64 6, val := .func (.func 80) #[] #[], born := 4 }, { key := .int .i64 7, val := .func (.func 81) #[] #[], born := 5 }, { key := .int .i64 8, val := .func (.func 82) #[] #[], born := 6 }] 7)) = .ok () (w.alloc (.map #[{ key := .int .i64 2, val := .func (.func 76) #[] #[], born := 0 }, { key := .int .i64 3, val := .func (.func 77) #[] #[], born := 1 }, { key := .int .i64 4, val := .func (.func 78) #[] #[], born := 2 }, { key := .int .i64 5, val := .func (.func 79) #[] #[], born := 3 }, { key := .int .i64 6, val := .func (.func 80) #[] #[], born := 4 }, { key := .int .i64 7, val := .func (.func 81) #[] #[], born := 5 }, { key := .int .i64 8, val := .func (.func 82) #[] #[], born := 6 }, { key := .int .i64 9, val := .func (.func 83) #[] #[], born := 7 }] 8)) := put_tbl w _ _ _ _ rfl
  go_enter Tryd.func67, Tryd.ntmps67
  go_wp2
  go_ret
  exact ⟨rfl, heap_alloc_new w _, (Below.refl _ _).alloc (Nat.le_refl _) _⟩

end Go.Proofs.YtbkpnffgihjikaaDoor.Edit

/- Do, walked over what a key's function does. -/
set_option linter.unusedVariables false
namespace Go.Proofs.YtbkpnffgihjikaaDoor.Edit
open Go.RowKit Go.Lib Go.Shelf ChangeShapes Mem Utf

theorem Buf.drewN {w : World} {b a c N : Nat} {t : List UInt8} {p : Nat} (h : Buf w b a c N t p) (n : Nat) : Buf (w.drewN n) b a c N t p := ⟨h.head, ⟨h.ar.head, h.ar.body, h.ar.ne, h.ar.fit, h.ar.pos, h.ar.max⟩, h.ba, h.bc, h.le⟩
theorem But.drewN {S : List Nat} (w : World) (n : Nat) : But S w (w.drewN n) := ⟨rfl, rfl, rfl, Nat.le_refl _, fun _ _ _ => rfl⟩

set_option maxRecDepth 200000 in
set_option maxHeartbeats 2000000 in
theorem do_key {b a c N p : Nat} {t : List UInt8} (k cc : Int) (i F : Nat) (hf : Instr.findNow (.int .i64) (.int .i64 k) tbl.toList 0 = some (some (i, fnV F))) (hk0 : (k == 0) = false)
    (hcf : ∀ args W, (callFunc F args).run Tryd.prog W = .ok (.enter F args) W) (t' : List UInt8) (p' : Nat)
    (HF : ∀ W, Buf W b a c N t p → Calls Tryd.prog F #[.pointer (some ⟨b, 0, none⟩)] W fun e w' => e = .returned (.tuple #[]) ∧ Buf w' b a c N t' p' ∧ But [b, a, c] W w') (w : World) (h : Buf w b a c N t p) :
    Calls Tryd.prog 34 #[.pointer (some ⟨b, 0, none⟩), .agg #[.int .i64 k, .int .i64 cc]] w fun e w' => e = .returned (.tuple #[.bool (decide (p' ≠ p) || decide (t'.length ≠ t.length)), .int .i64 0]) ∧ Buf w' b a c N t' p' ∧ But [b, a, c] w w' := by
  obtain ⟨o, ho⟩ : ∃ o : Obj, o = .cells #[.int .i64 k, .int .i64 cc] 52 := ⟨_, rfl⟩
  have hn : Blk (w.alloc o) w.heap.size #[.int .i64 k, .int .i64 cc] 52 := by rw [ho]; exact Blk.new _ _ _
  have hS : ∀ W, Below (w.alloc o).heap.size (w.alloc o) W → Below (w.alloc o).heap.size (w.alloc o) W ∧ W.cell? ⟨w.heap.size, 0, none⟩ = some (.int .i64 k) ∧ W.cell? ⟨w.heap.size, 1, none⟩ = some (.int .i64 cc) := fun W hW => by
    have q : ∀ j v, (w.alloc o).cell? ⟨w.heap.size, j, none⟩ = some v → W.cell? ⟨w.heap.size, j, none⟩ = some v := fun j v h => by rw [hW.cell (p := ⟨w.heap.size, j, none⟩) hn.lt]; exact h
    exact ⟨hW, q _ _ (hn.cell rfl), q _ _ (hn.cell rfl)⟩
  have HS := Lib.hid hS
  have H1 : Hid (∀ W, Below (w.alloc o).heap.size (w.alloc o) W → Calls Tryd.prog 67 #[] W fun e w' => ∃ m, e = .returned (.map (some m)) ∧ ((Instr.lookup 101 (.map (some m)) (.int .i64 k) true).run Tryd.prog w' = .ok (.tuple #[.func (.func F) #[] #[], .bool true]) w') ∧ Below (w.alloc o).heap.size (w.alloc o) w') := fun W hW => (kinds W).mono fun e w' ⟨he, hm, hb⟩ => ⟨_, he, run_look w' Tryd.underlying101 Tryd.underlying3 _ tbl 8 hm k i _ hf, hW.trans (hb.mono hW.size)⟩
  have hd0 : Below (w.alloc o).heap.size (w.alloc o) (w.alloc o).drew := (Below.refl _ _).drew
  have HO := Lib.hid ho
  have HB := Lib.hid h
  have HCF := Lib.hid hcf
  have HHF := Lib.hid HF
  clear hS hn ho h hf hcf HF
  go_enter Tryd.func34, Tryd.ntmps34
  go_wp2
  rw [← HO.out]
  have d0 := (HS.out _ hd0).2.1
  have d1 := (HS.out _ hd0).2.2
  go_region_with (go_at_call 67; refine (H1.out _ hd0).mono ?_; rintro e w3 ⟨m, rfl, hlk, hb3⟩; have g0 := (HS.out _ hb3).2.1)
  all_goals
    have hw3 : Below w.heap.size w w3 := ((Below.refl _ _).alloc (Nat.le_refl _) o).trans (hb3.mono (by simp))
    have hbuf3 : Buf w3 b a c N t p := HB.out.but (But.of_below (S := []) hw3) (by simp) (by simp) (by simp)
    have HW3 := Lib.hid hw3
    have HB3 := Lib.hid hbuf3
    have HL : Hid (∀ n, Calls Tryd.prog 45 #[.pointer (some ⟨a, 0, none⟩)] (w3.drewN n) fun e w' => e = .returned (.int .i64 (t.length : Int)) ∧ w' = w3.drewN n) := fun n => len (w3.drewN n) (Buf.drewN HB3.out n).ar
    have c0 := hbuf3.head.cell (j := 0) (v := .pointer (some ⟨a, 0, none⟩)) rfl
    have c1 := hbuf3.head.cell (j := 1) (v := .int .i64 (p : Int)) rfl
    clear hb3 hw3 hbuf3 hlk d0 d1 hd0
    go_wp2
    go_quiet ((go_at_call 45; exact Calls.quiet_of_same (HL.out _)))
    clear c0 c1 g0
    have hcf := HCF.out
    go_wp2_with fail
    refine (HHF.out _ (Buf.drewN HB3.out _)).mono ?_
    rintro e w4 ⟨rfl, hbuf4, hb4⟩
    have HL4 := Lib.hid (len w4 hbuf4.ar)
    have e0 := hbuf4.head.cell (j := 0) (v := .pointer (some ⟨a, 0, none⟩)) rfl
    have e1 := hbuf4.head.cell (j := 1) (v := .int .i64 (p' : Int)) rfl
    have HB4 := Lib.hid hbuf4
    have HW4 : Hid (But [b, a, c] w w4) := (But.of_below HW3.out).trans ((But.drewN _ _).trans hb4)
    clear hbuf4 hb4 hcf
    by_cases hp : p' = p
    · have q1 : ((p' : Int) != (p : Int)) = false := by simp [hp]
      by_cases hl : t'.length = t.length
      · have q2 : ((t'.length : Int) != (t.length : Int)) = false := by simp [hl]
        have Q : Hid ((decide (p' ≠ p) || decide (t'.length ≠ t.length)) = false) := by unfold Hid; simp [hp, hl]
        clear hp hl
        go_wp2_with (go_at_call 45; refine (HL4.out).mono ?_; rintro e w5 ⟨rfl, hq⟩; obtain rfl := hq.symm)
        go_ret2
        exact ⟨by rw [Q.out]; rfl, HB4.out, HW4.out⟩
      · have q2 : ((t'.length : Int) != (t.length : Int)) = true := by rw [bne_iff_ne]; omega
        have Q : Hid ((decide (p' ≠ p) || decide (t'.length ≠ t.length)) = true) := by unfold Hid; simp [hl]
        clear hp hl
        go_wp2_with (go_at_call 45; refine (HL4.out).mono ?_; rintro e w5 ⟨rfl, hq⟩; obtain rfl := hq.symm)
        go_ret2
        exact ⟨by rw [Q.out]; rfl, HB4.out, HW4.out⟩
    · have q1 : ((p' : Int) != (p : Int)) = true := by rw [bne_iff_ne]; omega
      have Q : Hid ((decide (p' ≠ p) || decide (t'.length ≠ t.length)) = true) := by unfold Hid; simp [hp]
      clear hp
      go_wp2_with (go_at_call 45; refine (HL4.out).mono ?_; rintro e w5 ⟨rfl, hq⟩; obtain rfl := hq.symm)
      go_ret2
      exact ⟨by rw [Q.out]; rfl, HB4.out, HW4.out⟩

theorem zero_fn (w : World) : (zeroValue 99).run Tryd.prog w = .ok .nilFunc w := by
  obtain ⟨i, hi⟩ := Option.isSome_iff_exists.1 (show (Tryd.prog.info? 99).isSome = true by kernel_rfl)
  have h1 : (Tryd.prog.info? 99).map (fun i => i.zero) = some (some .nilFunc) := by kernel_rfl
  rw [hi] at h1
  simp only [Option.map_some, Option.some.injEq] at h1
  simp [zeroValue, typeInfo, hi, h1]

set_option maxRecDepth 200000 in
set_option maxHeartbeats 2000000 in
/-- Of a key that is none of them nothing is done. -/
theorem do_other {b a c N p : Nat} {t : List UInt8} (k cc : Int) (hf : Instr.findNow (.int .i64) (.int .i64 k) tbl.toList 0 = some none) (hk0 : (k == 0) = false) (w : World) (h : Buf w b a c N t p) :
    Calls Tryd.prog 34 #[.pointer (some ⟨b, 0, none⟩), .agg #[.int .i64 k, .int .i64 cc]] w fun e w' => e = .returned (.tuple #[.bool false, .int .i64 0]) ∧ Below w.heap.size w w' := by
  obtain ⟨o, ho⟩ : ∃ o : Obj, o = .cells #[.int .i64 k, .int .i64 cc] 52 := ⟨_, rfl⟩
  have hn : Blk (w.alloc o) w.heap.size #[.int .i64 k, .int .i64 cc] 52 := by rw [ho]; exact Blk.new _ _ _
  have hS : ∀ W, Below (w.alloc o).heap.size (w.alloc o) W → W.cell? ⟨w.heap.size, 0, none⟩ = some (.int .i64 k) ∧ W.cell? ⟨w.heap.size, 1, none⟩ = some (.int .i64 cc) := fun W hW => by
    have q : ∀ j v, (w.alloc o).cell? ⟨w.heap.size, j, none⟩ = some v → W.cell? ⟨w.heap.size, j, none⟩ = some v := fun j v h => by rw [hW.cell (p := ⟨w.heap.size, j, none⟩) hn.lt]; exact h
    exact ⟨q _ _ (hn.cell rfl), q _ _ (hn.cell rfl)⟩
  have HS := Lib.hid hS
  have H1 : Hid (∀ W, Below (w.alloc o).heap.size (w.alloc o) W → Calls Tryd.prog 67 #[] W fun e w' => ∃ m, e = .returned (.map (some m)) ∧ ((Instr.lookup 101 (.map (some m)) (.int .i64 k) true).run Tryd.prog w' = .ok (.tuple #[.nilFunc, .bool false]) w') ∧ Below (w.alloc o).heap.size (w.alloc o) w') := fun W hW => (kinds W).mono fun e w' ⟨he, hm, hb⟩ => ⟨_, he, run_look_none w' Tryd.underlying101 Tryd.underlying3 _ tbl 8 hm k .nilFunc zero_fn hf, hW.trans (hb.mono hW.size)⟩
  have hd0 : Below (w.alloc o).heap.size (w.alloc o) (w.alloc o).drew := (Below.refl _ _).drew
  have HO := Lib.hid ho
  clear hS hn ho h hf
  go_enter Tryd.func34, Tryd.ntmps34
  go_wp2
  rw [← HO.out]
  have d0 := (HS.out _ hd0).1
  have d1 := (HS.out _ hd0).2
  go_region_with (go_at_call 67; refine (H1.out _ hd0).mono ?_; rintro e w3 ⟨m, rfl, hlk, hb3⟩; have g0 := (HS.out _ hb3).1)
  all_goals
    have HW3 : Hid (Below w.heap.size w w3) := ((Below.refl _ _).alloc (Nat.le_refl _) o).trans (hb3.mono (by simp))
    clear hb3 hlk d0 d1 hd0
    go_wp2
    go_ret2
    exact ⟨rfl, HW3.out⟩

theorem do_nil (k : Value) (x y : Int) (hk : k = .agg #[.int .i64 x, .int .i64 y]) (w : World) : Calls Tryd.prog 34 #[.pointer none, k] w fun e w' => e = .returned (.tuple #[.bool false, .int .i64 1]) ∧ Below w.heap.size w w' := by
  subst hk
  go_enter Tryd.func34, Tryd.ntmps34
  go_wp2
  go_ret2
  exact ⟨rfl, (Below.refl _ _).alloc (Nat.le_refl _) _⟩

end Go.Proofs.YtbkpnffgihjikaaDoor.Edit

/- A buffer: which characters begin where; how many there are. -/
set_option linter.unusedVariables false
namespace Go.Proofs.YtbkpnffgihjikaaDoor.Edit
open Go.RowKit Go.Lib Go.Shelf ChangeShapes Mem Utf UtfP

theorem body_cell {w : World} {a c N : Nat} {t : List UInt8} (h : Ar w a c N t) (i : Nat) (hi : i < t.length) : w.cell? ⟨c, i, none⟩ = some (.int .u8 (bt t i : Int)) := by
  have hl : i < (t ++ List.replicate (N - t.length) (0 : UInt8)).length := by rw [List.length_append]; omega
  have := h.body.cell (j := i) (v := .int .u8 (((t ++ List.replicate (N - t.length) (0 : UInt8)).getD i 0).toNat : Int)) (by simpa using cellsB_get _ i hl)
  rw [this]
  congr 2
  unfold bt
  rw [List.getD_eq_getElem?_getD, List.getD_eq_getElem?_getD, List.getElem?_append_left hi]

theorem cell_in {a c N : Nat} {t : List UInt8} (i : Nat) (w : World) (h : Ar w a c N t) (hi : i < t.length) :
    Calls Tryd.prog 51 #[.pointer (some ⟨a, 0, none⟩), .int .i64 (i : Int)] w fun e w' => e = .returned (.tuple #[.int .u8 (bt t i : Int), .int .i64 0]) ∧ w' = w := by
  have c0 := h.head.cell (j := 0) (v := .slice (some ⟨c, 0, none⟩) N N) rfl
  have cv := body_cell h i hi
  have k0 : (i : Int) < (N : Int) := by have := h.fit; omega
  have k1 : decide ((N : Int) ≤ (i : Int)) = false := by simp; omega
  clear h hi
  go_enter Tryd.func51, Tryd.ntmps51
  go_wp2
  go_ret2
  exact ⟨rfl, rfl⟩

theorem at_in {a c N : Nat} {t : List UInt8} (i : Nat) (w : World) (h : Ar w a c N t) (hi : i < t.length) :
    Calls Tryd.prog 90 #[.pointer (some ⟨a, 0, none⟩), .int .i64 (i : Int)] w fun e w' => e = .returned (.tuple #[.int .u8 (bt t i : Int), .int .i64 0]) ∧ w' = w := by
  have H1 := Lib.hid (len w h)
  have H2 := Lib.hid (cell_in i w h hi)
  have k1 : decide ((t.length : Int) ≤ (i : Int)) = false := by simp; omega
  have k2 : decide (t.length ≤ i) = false := by simp; omega
  clear h hi
  go_enter Tryd.func90, Tryd.ntmps90
  go_wp2_with (first
    | (go_at_call 45; refine (H1.out).mono ?_; rintro e w1 ⟨rfl, hq⟩; obtain rfl := hq.symm)
    | (go_at_call 51; refine (H2.out).mono ?_; rintro e w1 ⟨rfl, hq⟩; obtain rfl := hq.symm))
  go_ret2
  exact ⟨rfl, rfl⟩

theorem at_out {a c N : Nat} {t : List UInt8} (i : Nat) (w : World) (h : Ar w a c N t) (hi : t.length ≤ i) :
    Calls Tryd.prog 90 #[.pointer (some ⟨a, 0, none⟩), .int .i64 (i : Int)] w fun e w' => e = .returned (.tuple #[.int .u8 0, .int .i64 3]) ∧ w' = w := by
  have H1 := Lib.hid (len w h)
  have k1 : decide ((t.length : Int) ≤ (i : Int)) = true := by simp; omega
  have k2 : decide (t.length ≤ i) = true := by simp; omega
  clear h hi
  go_enter Tryd.func90, Tryd.ntmps90
  go_wp2_with (go_at_call 45; refine (H1.out).mono ?_; rintro e w1 ⟨rfl, hq⟩; obtain rfl := hq.symm)
  go_ret2
  exact ⟨rfl, rfl⟩

theorem and192 (x : Nat) (h : x < 256) : bits .and .u8 (x : Int) 192 = ((x / 64 * 64 : Nat) : Int) := by
  have := u8_and_nat x 192 h (by decide)
  rw [show ((192 : Nat) : Int) = 192 from rfl] at this
  rw [this, nat_hi8_6, Nat.mod_eq_of_lt h]

theorem first_c {b a c N p : Nat} {t : List UInt8} (i : Nat) (w : World) (h : Buf w b a c N t p) :
    Calls Tryd.prog 75 #[.pointer (some ⟨b, 0, none⟩), .int .i64 (i : Int)] w fun e w' => e = .returned (.bool (firstB t i)) ∧ w' = w := by
  have c0 := h.head.cell (j := 0) (v := .pointer (some ⟨a, 0, none⟩)) rfl
  by_cases hi : i < t.length
  · have H1 := Lib.hid (at_in i w h.ar hi)
    have hx := bt_lt t i
    have hb := and192 (bt t i) hx
    have hv : firstB t i = (((bt t i / 64 * 64 : Nat) : Int) != 128) := by
      unfold firstB cont
      rw [if_pos hi, Bool.eq_iff_iff]
      simp only [Bool.not_eq_true', decide_eq_false_iff_not, bne_iff_ne, ne_eq]
      omega
    rw [hv]
    generalize bt t i = x at *
    clear h hi hv
    go_enter Tryd.func75, Tryd.ntmps75
    go_wp2_with (go_at_call 90; refine (H1.out).mono ?_; rintro e w1 ⟨rfl, hq⟩; obtain rfl := hq.symm)
    go_ret
    exact ⟨rfl, rfl⟩
  · have H1 := Lib.hid (at_out i w h.ar (by omega))
    rw [show firstB t i = true by unfold firstB; rw [if_neg hi]]
    clear h hi
    go_enter Tryd.func75, Tryd.ntmps75
    go_wp2_with (go_at_call 90; refine (H1.out).mono ?_; rintro e w1 ⟨rfl, hq⟩; obtain rfl := hq.symm)
    go_ret
    exact ⟨rfl, rfl⟩

end Go.Proofs.YtbkpnffgihjikaaDoor.Edit

/- A buffer: how many characters there are, where the one ahead of the place begins, and the one behind it ends. -/
set_option linter.unusedVariables false
namespace Go.Proofs.YtbkpnffgihjikaaDoor.Edit
open Go.RowKit Go.Lib Go.Shelf ChangeShapes Mem Utf UtfP

theorem countB_le (t : List UInt8) : ∀ n, countB t n ≤ n
  | 0 => Nat.le_refl _
  | n + 1 => by
    show countB t n + _ ≤ n + 1
    have := countB_le t n
    split <;> omega

set_option maxHeartbeats 1000000 in
theorem chars_c {b a c N p : Nat} {t : List UInt8} (to : Nat) (hto : to ≤ 1099511627776) (w : World) (h : Buf w b a c N t p) :
    Calls Tryd.prog 66 #[.pointer (some ⟨b, 0, none⟩), .int .i64 (to : Int)] w fun e w' => e = .returned (.int .i64 (countB t to : Int)) ∧ w' = w := by
  have H1 := Lib.hid (fun i => first_c i w h)
  clear h
  obtain ⟨R, hR⟩ : ∃ R, countB t to = R := ⟨_, rfl⟩
  rw [hR]
  have HR := Lib.hid hR
  clear hR
  go_enter Tryd.func66, Tryd.ntmps66
  go_wp2
  go_loopw [5, 8] (fun n i wr => ∃ j : Nat, i = .int .i64 (j : Int) ∧ n = .int .i64 (countB t j : Int) ∧ j ≤ to ∧ wr = w) (fun _ i _ => to - (RowKit.intOf i).toNat)
  case atStart => exact ⟨0, rfl, rfl, by omega, rfl⟩
  case round =>
    obtain ⟨j, rfl, rfl, hj, hq⟩ := hrel
    obtain rfl := hq.symm
    have hcl := countB_le t j
    by_cases hlt : j < to
    · have k0 : (j : Int) < (to : Int) := by omega
      have H2 := Lib.hid (H1.out j)
      have hstep : countB t (j + 1) = countB t j + (if firstB t j then 1 else 0) := rfl
      generalize countB t j = n at *
      cases hf : firstB t j
      · rw [hf] at H2 hstep
        have HS := Lib.hid hstep
        clear hf hstep
        go_wp2_with (go_at_call 75; refine (H2.out).mono ?_; rintro e w1 ⟨rfl, hq⟩; obtain rfl := hq.symm)
        go_roundw
        case rel => exact ⟨j + 1, by go_num, by rw [HS.out]; rfl, by omega, by first | rfl | trivial⟩
        case measure => simp [RowKit.intOf]; omega
      · rw [hf] at H2 hstep
        have HS := Lib.hid hstep
        clear hf hstep
        go_wp2_with (go_at_call 75; refine (H2.out).mono ?_; rintro e w1 ⟨rfl, hq⟩; obtain rfl := hq.symm)
        go_roundw
        case rel => exact ⟨j + 1, by go_num, by rw [HS.out]; go_num, by omega, by first | rfl | trivial⟩
        case measure => simp [RowKit.intOf]; omega
    · have hge : decide ((j : Int) < (to : Int)) = false := by simp; omega
      have hge' : decide (j < to) = false := by simp; omega
      have HJ : Hid (countB t j = R) := by rw [← HR.out, show j = to by omega]; rfl
      clear hlt
      go_wp2
      go_ret
      exact ⟨by rw [HJ.out]; rfl, rfl⟩

theorem countB_none (w : World) : Calls Tryd.prog 33 #[.pointer none] w fun e w' => e = .returned (.int .i64 0) ∧ w' = w := by
  go_enter Tryd.func33, Tryd.ntmps33
  go_wp2
  go_ret
  exact ⟨rfl, rfl⟩
theorem atB_none (w : World) : Calls Tryd.prog 36 #[.pointer none] w fun e w' => e = .returned (.int .i64 0) ∧ w' = w := by
  go_enter Tryd.func36, Tryd.ntmps36
  go_wp2
  go_ret
  exact ⟨rfl, rfl⟩

theorem count_c {b a c N p : Nat} {t : List UInt8} (w : World) (h : Buf w b a c N t p) :
    Calls Tryd.prog 33 #[.pointer (some ⟨b, 0, none⟩)] w fun e w' => e = .returned (.int .i64 (countB t t.length : Int)) ∧ w' = w := by
  have c0 := h.head.cell (j := 0) (v := .pointer (some ⟨a, 0, none⟩)) rfl
  have H1 := Lib.hid (len w h.ar)
  have H2 := Lib.hid (chars_c t.length (by have := h.ar.fit; have := h.ar.max; omega) w h)
  clear h
  go_enter Tryd.func33, Tryd.ntmps33
  go_wp2_with (first
    | (go_at_call 45; refine (H1.out).mono ?_; rintro e w1 ⟨rfl, hq⟩; obtain rfl := hq.symm)
    | (go_at_call 66; refine (H2.out).mono ?_; rintro e w1 ⟨rfl, hq⟩; obtain rfl := hq.symm))
  go_ret
  exact ⟨rfl, rfl⟩

theorem atB {b a c N p : Nat} {t : List UInt8} (w : World) (h : Buf w b a c N t p) :
    Calls Tryd.prog 36 #[.pointer (some ⟨b, 0, none⟩)] w fun e w' => e = .returned (.int .i64 (countB t p : Int)) ∧ w' = w := by
  have c1 := h.head.cell (j := 1) (v := .int .i64 (p : Int)) rfl
  have H2 := Lib.hid (chars_c p (by have := h.ar.fit; have := h.ar.max; have := h.le; omega) w h)
  clear h
  go_enter Tryd.func36, Tryd.ntmps36
  go_wp2_with (go_at_call 66; refine (H2.out).mono ?_; rintro e w1 ⟨rfl, hq⟩; obtain rfl := hq.symm)
  go_ret
  exact ⟨rfl, rfl⟩

def aheadV (t : List UInt8) : Nat → Nat
  | 0 => 0
  | i + 1 => if firstB t (i + 1) then i + 1 else aheadV t i

set_option maxHeartbeats 1000000 in
theorem ahead_c {b a c N p : Nat} {t : List UInt8} (w : World) (h : Buf w b a c N t p) (h0 : firstB t 0 = true) :
    Calls Tryd.prog 92 #[.pointer (some ⟨b, 0, none⟩)] w fun e w' => e = .returned (.int .i64 (aheadV t (p - 1) : Int)) ∧ w' = w := by
  have c1 := h.head.cell (j := 1) (v := .int .i64 (p : Int)) rfl
  have hpm : p ≤ 4096 := by have := h.ar.fit; have := h.ar.max; have := h.le; omega
  have H1 := Lib.hid (fun i => first_c i w h)
  have H0 := Lib.hid h0
  clear h h0
  obtain ⟨R, hR⟩ : ∃ R, aheadV t (p - 1) = R := ⟨_, rfl⟩
  rw [hR]
  have HR := Lib.hid hR
  clear hR
  have C0 := Lib.hid c1
  clear c1
  have main : ∀ q : Nat, q = p - 1 → ((p = 0 ∧ q = 0) ∨ (p = q + 1)) → Calls Tryd.prog 92 #[.pointer (some ⟨b, 0, none⟩)] w fun e w' => e = .returned (.int .i64 (R : Int)) ∧ w' = w := by
    intro q hq hp
    have HQ : Hid (aheadV t q = R) := by rw [hq]; exact HR.out
    have c1 := C0.out
    have hqm : q ≤ 4096 := by omega
    clear hq
    go_enter Tryd.func92, Tryd.ntmps92
    rcases hp with ⟨rfl, rfl⟩ | rfl
    all_goals
      go_wp2
      go_loopw [3] (fun i wr => ∃ j : Nat, i = .int .i64 (j : Int) ∧ Hid (aheadV t j = R) ∧ j ≤ 4096 ∧ wr = w) (fun i _ => (RowKit.intOf i).toNat)
      case atStart => first | exact ⟨0, rfl, HQ, by omega, rfl⟩ | exact ⟨q, by go_num, HQ, hqm, rfl⟩
      case round =>
        obtain ⟨j, rfl, HJ, hj, hw⟩ := hrel
        obtain rfl := hw.symm
        clear c1
        have H2 := Lib.hid (H1.out j)
        cases hf : firstB t j
        · have hj0 : j ≠ 0 := by
            intro e
            rw [e, H0.out] at hf
            cases hf
          obtain ⟨d, rfl⟩ : ∃ d, j = d + 1 := ⟨j - 1, by omega⟩
          clear hj0
          have HD : Hid (aheadV t d = R) := by
            have := HJ.out
            unfold aheadV at this
            rw [hf] at this
            exact this
          rw [hf] at H2
          clear hf
          go_wp2_with (go_at_call 75; refine (H2.out).mono ?_; rintro e w1 ⟨rfl, hq⟩; obtain rfl := hq.symm)
          go_roundw
          case rel => exact ⟨d, by go_num, HD, by omega, by first | rfl | trivial⟩
          case measure => simp [RowKit.intOf]
        · have HD : Hid (j = R) := by
            have := HJ.out
            cases j with
            | zero => exact this
            | succ d => unfold aheadV at this; rw [hf] at this; exact this
          rw [hf] at H2
          clear hf
          go_wp2_with (go_at_call 75; refine (H2.out).mono ?_; rintro e w1 ⟨rfl, hq⟩; obtain rfl := hq.symm)
          go_ret
          exact ⟨by rw [HD.out]; rfl, rfl⟩
  rcases Nat.eq_zero_or_pos p with h0 | h0
  · exact main 0 (by omega) (Or.inl ⟨h0, rfl⟩)
  · exact main (p - 1) rfl (Or.inr (by omega))

end Go.Proofs.YtbkpnffgihjikaaDoor.Edit

/- An arena: Delete, walked. -/
set_option linter.unusedVariables false
namespace Go.Proofs.YtbkpnffgihjikaaDoor.Mem
open Go.RowKit Go.Lib ChangeShapes

theorem part_ok {a c N : Nat} {t : List UInt8} (f to : Nat) (w : World) (h : Ar w a c N t) (h1 : f ≤ to) (h2 : to ≤ t.length) :
    Calls Tryd.prog 97 #[.pointer (some ⟨a, 0, none⟩), .int .i64 (f : Int), .int .i64 (to : Int)] w fun e w' => e = .returned (.bool true) ∧ w' = w := by
  have c1 := h.head.cell (j := 1) (v := .int .i64 (t.length : Int)) rfl
  have k1 : decide ((f : Int) ≤ (to : Int)) = true := by simp; omega
  have k2 : decide ((to : Int) ≤ (t.length : Int)) = true := by simp; omega
  have k1' : decide (f ≤ to) = true := by simp; omega
  have k2' : decide (to ≤ t.length) = true := by simp; omega
  clear h h1 h2
  go_enter Tryd.func97, Tryd.ntmps97
  go_wp2
  go_ret
  exact ⟨rfl, rfl⟩

set_option maxRecDepth 100000 in
set_option maxHeartbeats 2000000 in
theorem delete_ok {a c N : Nat} {t : List UInt8} (f to : Nat) (w : World) (h : Ar w a c N t) (h1 : f ≤ to) (h2 : to ≤ t.length) :
    Calls Tryd.prog 96 #[.pointer (some ⟨a, 0, none⟩), .int .i64 (f : Int), .int .i64 (to : Int)] w fun e w' => e = .returned (.int .i64 0) ∧ Ar w' a c N (t.take f ++ t.drop to) ∧ But [a, c] w w' := by
  have H := Lib.hid h
  have HP := Lib.hid (part_ok f to w h h1 h2)
  have hfit := h.fit
  have hmax := h.max
  obtain ⟨k, hk⟩ : ∃ k, k = to - f := ⟨_, rfl⟩
  obtain ⟨m, hm⟩ : ∃ m, m = t.length - k := ⟨_, rfl⟩
  have s1 : IntKind.i64.wrap ((to : Int) - (f : Int)) = (k : Int) := by rw [IntWalk.i64_in _ (by omega)]; omega
  have s2 : IntKind.i64.wrap ((t.length : Int) - (k : Int)) = (m : Int) := by rw [IntWalk.i64_in _ (by omega)]; omega
  have b1 : (f : Int) ≤ (t.length : Int) := by omega
  have b2 : (to : Int) ≤ (t.length : Int) := by omega
  have b3 : (t.length : Int) ≤ (N : Int) := by omega
  have b4 : (m : Int) ≤ (t.length : Int) := by omega
  obtain ⟨w2, hw2⟩ : ∃ w2, w.drew = w2 := ⟨_, rfl⟩
  have d0 : w2.cell? ⟨a, 0, none⟩ = some (.slice (some ⟨c, 0, none⟩) N N) := by rw [← hw2]; exact h.head.cell (j := 0) rfl
  have d1 : w2.cell? ⟨a, 1, none⟩ = some (.int .i64 (t.length : Int)) := by rw [← hw2]; exact h.head.cell (j := 1) rfl
  have hB2 : Hid (Blk w2 c (cellsB (t ++ List.replicate (N - t.length) 0)).toArray 5) := by rw [← hw2]; exact H.out.body
  have HS : Hid (0 < (cellsB (t.drop to)).length → (if N = f then some (⟨c, 0, none⟩ : Addr) else some ⟨c, f, none⟩) = some ⟨c, f, none⟩ ∧ ∃ ad, (if N = to then some (⟨c, 0, none⟩ : Addr) else some ⟨c, to, none⟩) = some ad ∧ ∀ j v, (cellsB (t.drop to))[j]? = some v → w2.cell? (ad.add j) = some v) := fun h0 => by
    rw [cellsB_length, List.length_drop] at h0
    rw [if_neg (by omega), if_neg (by omega)]
    refine ⟨rfl, _, rfl, fun j v hj => ?_⟩
    rw [WideShapes.add_plain]
    refine hB2.out.cell ?_
    rw [cellsB_drop, List.getElem?_drop] at hj
    rw [cellsB_append]
    simp only [List.getElem?_toArray]
    rw [List.getElem?_append_left (List.getElem?_eq_some_iff.1 hj).1]
    exact hj
  have HL : Hid ((t ++ List.replicate (N - t.length) (0 : UInt8)).length = N) := by show _ = N; simp; omega
  have HK := Lib.hid hk
  have HM := Lib.hid hm
  clear hk hm h
  go_enter Tryd.func96, Tryd.ntmps96
  go_wp2_with (go_at_call 97; refine (HP.out).mono ?_; rintro e wx ⟨rfl, hq⟩; obtain rfl := hq.symm)
  refine still_tail 20 (by kernel_rfl) (by kernel_rfl) ?_
  rw [hw2]
  simp only [List.take_succ_cons, List.take_zero, List.drop_succ_cons, List.drop_zero]
  repeat still_step
  refine wpStill_nil ?_
  refine wpList_copy_but rfl (.tmp 25) (.tmp 35) 22 22 rfl 5 Tryd.underlying22 (by kernel_rfl) _ _ _ _ _ _ rfl rfl c f (cellsB (t ++ List.replicate (N - t.length) 0)) 5 hB2.out (cellsB (t.drop to)) (by rw [cellsB_length, List.length_drop]; simp only [Nat.min_def]; split <;> omega) HS.out (by rw [cellsB_length, cellsB_length, List.length_drop, HL.out]; omega) (cellsB_one _) ?_
  intro w4 hg4 hb4
  generalize (if N = f then (some ⟨c, 0, none⟩ : Option Addr) else some ⟨c, f, none⟩) = D1
  generalize (if N = to then (some ⟨c, 0, none⟩ : Option Addr) else some ⟨c, to, none⟩) = D2
  have hh4 : Blk w4 a #[.slice (some ⟨c, 0, none⟩) N N, .int .i64 (t.length : Int)] 95 := Blk.but (by rw [← hw2]; exact H.out.head) hb4.out (by simp; exact H.out.ne)
  have HH4 := Lib.hid hh4
  have HU4 : Hid (But [a, c] w w4) := by
    have := hb4.out
    rw [← hw2] at this
    exact ((But.refl _ _).drew.trans this).mono (by simp)
  clear d0 d1 hB2 HS hw2 hb4 hh4
  go_wp2
  obtain ⟨w5, hw5⟩ : ∃ w5, w4.drew = w5 := ⟨_, rfl⟩
  have d0 : w5.cell? ⟨a, 0, none⟩ = some (.slice (some ⟨c, 0, none⟩) N N) := by rw [← hw5]; exact HH4.out.cell (j := 0) rfl
  have d1 : w5.cell? ⟨a, 1, none⟩ = some (.int .i64 (t.length : Int)) := by rw [← hw5]; exact HH4.out.cell (j := 1) rfl
  refine still_tail 17 (by kernel_rfl) (by kernel_rfl) ?_
  rw [hw5]
  simp only [List.take_succ_cons, List.take_zero, List.drop_succ_cons, List.drop_zero]
  repeat still_step
  refine wpStill_nil ?_
  refine wpList_clear_but rfl (.tmp 53) 22 rfl 5 Tryd.underlying22 zero_u8 _ _ _ rfl c m (splice (cellsB (t ++ List.replicate (N - t.length) 0)) f (cellsB (t.drop to))) 5 (by rw [← hw5]; exact hg4.out) (by rw [cellsB_splice, cellsB_length, length_splice _ _ _ (by rw [HL.out, List.length_drop]; omega), HL.out]; have := HM.out; omega) (fun h0 => by rw [if_neg (by have := HM.out; omega)]) ?_
  intro w6 hg6 hb6
  generalize (if N = m then (some ⟨c, 0, none⟩ : Option Addr) else some ⟨c, m, none⟩) = D3
  have hh6 : Blk w6 a #[.slice (some ⟨c, 0, none⟩) N N, .int .i64 (t.length : Int)] 95 := Blk.but (by rw [← hw5]; exact HH4.out) hb6.out (by simp; exact H.out.ne)
  have e1 := hh6.cell (j := 1) (v := .int .i64 (t.length : Int)) rfl
  have ef := hh6.free 1
  have HH6 := Lib.hid hh6
  have HU6 : Hid (But [a, c] w w6) := by
    have := hb6.out
    rw [← hw5] at this
    exact HU4.out.drew.trans (this.mono (by simp))
  clear d0 d1 hw5 hb6 hh6
  go_wp2
  go_ret
  have hlen : (t.take f ++ t.drop to).length = t.length - (to - f) := by
    rw [List.length_append, List.length_take, List.length_drop]; omega
  refine ⟨rfl, ⟨?_, ?_, H.out.ne, by rw [hlen]; omega, H.out.pos, H.out.max⟩, HU6.out.set (Or.inl (by simp)) _⟩
  · have := Blk.set HH6.out 1 (.int .i64 (m : Int))
    rw [hlen, show t.length - (to - f) = m by have := HM.out; have := HK.out; omega]
    exact this
  · have h := Blk.other hg6.out (a := ⟨a, 1, none⟩) (fun e => H.out.ne e.symm) (.int .i64 (m : Int))
    have hmv : m = t.length - (to - f) := by have := HM.out; have := HK.out; omega
    rw [show t.length - m = to - f by have := HM.out; have := HK.out; omega] at h
    rw [cellsB_zero, cellsB_splice, cellsB_splice, hmv, splice_delete t _ (List.replicate (to - f) 0) f to h1 h2 (by rw [List.length_replicate])] at h
    rw [hlen, List.append_assoc, show N - (t.length - (to - f)) = (to - f) + (N - t.length) by omega, ← List.replicate_append_replicate, hmv]
    exact h

end Go.Proofs.YtbkpnffgihjikaaDoor.Mem

/- A buffer: where the character behind the place ends; what the keys do. -/
set_option linter.unusedVariables false
namespace Go.Proofs.YtbkpnffgihjikaaDoor.Edit
open Go.RowKit Go.Lib Go.Shelf ChangeShapes Mem Utf UtfP

def behF (t : List UInt8) : Nat → Nat → Nat
  | 0, j => j
  | d + 1, j => if firstB t j then j else behF t d (j + 1)
def behindV (t : List UInt8) (j : Nat) : Nat := behF t (t.length - j) j

set_option maxHeartbeats 1000000 in
theorem behind_c {b a c N p : Nat} {t : List UInt8} (w : World) (h : Buf w b a c N t p) :
    Calls Tryd.prog 93 #[.pointer (some ⟨b, 0, none⟩)] w fun e w' => e = .returned (.int .i64 (behindV t (min t.length (p + 1)) : Int)) ∧ But [] w w' := by
  have c0 := h.head.cell (j := 0) (v := .pointer (some ⟨a, 0, none⟩)) rfl
  have c1 := h.head.cell (j := 1) (v := .int .i64 (p : Int)) rfl
  have hpm : p ≤ 4096 := by have := h.ar.fit; have := h.ar.max; have := h.le; omega
  have htm : t.length ≤ 4096 := by have := h.ar.fit; have := h.ar.max; omega
  have H := Lib.hid h
  have HL : Hid (∀ n, Calls Tryd.prog 45 #[.pointer (some ⟨a, 0, none⟩)] (w.drewN n) fun e w' => e = .returned (.int .i64 (t.length : Int)) ∧ w' = w.drewN n) := fun n => len (w.drewN n) (Buf.drewN h n).ar
  clear h
  obtain ⟨m, hm⟩ : ∃ m, min t.length (p + 1) = m := ⟨_, rfl⟩
  rw [hm]
  have hmt : m ≤ t.length := by omega
  have HMI : Hid ((m : Int) = (if (t.length : Int) < (p : Int) + 1 then (t.length : Int) else (p : Int) + 1)) := by unfold Hid; split <;> omega
  have HM := Lib.hid hm
  obtain ⟨R, hR⟩ : ∃ R, behindV t m = R := ⟨_, rfl⟩
  rw [hR]
  have HR := Lib.hid hR
  clear hR hm
  go_enter Tryd.func93, Tryd.ntmps93
  go_wp2
  go_quiet ((go_at_call 45; exact Calls.quiet_of_same (HL.out _)))
  rw [show min (t.length : Int) ((p : Int) + 1) = (m : Int) by have := HM.out; omega]
  obtain ⟨w2, hw2⟩ : ∃ w2, w.drewN nq = w2 := ⟨_, rfl⟩
  have H2 : Hid (Buf w2 b a c N t p) := by rw [← hw2]; exact Buf.drewN H.out nq
  have HB2 : Hid (But [] w w2) := by rw [← hw2]; exact But.drewN _ _
  rw [hw2]
  have H1 := Lib.hid (fun i => first_c i w2 H2.out)
  clear hw2 c0 c1
  go_wp2
  go_loopw [3] (fun i wr => ∃ j : Nat, i = .int .i64 (j : Int) ∧ Hid (behindV t j = R) ∧ j ≤ t.length ∧ wr = w2) (fun i _ => t.length - (RowKit.intOf i).toNat)
  case atStart => exact ⟨m, rfl, HR, hmt, rfl⟩
  case round =>
    obtain ⟨j, rfl, HJ, hj, hw⟩ := hrel
    obtain rfl := hw.symm
    have H3 := Lib.hid (H1.out j)
    cases hf : firstB t j
    · have hjl : j < t.length := by
        apply Classical.byContradiction
        intro hn
        unfold firstB at hf
        rw [if_neg hn] at hf
        cases hf
      have HD : Hid (behindV t (j + 1) = R) := by
        have := HJ.out
        unfold behindV at this ⊢
        obtain ⟨d, hd⟩ : ∃ d, t.length - j = d + 1 := ⟨t.length - j - 1, by omega⟩
        rw [hd] at this
        unfold behF at this
        rw [hf] at this
        show behF t (t.length - (j + 1)) (j + 1) = R
        rw [show t.length - (j + 1) = d by omega]
        exact this
      rw [hf] at H3
      clear hf
      go_wp2_with (go_at_call 75; refine (H3.out).mono ?_; rintro e w1 ⟨rfl, hq⟩; obtain rfl := hq.symm)
      go_roundw
      case rel => exact ⟨j + 1, by go_num, HD, by omega, by first | rfl | trivial⟩
      case measure => simp [RowKit.intOf]; omega
    · have HD : Hid (j = R) := by
        have := HJ.out
        unfold behindV at this
        cases hd : t.length - j with
        | zero => rw [hd] at this; exact this
        | succ d => rw [hd] at this; unfold behF at this; rw [hf] at this; exact this
      rw [hf] at H3
      clear hf
      go_wp2_with (go_at_call 75; refine (H3.out).mono ?_; rintro e w1 ⟨rfl, hq⟩; obtain rfl := hq.symm)
      go_ret
      exact ⟨by rw [HD.out]; rfl, HB2.out⟩

theorem take_c {b a c N p : Nat} {t : List UInt8} (f to : Nat) (w : World) (h : Buf w b a c N t p) (h1 : f ≤ to) (h2 : to ≤ t.length) :
    Calls Tryd.prog 91 #[.pointer (some ⟨b, 0, none⟩), .int .i64 (f : Int), .int .i64 (to : Int)] w fun e w' => e = .returned (.tuple #[]) ∧ Buf w' b a c N (t.take f ++ t.drop to) f ∧ But [b, a, c] w w' := by
  have H := Lib.hid h
  have c0 := h.head.cell (j := 0) (v := .pointer (some ⟨a, 0, none⟩)) rfl
  have H1 := Lib.hid (delete_ok f to w h.ar h1 h2)
  clear h
  go_enter Tryd.func91, Tryd.ntmps91
  go_wp2_with (go_at_call 96; refine (H1.out).mono ?_; rintro e w1 ⟨rfl, har, hb1⟩; have hh1 := H.out.head.but hb1 (by simp; exact ⟨H.out.ba, H.out.bc⟩); have g1 := hh1.cell (j := 1) (v := .int .i64 (p : Int)) rfl; have gf := hh1.free 1; have HH1 := Lib.hid hh1; have HAR := Lib.hid har; have HB1 := Lib.hid hb1; clear hh1 har hb1)
  go_end0
  refine ⟨rfl, ⟨Blk.set HH1.out 1 _, Ar.but HAR.out (But.set (S := [b]) (But.refl _ _) (Or.inl (by simp)) _) (by simp; exact fun e => H.out.ba e.symm) (by simp; exact fun e => H.out.bc e.symm), H.out.ba, H.out.bc, ?_⟩, (HB1.out.mono (by simp)).set (Or.inl (by simp)) _⟩
  rw [List.length_append, List.length_take, List.length_drop]; omega

/-- the place alone -/
theorem Buf.place {w : World} {b a c N p : Nat} {t : List UInt8} (h : Buf w b a c N t p) (q : Nat) (hq : q ≤ t.length) : Buf (w.setCell ⟨b, 1, none⟩ (.int .i64 (q : Int))) b a c N t q :=
  ⟨Blk.set h.head 1 _, Ar.but h.ar (But.set (S := [b]) (But.refl _ _) (Or.inl (by simp)) _) (by simp; exact fun e => h.ba e.symm) (by simp; exact fun e => h.bc e.symm), h.ba, h.bc, hq⟩

theorem home_c {b a c N p : Nat} {t : List UInt8} (w : World) (h : Buf w b a c N t p) :
    Calls Tryd.prog 80 #[.pointer (some ⟨b, 0, none⟩)] w fun e w' => e = .returned (.tuple #[]) ∧ Buf w' b a c N t 0 ∧ But [b, a, c] w w' := by
  have H := Lib.hid h
  have c1 := h.head.cell (j := 1) (v := .int .i64 (p : Int)) rfl
  have f1 := h.head.free 1
  clear h
  go_enter Tryd.func80, Tryd.ntmps80
  go_wp2
  go_end0
  exact ⟨rfl, Buf.place H.out 0 (by omega), (But.refl _ _).set (Or.inl (by simp)) _⟩

theorem last_c {b a c N p : Nat} {t : List UInt8} (w : World) (h : Buf w b a c N t p) :
    Calls Tryd.prog 81 #[.pointer (some ⟨b, 0, none⟩)] w fun e w' => e = .returned (.tuple #[]) ∧ Buf w' b a c N t t.length ∧ But [b, a, c] w w' := by
  have H := Lib.hid h
  have c0 := h.head.cell (j := 0) (v := .pointer (some ⟨a, 0, none⟩)) rfl
  have c1 := h.head.cell (j := 1) (v := .int .i64 (p : Int)) rfl
  have f1 := h.head.free 1
  have H1 := Lib.hid (len w h.ar)
  clear h
  go_enter Tryd.func81, Tryd.ntmps81
  go_wp2_with (go_at_call 45; refine (H1.out).mono ?_; rintro e w1 ⟨rfl, hq⟩; obtain rfl := hq.symm)
  go_end0
  exact ⟨rfl, Buf.place H.out t.length (by omega), (But.refl _ _).set (Or.inl (by simp)) _⟩

theorem left_c {b a c N p : Nat} {t : List UInt8} (w : World) (h : Buf w b a c N t p) (h0 : firstB t 0 = true) (hle : aheadV t (p - 1) ≤ t.length) :
    Calls Tryd.prog 78 #[.pointer (some ⟨b, 0, none⟩)] w fun e w' => e = .returned (.tuple #[]) ∧ Buf w' b a c N t (aheadV t (p - 1)) ∧ But [b, a, c] w w' := by
  have H := Lib.hid h
  have c1 := h.head.cell (j := 1) (v := .int .i64 (p : Int)) rfl
  have f1 := h.head.free 1
  have H1 := Lib.hid (ahead_c w h h0)
  generalize aheadV t (p - 1) = q at *
  clear h h0
  go_enter Tryd.func78, Tryd.ntmps78
  go_wp2_with (go_at_call 92; refine (H1.out).mono ?_; rintro e w1 ⟨rfl, hq⟩; obtain rfl := hq.symm)
  go_end0
  exact ⟨rfl, Buf.place H.out q hle, (But.refl _ _).set (Or.inl (by simp)) _⟩

theorem right_c {b a c N p : Nat} {t : List UInt8} (w : World) (h : Buf w b a c N t p) (q : Nat) (hqv : behindV t (min t.length (p + 1)) = q) (hle : q ≤ t.length) :
    Calls Tryd.prog 79 #[.pointer (some ⟨b, 0, none⟩)] w fun e w' => e = .returned (.tuple #[]) ∧ Buf w' b a c N t q ∧ But [b, a, c] w w' := by
  have H := Lib.hid h
  have H1 := Lib.hid (behind_c w h)
  rw [hqv] at H1
  clear h hqv
  go_enter Tryd.func79, Tryd.ntmps79
  go_wp2_with (go_at_call 93; refine (H1.out).mono ?_; rintro e w1 ⟨rfl, hb1⟩; have hbf := H.out.but hb1 (by simp) (by simp) (by simp); have g1 := hbf.head.cell (j := 1) (v := .int .i64 (p : Int)) rfl; have gf := hbf.head.free 1; have HBF := Lib.hid hbf; have HB1 := Lib.hid hb1; clear hbf hb1)
  go_end0
  exact ⟨rfl, Buf.place HBF.out q hle, (HB1.out.mono (by simp)).set (Or.inl (by simp)) _⟩

end Go.Proofs.YtbkpnffgihjikaaDoor.Edit

/- A buffer: Back, Delete, KillStart, KillEnd, walked. -/
set_option linter.unusedVariables false
namespace Go.Proofs.YtbkpnffgihjikaaDoor.Edit
open Go.RowKit Go.Lib Go.Shelf ChangeShapes Mem Utf UtfP

set_option maxRecDepth 100000 in
set_option maxHeartbeats 1000000 in
theorem back_c {b a c N p : Nat} {t : List UInt8} (w : World) (h : Buf w b a c N t p) (h0 : firstB t 0 = true) (q : Nat) (hq : aheadV t (p - 1) = q) (hle : q ≤ p) :
    Calls Tryd.prog 76 #[.pointer (some ⟨b, 0, none⟩)] w fun e w' => e = .returned (.tuple #[]) ∧ Buf w' b a c N (t.take q ++ t.drop p) q ∧ But [b, a, c] w w' := by
  obtain ⟨w2, hw2⟩ : ∃ w2, w.drew = w2 := ⟨_, rfl⟩
  have H2 : Hid (Buf w2 b a c N t p) := by rw [← hw2]; exact Buf.drewN h 1
  have hb : But [] w w2 := by rw [← hw2]; exact (But.refl _ _).drew
  have HB := Lib.hid hb
  have d1 := H2.out.head.cell (j := 1) (v := .int .i64 (p : Int)) rfl
  have H1 := Lib.hid (ahead_c w2 H2.out h0)
  have H3 := Lib.hid (take_c q p w2 H2.out hle h.le)
  rw [hq] at H1
  clear h h0 hq hb
  go_enter Tryd.func76, Tryd.ntmps76
  refine still_tail 7 (by kernel_rfl) (by kernel_rfl) ?_
  rw [hw2]
  simp only [List.take_succ_cons, List.take_zero, List.drop_succ_cons, List.drop_zero]
  repeat still_step
  still_call H1.out
  repeat still_step
  refine wpStill_nil ?_
  clear d1 hw2
  go_wp2_with (go_at_call 91; refine (H3.out).mono ?_; rintro e w4 ⟨rfl, hbuf, hb4⟩)
  go_end0
  exact ⟨rfl, hbuf, (HB.out.mono (by simp)).trans hb4⟩

set_option maxRecDepth 100000 in
set_option maxHeartbeats 1000000 in
theorem killEnd_c {b a c N p : Nat} {t : List UInt8} (w : World) (h : Buf w b a c N t p) :
    Calls Tryd.prog 83 #[.pointer (some ⟨b, 0, none⟩)] w fun e w' => e = .returned (.tuple #[]) ∧ Buf w' b a c N (t.take p) p ∧ But [b, a, c] w w' := by
  obtain ⟨w2, hw2⟩ : ∃ w2, w.drew = w2 := ⟨_, rfl⟩
  have H2 : Hid (Buf w2 b a c N t p) := by rw [← hw2]; exact Buf.drewN h 1
  have hb : But [] w w2 := by rw [← hw2]; exact (But.refl _ _).drew
  have HB := Lib.hid hb
  have d0 := H2.out.head.cell (j := 0) (v := .pointer (some ⟨a, 0, none⟩)) rfl
  have d1 := H2.out.head.cell (j := 1) (v := .int .i64 (p : Int)) rfl
  have H1 := Lib.hid (len w2 H2.out.ar)
  have H3 := Lib.hid (take_c p t.length w2 H2.out h.le (Nat.le_refl _))
  clear h hb
  go_enter Tryd.func83, Tryd.ntmps83
  refine still_tail 10 (by kernel_rfl) (by kernel_rfl) ?_
  rw [hw2]
  simp only [List.take_succ_cons, List.take_zero, List.drop_succ_cons, List.drop_zero]
  repeat still_step
  still_call H1.out
  repeat still_step
  refine wpStill_nil ?_
  clear d0 d1 hw2
  go_wp2_with (go_at_call 91; refine (H3.out).mono ?_; rintro e w4 ⟨rfl, hbuf, hb4⟩)
  go_end0
  refine ⟨rfl, ?_, (HB.out.mono (by simp)).trans hb4⟩
  rw [List.drop_length, List.append_nil] at hbuf
  exact hbuf

theorem killStart_c {b a c N p : Nat} {t : List UInt8} (w : World) (h : Buf w b a c N t p) :
    Calls Tryd.prog 82 #[.pointer (some ⟨b, 0, none⟩)] w fun e w' => e = .returned (.tuple #[]) ∧ Buf w' b a c N (t.drop p) 0 ∧ But [b, a, c] w w' := by
  have d1 := h.head.cell (j := 1) (v := .int .i64 (p : Int)) rfl
  have H3 := Lib.hid (take_c 0 p w h (by omega) h.le)
  clear h
  go_enter Tryd.func82, Tryd.ntmps82
  go_wp2_with (go_at_call 91; refine (H3.out).mono ?_; rintro e w4 ⟨rfl, hbuf, hb4⟩)
  go_end0
  exact ⟨rfl, by simpa using hbuf, hb4⟩

set_option maxRecDepth 100000 in
set_option maxHeartbeats 1000000 in
theorem del_c {b a c N p : Nat} {t : List UInt8} (w : World) (h : Buf w b a c N t p) (q : Nat) (hqv : behindV t (min t.length (p + 1)) = q) (hp : p ≤ q) (hle : q ≤ t.length) :
    Calls Tryd.prog 77 #[.pointer (some ⟨b, 0, none⟩)] w fun e w' => e = .returned (.tuple #[]) ∧ Buf w' b a c N (t.take p ++ t.drop q) p ∧ But [b, a, c] w w' := by
  have H2 : Hid (Buf w.drew b a c N t p) := Buf.drewN h 1
  have H1 := Lib.hid (behind_c w.drew H2.out)
  rw [hqv] at H1
  have H3 : Hid (∀ W, Buf W b a c N t p → Calls Tryd.prog 91 #[.pointer (some ⟨b, 0, none⟩), .int .i64 (p : Int), .int .i64 (q : Int)] W fun e w' => e = .returned (.tuple #[]) ∧ Buf w' b a c N (t.take p ++ t.drop q) p ∧ But [b, a, c] W w') := fun W hW => take_c p q W hW hp hle
  have d1 := H2.out.head.cell (j := 1) (v := .int .i64 (p : Int)) rfl
  clear h hqv
  go_enter Tryd.func77, Tryd.ntmps77
  go_wp2_with fail
  go_region_with (first
    | (go_at_call 93; refine (H1.out).mono ?_; rintro e w3 ⟨rfl, hb3⟩; have hbf := H2.out.but hb3 (by simp) (by simp) (by simp); have g1 := hbf.head.cell (j := 1) (v := .int .i64 (p : Int)) rfl)
    | (go_at_call 91; refine (H3.out _ hbf).mono ?_; rintro e w4 ⟨rfl, hbuf, hb4⟩))
  all_goals
    go_wp2
    go_end0
    exact ⟨rfl, hbuf, (((But.refl _ _).drew.trans hb3).mono (by simp)).trans hb4⟩

end Go.Proofs.YtbkpnffgihjikaaDoor.Edit

/- A function that defers calls of builtins alone: its contract from its body. -/
set_option linter.unusedVariables false
namespace Go.Proofs.YtbkpnffgihjikaaDoor.Def
open Go.RowKit

section
variable {P : Program}

theorem step_defer_value {fr : Frame} {cs : List Frame} {w w' : World} {ds : List Deferred} {b : Builtin} {ats : Array TypeId} {ty : TypeId} {cn : Array Bool} {args : Array Value} {v : Value}
    (hm : fr.mode = .returning) (hd : fr.defers = { target := .builtin b ats ty cn, args := args } :: ds)
    (hi : (invoke (.builtin b ats ty cn) args).run P w = .ok (.value v) w') :
    step P (lone fr cs w) = .next (lone { fr with defers := ds } cs w') := by
  refine step_lone_go ?_
  simp [stepG, unwind, callDeferred, hm, hd, hi]

/-- What a frame that is on its way out leaves: its deferred builtins made, one by one. -/
def LeavesB (P : Program) (fn : Func) (tmps : Array Value) (R : Ending → World → Prop) : List Deferred → World → Prop
  | [], w => ∃ v, (results fn tmps).run P w = .ok v w ∧ R (.returned v) w
  | d :: ds, w => ∃ b ats ty cn v w', d.target = .builtin b ats ty cn ∧ (invoke (.builtin b ats ty cn) d.args).run P w = .ok (.value v) w' ∧ LeavesB P fn tmps R ds w'

theorem leavesB_steps {fn : Func} {tmps : Array Value} {R : Ending → World → Prop} : ∀ (ds : List Deferred) (w : World) (fr : Frame) (cs : List Frame),
    fr.mode = .returning → fr.defers = ds → fr.tmps = tmps → P.funcs[fr.fn]? = some fn → fr.kind = .normal → LeavesB P fn tmps R ds w →
    ∃ e w' fr', R e w' ∧ Comes P (lone fr cs w) (lone fr' cs w') e ∧ fr'.fn = fr.fn ∧ fr'.leaving P w' e := by
  intro ds
  induction ds with
  | nil =>
    intro w fr cs hu hd ht hf hk h
    obtain ⟨v, hr, hR⟩ := h
    exact ⟨.returned v, w, fr, hR, Steps.refl P _, rfl, hu, hd, hk, fn, hf, ht ▸ hr⟩
  | cons d ds ih =>
    intro w fr cs hu hd ht hf hk h
    obtain ⟨b, ats, ty, cn, v, w1, htar, hinv, hl⟩ := h
    obtain ⟨t, args⟩ := d
    simp only at htar hinv
    subst htar
    have h1 := step_defer_value (cs := cs) hu hd hinv
    obtain ⟨e', w'', fr', hR', hs', hfn', hl'⟩ := ih w1 { fr with defers := ds } cs hu rfl ht hf hk hl
    exact ⟨e', w'', fr', hR', Comes.of_steps (.one h1) hs', hfn', hl'⟩

def bodyPostB (P : Program) (fn : Func) (R : Ending → World → Prop) : Exit → Act → World → Prop
  | .normal, a, w | .ret, a, w => LeavesB P fn a.tmps R a.defers w
  | .outgrown, _, w => R .outgrown w
  | _, _, _ => False

theorem calls_of_wp_B {f : FuncId} {fn : Func} {c : Code} {args : Array Value} {w : World} {R : Ending → World → Prop}
    (hf : P.funcs[f]? = some fn) (hb : fn.body = some c)
    (h : c.wp P (bodyPostB P fn R) { tmps := args ++ Array.replicate (fn.ntmps - args.size) undef, defers := [] } w) : Calls P f args w R := by
  intro cs
  let b : Frame := { (default : Frame) with fn := f, kind := .normal }
  have henter : Frame.enter P f args .normal =
      b.at { tmps := args ++ Array.replicate (fn.ntmps - args.size) undef, defers := [] } [.code c] := by
    simp [Frame.enter, Frame.at, hf, hb, b]
  obtain ⟨e, a', w', hq, harr⟩ := h b [] cs
  rw [← henter] at harr
  cases e with
  | normal =>
    obtain ⟨e', w'', fr', hR, hs, hfn, hl⟩ := leavesB_steps a'.defers w' { b.at a' [] with mode := .returning } cs rfl rfl rfl hf rfl hq
    exact ⟨e', w'', fr', hR, Comes.of_steps (Steps.trans harr (.one step_end)) hs, hfn, hl⟩
  | ret =>
    obtain ⟨todo, hs₀⟩ := harr
    obtain ⟨e', w'', fr', hR, hs, hfn, hl⟩ := leavesB_steps a'.defers w' { b.at a' todo with mode := .returning } cs rfl rfl rfl hf rfl hq
    exact ⟨e', w'', fr', hR, Comes.of_steps hs₀ hs, hfn, hl⟩
  | panic chain => exact hq.elim
  | exit id => exact hq.elim
  | goto l => exact hq.elim
  | outgrown => exact ⟨.outgrown, w', b, hq, harr.resolve_left (by simp [b]), rfl, trivial⟩
end

end Go.Proofs.YtbkpnffgihjikaaDoor.Def

/- A buffer: Put, walked (it clears the character's bytes when it leaves). -/
set_option linter.unusedVariables false
namespace Go.Proofs.YtbkpnffgihjikaaDoor.Edit
open Go.RowKit Go.Lib Go.Shelf ChangeShapes Mem Utf UtfP Def

theorem inv_clear (W : World) (g cap n : Nat) (cur : Array Value) (hg : Blk W g cur 5) (hn : n ≤ cur.size) :
    ∃ W', (invoke (.builtin .clear #[22] 0 #[false]) #[.slice (some ⟨g, 0, none⟩) n cap]).run Tryd.prog W = .ok (.value (.tuple #[])) W' ∧ But [g] W W' := by
  rcases Nat.eq_zero_or_pos n with h0 | h0
  · subst h0
    have hrun := run_clear_none (P := Tryd.prog) W 22 5 0 Tryd.underlying22 (some ⟨g, 0, none⟩) cap
    exact ⟨W, by simp [invoke, builtin, hrun], But.refl _ _⟩
  · have hcell : ∀ j, j < n → (W.cell? ⟨g, 0 + j, none⟩).isSome = true := fun j hj => by
      rw [Nat.zero_add, hg.cell (v := cur[j]'(by omega)) (by simp)]; rfl
    have hrun := run_clear_slice (P := Tryd.prog) W 22 5 0 (.int .u8 0) Tryd.underlying22 zero_u8 rfl rfl g 0 n cap h0 hcell (fun j _ => hg.free _)
    exact ⟨W.setCells g 0 (List.replicate n (.int .u8 0)), by simp [invoke, builtin, hrun], But.setCells (Or.inl (by simp)) _ _ _ (But.refl _ _)⟩

theorem putB_nil (x : Int) (w : World) : Calls Tryd.prog 40 #[.pointer none, .int .i64 x] w fun e w' => e = .returned (.int .i64 1) ∧ w' = w := by
  refine calls_of_wp_B Tryd.func40 rfl ?_
  simp only [Tryd.ntmps40, List.size_toArray, List.length_cons, List.length_nil, Nat.reduceAdd, Nat.reduceSub, Array.replicate_succ, Array.replicate_zero, List.push_toArray, List.append_toArray, List.nil_append, List.cons_append]
  go_wp2
  (try simp only [Exit.inBlock, Exit.then])
  exact ⟨_, results_tmp rfl _ _ _, rfl, rfl⟩

theorem putB_bad {b : Nat} (x : Int) (hx : printC x = false) (w : World) :
    Calls Tryd.prog 40 #[.pointer (some ⟨b, 0, none⟩), .int .i64 x] w fun e w' => e = .returned (.int .i64 2) ∧ Below w.heap.size w w' := by
  have H1 := Lib.hid (printable x w)
  rw [hx] at H1
  clear hx
  refine calls_of_wp_B Tryd.func40 rfl ?_
  simp only [Tryd.ntmps40, List.size_toArray, List.length_cons, List.length_nil, Nat.reduceAdd, Nat.reduceSub, Array.replicate_succ, Array.replicate_zero, List.push_toArray, List.append_toArray, List.nil_append, List.cons_append]
  go_wp2_with (go_at_call 53; refine (H1.out).mono ?_; rintro e w1 ⟨rfl, hb1⟩)
  (try simp only [Exit.inBlock, Exit.then])
  exact ⟨_, results_tmp rfl _ _ _, rfl, hb1⟩

set_option maxHeartbeats 1000000 in
theorem putB {b a c N p : Nat} {t : List UInt8} (x : Int) (hx : printC x = true) (w : World) (h : Buf w b a c N t p) (er : Int) (t' : List UInt8) (p' : Nat)
    (hv : (t.length + (enc x).length ≤ N ∧ er = 0 ∧ t' = t.take p ++ (enc x ++ t.drop p) ∧ p' = p + (enc x).length) ∨ (N < t.length + (enc x).length ∧ er = 4 ∧ t' = t ∧ p' = p)) :
    Calls Tryd.prog 40 #[.pointer (some ⟨b, 0, none⟩), .int .i64 x] w fun e w' => e = .returned (.int .i64 er) ∧ Buf w' b a c N t' p' ∧ But [b, a, c] w w' := by
  have H1 := Lib.hid (printable x w)
  rw [hx] at H1
  have H := Lib.hid h
  have HV := Lib.hid hv
  have HF := Lib.hid (printC_fine hx)
  clear h hx hv
  refine calls_of_wp_B Tryd.func40 rfl ?_
  simp only [Tryd.ntmps40, List.size_toArray, List.length_cons, List.length_nil, Nat.reduceAdd, Nat.reduceSub, Array.replicate_succ, Array.replicate_zero, List.push_toArray, List.append_toArray, List.nil_append, List.cons_append]
  go_wp2_with fail
  refine (H1.out).mono ?_
  rintro e w1 ⟨rfl, hb1⟩
  have HB1 := Lib.hid hb1
  have H2 := Lib.hid (put_ok x w1 HF.out)
  clear hb1
  go_wp2_with fail
  refine (H2.out).mono ?_
  rintro e w2 ⟨v, rfl, hown, hb2⟩
  have hb12 : Below w.heap.size w w2 := HB1.out.trans (hb2.mono HB1.out.size)
  obtain ⟨g, cap, cur, rfl, hgB, hgk, hn⟩ : ∃ g cap cur, v = .slice (some ⟨g, 0, none⟩) (enc x).length cap ∧ w1.heap.size ≤ g ∧ Blk w2 g cur 5 ∧ (enc x).length ≤ cur.size := by
    rcases hown.2 with ⟨_, h0⟩ | ⟨g, cap, cur, rfl, hB, hg, hn, hm, hsz, _⟩
    · exact absurd h0 (by have := (enc_length x).1; omega)
    · exact ⟨g, cap, cur, rfl, hB, hg, by rw [hsz]; omega⟩
  obtain ⟨A2, cap2, hA2, _, hbytes, _⟩ := hown.form
  injection hA2 with e1 e2 e3
  subst e1 e3
  have H3 : Hid (Calls Tryd.prog 65 #[.pointer (some ⟨b, 0, none⟩), .slice (some ⟨g, 0, none⟩) (enc x).length cap] w2 fun e w' => e = .returned (.int .i64 er) ∧ Buf w' b a c N t' p' ∧ But [b, a, c] w2 w') := by
    have hbuf2 : Buf w2 b a c N t p := H.out.but (But.of_below (S := []) hb12) (by simp) (by simp) (by simp)
    rcases HV.out with ⟨h1, rfl, rfl, rfl⟩ | ⟨h1, rfl, rfl, rfl⟩
    · refine lay_ok _ (enc x) cap w2 hbuf2 h1 (BytesAt.src hbytes) (fun ad had _ => ?_)
      obtain rfl := Option.some.inj had
      have := H.out.ar.body.lt
      have := HB1.out.size
      show g ≠ c
      omega
    · exact (lay_full _ _ cap w2 hbuf2 h1).mono fun e w' ⟨he, hb⟩ => ⟨he, hbuf2.but hb (by simp) (by simp) (by simp), hb.mono (by simp)⟩
  have HG : Hid (Blk w2 g cur 5) := hgk
  have HN := Lib.hid hn
  have HGB : Hid (w.heap.size ≤ g) := Nat.le_trans HB1.out.size hgB
  have HB12 := Lib.hid hb12
  clear hown hb2 hb12 hgB hgk hn hbytes
  go_wp2_with (go_at_call 65; refine (H3.out).mono ?_; rintro e w3 ⟨rfl, hbuf3, hb3⟩)
  (try simp only [Exit.inBlock, Exit.then])
  have l1 := H.out.head.lt
  have l2 := H.out.ar.head.lt
  have l3 := H.out.ar.body.lt
  have hgb := HGB.out
  have hgk3 : Blk w3 g cur 5 := HG.out.but hb3 (by simp; omega)
  obtain ⟨w4, hinv, hb4⟩ := inv_clear w3 g cap (enc x).length cur hgk3 HN.out
  refine ⟨_, _, _, _, _, w4, rfl, hinv, ?_⟩
  refine ⟨_, results_tmp rfl _ _ _, rfl, hbuf3.but hb4 (by simp; omega) (by simp; omega) (by simp; omega), ?_⟩
  have h13 : But [b, a, c] w w3 := (But.of_below HB12.out).trans hb3
  exact ⟨hb4.os.trans h13.os, hb4.tape.trans h13.tape, hb4.output.trans h13.output, Nat.le_trans h13.size hb4.size, fun k hk hs => by
    rw [hb4.block k (Nat.lt_of_lt_of_le hk h13.size) (by simp; omega)]
    exact h13.block k hk hs⟩

end Go.Proofs.YtbkpnffgihjikaaDoor.Edit

/- What keys do, character by character: plainly. -/
set_option linter.unusedVariables false
namespace Go.Proofs.YtbkpnffgihjikaaDoor.Edit
open Go.RowKit Go.Lib Go.Shelf ChangeShapes Mem Utf UtfP

def AllPrint (cs : List Int) : Prop := ∀ c ∈ cs, printC c = true
theorem AllPrint.fine {cs : List Int} (h : AllPrint cs) : AllFine cs := fun c hc => printC_fine (h c hc)

theorem firstB_zero (a b : List Int) (h : AllFine (a ++ b)) : firstB (encs a ++ encs b) 0 = true := by
  have := firstB_head [] (a ++ b) h
  rw [encs_append] at this
  simpa [encs_nil] using this

theorem aheadV_snoc (a : List Int) (x : Int) (b : List Int) (h : AllFine (a ++ x :: b)) :
    aheadV (encs (a ++ [x]) ++ encs b) ((encs (a ++ [x])).length - 1) = (encs a).length := by
  have hx : fineC x = true := h x (by simp)
  have e : encs (a ++ [x]) ++ encs b = encs a ++ (enc x ++ encs b) := by rw [encs_append, encs_one, List.append_assoc]
  have hl := (enc_length x).1
  have hlen : (encs (a ++ [x])).length - 1 = (encs a).length + ((enc x).length - 1) := by rw [encs_append, encs_one, List.length_append]; omega
  rw [e, hlen]
  have hf : firstB (encs a ++ (enc x ++ encs b)) (encs a).length = true := by
    have := firstB_head a (x :: b) (fun y hy => h y (by simp at hy ⊢; rcases hy with hy | hy <;> simp [hy]))
    rwa [encs_cons] at this
  have step : ∀ k, k < (enc x).length → aheadV (encs a ++ (enc x ++ encs b)) ((encs a).length + k) = (encs a).length := by
    intro k
    induction k with
    | zero =>
      intro _
      rw [Nat.add_zero]
      cases hn : (encs a).length with
      | zero => rfl
      | succ n =>
        rw [hn] at hf
        show (if firstB _ (n + 1) then n + 1 else _) = n + 1
        rw [hf]; rfl
    | succ k ih =>
      intro hk
      show (if firstB _ ((encs a).length + k + 1) then (encs a).length + k + 1 else aheadV _ ((encs a).length + k)) = _
      rw [Nat.add_assoc, firstB_in a x b hx (k + 1) (by omega) hk, ih (by omega)]
      rfl
  exact step _ (by omega)

theorem beh_first (t : List UInt8) (j : Nat) (h : firstB t j = true) : behindV t j = j := by
  unfold behindV
  cases t.length - j with
  | zero => rfl
  | succ d => unfold behF; rw [h]; rfl

theorem beh_step (t : List UInt8) (j : Nat) (hj : j < t.length) (h : firstB t j = false) : behindV t j = behindV t (j + 1) := by
  unfold behindV
  obtain ⟨d, hd⟩ : ∃ d, t.length - j = d + 1 := ⟨t.length - j - 1, by omega⟩
  rw [hd, show t.length - (j + 1) = d by omega]
  conv => lhs; unfold behF
  rw [h]; rfl

theorem behindV_cons (a : List Int) (x : Int) (b : List Int) (h : AllFine (a ++ x :: b)) :
    behindV (encs a ++ encs (x :: b)) (min (encs a ++ encs (x :: b)).length ((encs a).length + 1)) = (encs a).length + (enc x).length := by
  have hx : fineC x = true := h x (by simp)
  have hl := (enc_length x).1
  have hlen : (encs a ++ encs (x :: b)).length = (encs a).length + ((enc x).length + (encs b).length) := by rw [encs_cons, List.length_append, List.length_append]
  rw [Nat.min_eq_right (by omega)]
  have hend : firstB (encs a ++ encs (x :: b)) ((encs a).length + (enc x).length) = true := by
    have := firstB_head (a ++ [x]) b (fun y hy => h y (by simp; right; right; exact hy))
    rw [encs_append, encs_one, List.length_append, List.append_assoc] at this
    rw [encs_cons]; exact this
  have step : ∀ d k, k + d = (enc x).length → 1 ≤ k → behindV (encs a ++ encs (x :: b)) ((encs a).length + k) = (encs a).length + (enc x).length := by
    intro d
    induction d with
    | zero => intro k hk _; rw [show k = (enc x).length by omega]; exact beh_first _ _ hend
    | succ d ih =>
      intro k hk h1
      have hf : firstB (encs a ++ encs (x :: b)) ((encs a).length + k) = false := by rw [encs_cons]; exact firstB_in a x b hx k (by omega) (by omega)
      rw [beh_step _ _ (by omega) hf, Nat.add_assoc]
      exact ih (k + 1) (by omega) (by omega)
  exact step ((enc x).length - 1) 1 (by omega) (by omega)

theorem behindV_nil (a : List Int) : behindV (encs a ++ encs []) (min (encs a ++ encs []).length ((encs a).length + 1)) = (encs a).length := by
  rw [encs_nil, List.append_nil, Nat.min_eq_left (by omega)]
  refine beh_first _ _ ?_
  unfold firstB
  rw [if_neg (by omega)]

/-- a buffer of characters ahead of the place, and behind it -/
structure Ed (w : World) (b a c N : Nat) (A B : List Int) : Prop where
  buf : Buf w b a c N (encs A ++ encs B) (encs A).length
  pr : AllPrint (A ++ B)

theorem Ed.but {S : List Nat} {w w' : World} {b a c N : Nat} {A B : List Int} (h : Ed w b a c N A B) (hb : But S w w') (h1 : b ∉ S) (h2 : a ∉ S) (h3 : c ∉ S) : Ed w' b a c N A B := ⟨h.buf.but hb h1 h2 h3, h.pr⟩

/-- what a key does -/
def keyE (k : Int) (A B : List Int) : List Int × List Int :=
  if k = 2 then (A.dropLast, B)
  else if k = 3 then (A, B.tail)
  else if k = 4 then (A.dropLast, A.drop (A.length - 1) ++ B)
  else if k = 5 then (A ++ B.take 1, B.tail)
  else if k = 6 then ([], A ++ B)
  else if k = 7 then (A ++ B, [])
  else if k = 8 then ([], B)
  else if k = 9 then (A, [])
  else (A, B)

/-- did it change something? -/
def chg (A B : List Int) (R : List Int × List Int) : Bool := decide (R.1.length ≠ A.length) || decide (R.2.length ≠ B.length)

end Go.Proofs.YtbkpnffgihjikaaDoor.Edit

/- Do, character by character, walked. -/
set_option linter.unusedVariables false
set_option linter.unusedSimpArgs false
namespace Go.Proofs.YtbkpnffgihjikaaDoor.Edit
open Go.RowKit Go.Lib Go.Shelf ChangeShapes Mem Utf UtfP

theorem snoc_of {A : List Int} (h : A ≠ []) : ∃ A' x, A = A' ++ [x] := ⟨_, _, (List.dropLast_concat_getLast h).symm⟩

theorem encs_pos {A : List Int} (h : A ≠ []) : 0 < (encs A).length := by
  cases A with
  | nil => exact absurd rfl h
  | cons x A =>
    have := (enc_length x).1
    rw [encs_cons, List.length_append]; omega

theorem both {p q : Prop} (hp : p) (hq : q) : p ↔ q := ⟨fun _ => hq, fun _ => hp⟩

theorem bool_eq {p p' n n' : Nat} {q : Bool} (h : (p' ≠ p ∨ n' ≠ n) ↔ q = true) : (decide (p' ≠ p) || decide (n' ≠ n)) = q := by
  rw [Bool.eq_iff_iff]
  simpa using h

section
variable {b a c N : Nat} {A B : List Int}

/-- The frame of each key: what its function leaves, as characters. -/
theorem of_fn (k cc : Int) (i F : Nat) (hf : Instr.findNow (.int .i64) (.int .i64 k) tbl.toList 0 = some (some (i, fnV F))) (hk0 : (k == 0) = false)
    (hcf : ∀ args W, (callFunc F args).run Tryd.prog W = .ok (.enter F args) W) (A' B' : List Int) (hR : keyE k A B = (A', B')) (hp : AllPrint (A' ++ B'))
    (HF : ∀ W, Buf W b a c N (encs A ++ encs B) (encs A).length → Calls Tryd.prog F #[.pointer (some ⟨b, 0, none⟩)] W fun e w' => e = .returned (.tuple #[]) ∧ Buf w' b a c N (encs A' ++ encs B') (encs A').length ∧ But [b, a, c] W w')
    (hc : ((encs A').length ≠ (encs A).length ∨ (encs A' ++ encs B').length ≠ (encs A ++ encs B).length) ↔ chg A B (A', B') = true) (w : World) (h : Ed w b a c N A B) :
    Calls Tryd.prog 34 #[.pointer (some ⟨b, 0, none⟩), .agg #[.int .i64 k, .int .i64 cc]] w fun e w' => e = .returned (.tuple #[.bool (chg A B (keyE k A B)), .int .i64 0]) ∧ Ed w' b a c N (keyE k A B).1 (keyE k A B).2 ∧ But [b, a, c] w w' := by
  rw [hR]
  refine (do_key k cc i F hf hk0 hcf _ _ HF w h.buf).mono fun e w' ⟨he, hb, hbt⟩ => ⟨?_, ⟨hb, hp⟩, hbt⟩
  rw [he, bool_eq hc]

theorem do_keys (k cc : Int) (hk : k ≠ 0) (w : World) (h : Ed w b a c N A B) :
    Calls Tryd.prog 34 #[.pointer (some ⟨b, 0, none⟩), .agg #[.int .i64 k, .int .i64 cc]] w fun e w' => e = .returned (.tuple #[.bool (chg A B (keyE k A B)), .int .i64 0]) ∧ Ed w' b a c N (keyE k A B).1 (keyE k A B).2 ∧ But [b, a, c] w w' := by
  have hfine := AllPrint.fine h.pr
  have h0 := firstB_zero A B hfine
  have hpr := h.pr
  by_cases k2 : k = 2
  · subst k2
    by_cases hA : A = []
    · subst hA
      refine of_fn 2 cc 0 76 rfl rfl Tryd.call76 [] B rfl hpr (fun W hW => (back_c W hW h0 0 rfl (by simp [encs_nil])).mono fun e w' ⟨he, hb, hbt⟩ => ⟨he, by simpa [encs_nil] using hb, hbt⟩) ?_ w h
      simp [chg, encs_nil]
    · obtain ⟨A', x, rfl⟩ := snoc_of hA
      have hq := aheadV_snoc A' x B (by simpa using hfine)
      have hx := (enc_length x).1
      refine of_fn 2 cc 0 76 rfl rfl Tryd.call76 A' B (by simp [keyE]) (fun y hy => hpr y (by simp at hy ⊢; rcases hy with hy | hy <;> simp [hy])) (fun W hW => (back_c W hW h0 _ hq (by rw [encs_append, List.length_append]; omega)).mono fun e w' ⟨he, hb, hbt⟩ => ⟨he, by rw [List.drop_left, encs_append, List.append_assoc, List.take_left] at hb; exact hb, hbt⟩) ?_ w h
      refine both ?_ (by simp [chg])
      simp only [encs_append, encs_one, encs_cons, encs_nil, List.length_append, List.length_nil]
      omega
  by_cases k3 : k = 3
  · subst k3
    cases B with
    | nil =>
      refine of_fn 3 cc 1 77 rfl rfl Tryd.call77 A [] rfl hpr (fun W hW => (del_c W hW _ (behindV_nil A) (Nat.le_refl _) (by simp [encs_nil])).mono fun e w' ⟨he, hb, hbt⟩ => ⟨he, by simpa [encs_nil] using hb, hbt⟩) ?_ w h
      simp [chg]
    | cons x B =>
      have hx := (enc_length x).1
      refine of_fn 3 cc 1 77 rfl rfl Tryd.call77 A B rfl (fun y hy => hpr y (by simp at hy ⊢; rcases hy with hy | hy <;> simp [hy])) (fun W hW => (del_c W hW _ (behindV_cons A x B hfine) (by omega) (by rw [encs_cons, List.length_append, List.length_append]; omega)).mono fun e w' ⟨he, hb, hbt⟩ => ⟨he, by rw [List.take_left, encs_cons, ← List.append_assoc, ← List.length_append, List.drop_left] at hb; exact hb, hbt⟩) ?_ w h
      refine both ?_ (by simp [chg])
      simp only [encs_append, encs_one, encs_cons, encs_nil, List.length_append, List.length_nil]
      omega
  by_cases k4 : k = 4
  · subst k4
    by_cases hA : A = []
    · subst hA
      refine of_fn 4 cc 2 78 rfl rfl Tryd.call78 [] B rfl hpr (fun W hW => (left_c W hW h0 (by simp [encs_nil, aheadV])).mono fun e w' ⟨he, hb, hbt⟩ => ⟨he, by simpa [encs_nil, aheadV] using hb, hbt⟩) ?_ w h
      simp [chg, encs_nil]
    · obtain ⟨A', x, rfl⟩ := snoc_of hA
      have hq := aheadV_snoc A' x B (by simpa using hfine)
      have hx := (enc_length x).1
      refine of_fn 4 cc 2 78 rfl rfl Tryd.call78 A' (x :: B) (by simp [keyE]) (fun y hy => hpr y (by simp at hy ⊢; rcases hy with hy | hy | hy <;> simp [hy])) (fun W hW => (left_c W hW h0 (by rw [hq, encs_append, List.length_append, List.length_append]; omega)).mono fun e w' ⟨he, hb, hbt⟩ => ⟨he, by rw [hq] at hb; rw [encs_append, encs_one, List.append_assoc] at hb; rw [encs_cons]; exact hb, hbt⟩) ?_ w h
      refine both ?_ (by simp [chg])
      simp only [encs_append, encs_one, encs_cons, encs_nil, List.length_append, List.length_nil]
      omega
  by_cases k5 : k = 5
  · subst k5
    cases B with
    | nil =>
      refine of_fn 5 cc 3 79 rfl rfl Tryd.call79 A [] (by simp [keyE]) hpr (fun W hW => (right_c W hW _ (behindV_nil A) (by simp [encs_nil]))) ?_ w h
      simp [chg]
    | cons x B =>
      have hx := (enc_length x).1
      refine of_fn 5 cc 3 79 rfl rfl Tryd.call79 (A ++ [x]) B (by simp [keyE]) (fun y hy => hpr y (by simp at hy ⊢; rcases hy with hy | hy | hy <;> simp [hy])) (fun W hW => (right_c W hW _ (behindV_cons A x B hfine) (by rw [encs_cons, List.length_append, List.length_append]; omega)).mono fun e w' ⟨he, hb, hbt⟩ => ⟨he, by rw [encs_append, encs_one, List.length_append, List.append_assoc]; rw [encs_cons] at hb; exact hb, hbt⟩) ?_ w h
      refine both ?_ (by simp [chg])
      simp only [encs_append, encs_one, encs_cons, encs_nil, List.length_append, List.length_nil]
      omega
  by_cases k6 : k = 6
  · subst k6
    refine of_fn 6 cc 4 80 rfl rfl Tryd.call80 [] (A ++ B) rfl hpr (fun W hW => (home_c W hW).mono fun e w' ⟨he, hb, hbt⟩ => ⟨he, by rw [encs_append, encs_nil, List.nil_append]; exact hb, hbt⟩) ?_ w h
    rw [encs_append, encs_nil]
    cases A with
    | nil => simp [chg, encs_nil]
    | cons y A =>
      have := encs_pos (A := y :: A) (by simp)
      refine both ?_ (by simp [chg])
      simp only [List.length_append, List.length_nil]
      omega
  by_cases k7 : k = 7
  · subst k7
    refine of_fn 7 cc 5 81 rfl rfl Tryd.call81 (A ++ B) [] rfl (by simpa using hpr) (fun W hW => (last_c W hW).mono fun e w' ⟨he, hb, hbt⟩ => ⟨he, by rw [encs_append, encs_nil, List.append_nil]; exact hb, hbt⟩) ?_ w h
    rw [encs_append, encs_nil]
    cases B with
    | nil => simp [chg, encs_nil]
    | cons y B =>
      have := encs_pos (A := y :: B) (by simp)
      refine both ?_ (by simp [chg])
      simp only [List.length_append, List.length_nil]
      omega
  by_cases k8 : k = 8
  · subst k8
    refine of_fn 8 cc 6 82 rfl rfl Tryd.call82 [] B rfl (fun y hy => hpr y (by simp at hy ⊢; simp [hy])) (fun W hW => (killStart_c W hW).mono fun e w' ⟨he, hb, hbt⟩ => ⟨he, by rw [List.drop_left] at hb; simpa [encs_nil] using hb, hbt⟩) ?_ w h
    cases A with
    | nil => simp [chg, encs_nil]
    | cons y A =>
      have := encs_pos (A := y :: A) (by simp)
      rw [encs_nil]
      refine both ?_ (by simp [chg])
      simp only [List.length_append, List.length_nil]
      omega
  by_cases k9 : k = 9
  · subst k9
    refine of_fn 9 cc 7 83 rfl rfl Tryd.call83 A [] rfl (fun y hy => hpr y (by simp at hy ⊢; simp [hy])) (fun W hW => (killEnd_c W hW).mono fun e w' ⟨he, hb, hbt⟩ => ⟨he, by rw [List.take_left] at hb; simpa [encs_nil] using hb, hbt⟩) ?_ w h
    cases B with
    | nil => simp [chg, encs_nil]
    | cons y B =>
      have := encs_pos (A := y :: B) (by simp)
      rw [encs_nil]
      refine both ?_ (by simp [chg])
      simp only [List.length_append, List.length_nil]
      omega
  · have hR : keyE k A B = (A, B) := by unfold keyE; rw [if_neg k2, if_neg k3, if_neg k4, if_neg k5, if_neg k6, if_neg k7, if_neg k8, if_neg k9]
    rw [hR]
    have hn : Instr.findNow (.int .i64) (.int .i64 k) tbl.toList 0 = some none := by
      have e : ∀ m : Int, k ≠ m → (k == m) = false := fun m hm => by simpa using hm
      simp [tbl, Instr.findNow, Instr.sameNow, e 2 k2, e 3 k3, e 4 k4, e 5 k5, e 6 k6, e 7 k7, e 8 k8, e 9 k9]
    refine (do_other k cc hn (by simpa using hk) w h.buf).mono fun e w' ⟨he, hb⟩ => ⟨?_, h.but (But.of_below (S := []) hb) (by simp) (by simp) (by simp), But.of_below hb⟩
    rw [he]
    simp [chg]
end

end Go.Proofs.YtbkpnffgihjikaaDoor.Edit

/- Do of any key; a buffer's text; an arena and a buffer in it. -/
set_option linter.unusedVariables false
namespace Go.Proofs.YtbkpnffgihjikaaDoor.Edit
open Go.RowKit Go.Lib Go.Shelf ChangeShapes Mem Utf UtfP

/-- a character that is typed: the error, what stands ahead of the place -/
def runeE (N : Nat) (cc : Int) (A B : List Int) : Int × List Int :=
  if printC cc then (if (encs A ++ encs B).length + (enc cc).length ≤ N then (0, A ++ [cc]) else (4, A)) else (2, A)

section
variable {b a c N : Nat} {A B : List Int}

theorem put_any (cc : Int) (w : World) (h : Ed w b a c N A B) :
    Calls Tryd.prog 40 #[.pointer (some ⟨b, 0, none⟩), .int .i64 cc] w fun e w' => e = .returned (.int .i64 (runeE N cc A B).1) ∧ Ed w' b a c N (runeE N cc A B).2 B ∧ But [b, a, c] w w' := by
  unfold runeE
  cases hp : printC cc
  · exact (putB_bad cc hp w).mono fun e w' ⟨he, hb⟩ => ⟨by rw [he]; rfl, h.but (But.of_below (S := []) hb) (by simp) (by simp) (by simp), But.of_below hb⟩
  · by_cases hl : (encs A ++ encs B).length + (enc cc).length ≤ N
    · rw [if_pos rfl, if_pos hl]
      refine (putB cc hp w h.buf 0 (encs (A ++ [cc]) ++ encs B) (encs (A ++ [cc])).length (Or.inl ⟨hl, rfl, ?_, ?_⟩)).mono fun e w' ⟨he, hb, hbt⟩ => ⟨he, ⟨hb, ?_⟩, hbt⟩
      · rw [List.take_left, List.drop_left, encs_append, encs_one, List.append_assoc]
      · rw [encs_append, encs_one, List.length_append]
      · intro y hy
        simp at hy
        rcases hy with hy | rfl | hy
        · exact h.pr y (by simp [hy])
        · exact hp
        · exact h.pr y (by simp [hy])
    · rw [if_pos rfl, if_neg hl]
      exact (putB cc hp w h.buf 4 _ _ (Or.inr ⟨by omega, rfl, rfl, rfl⟩)).mono fun e w' ⟨he, hb, hbt⟩ => ⟨he, ⟨hb, h.pr⟩, hbt⟩

theorem do_rune (cc : Int) (w : World) (h : Ed w b a c N A B) :
    Calls Tryd.prog 34 #[.pointer (some ⟨b, 0, none⟩), .agg #[.int .i64 0, .int .i64 cc]] w fun e w' => e = .returned (.tuple #[.bool ((runeE N cc A B).1 == 0), .int .i64 (runeE N cc A B).1]) ∧ Ed w' b a c N (runeE N cc A B).2 B ∧ But [b, a, c] w w' := by
  have hw : Below w.heap.size w (w.alloc (.cells #[.int .i64 0, .int .i64 cc] 52)) := (Below.refl _ _).alloc (Nat.le_refl _) _
  have H1 := Lib.hid ((put_any cc _ (h.but (But.of_below (S := []) hw) (by simp) (by simp) (by simp))).mono (R' := fun e w' => e = .returned (.int .i64 (runeE N cc A B).1) ∧ Ed w' b a c N (runeE N cc A B).2 B ∧ But [b, a, c] w w') fun e w' ⟨he, hb, hbt⟩ => ⟨he, hb, (But.of_below hw).trans hbt⟩)
  obtain ⟨er, her⟩ : ∃ er, (runeE N cc A B).1 = er := ⟨_, rfl⟩
  obtain ⟨A', hA'⟩ : ∃ A', (runeE N cc A B).2 = A' := ⟨_, rfl⟩
  rw [her, hA'] at H1 ⊢
  clear her hA' h hw
  go_enter Tryd.func34, Tryd.ntmps34
  go_wp2_with (go_at_call 40; refine (H1.out).mono ?_; rintro e w1 ⟨rfl, hed, hbt⟩)
  go_ret2
  exact ⟨rfl, hed, hbt⟩

def doE (N : Nat) (k cc : Int) (A B : List Int) : List Int × List Int × Bool × Int :=
  if k = 0 then ((runeE N cc A B).2, B, (runeE N cc A B).1 == 0, (runeE N cc A B).1)
  else ((keyE k A B).1, (keyE k A B).2, chg A B (keyE k A B), 0)

theorem do_any (k cc : Int) (w : World) (h : Ed w b a c N A B) :
    Calls Tryd.prog 34 #[.pointer (some ⟨b, 0, none⟩), .agg #[.int .i64 k, .int .i64 cc]] w fun e w' => e = .returned (.tuple #[.bool (doE N k cc A B).2.2.1, .int .i64 (doE N k cc A B).2.2.2]) ∧ Ed w' b a c N (doE N k cc A B).1 (doE N k cc A B).2.1 ∧ But [b, a, c] w w' := by
  unfold doE
  by_cases hk : k = 0
  · subst hk
    simp only [if_true]
    exact do_rune cc w h
  · simp only [if_neg hk]
    exact do_keys k cc hk w h
end

theorem begin_c (n : Nat) (h1 : 1 ≤ n) (h2 : n ≤ 4096) (w : World) :
    Calls Tryd.prog 30 #[.int .i64 (n : Int)] w fun e w' => ∃ b a c, e = .returned (.tuple #[.pointer (some ⟨a, 0, none⟩), .pointer (some ⟨b, 0, none⟩)]) ∧ w.heap.size ≤ b ∧ w.heap.size ≤ a ∧ w.heap.size ≤ c ∧ Ed w' b a c n [] [] ∧ Below w.heap.size w w' := by
  have H1 := Lib.hid (new n h1 h2 w)
  clear h1 h2
  go_enter Tryd.func30, Tryd.ntmps30
  go_wp2_with fail
  refine (H1.out).mono ?_
  rintro e w1 ⟨rfl, har, hb1⟩
  have H2 := Lib.hid (newB w1 har)
  have HB1 := Lib.hid hb1
  clear har hb1
  go_wp2_with fail
  refine (H2.out).mono ?_
  rintro e w2 ⟨b, rfl, hbs, hbuf, hb2⟩
  have HBUF := Lib.hid hbuf
  have HB2 := Lib.hid hb2
  clear hbuf hb2
  go_wp2
  go_ret2
  exact ⟨b, _, _, rfl, Nat.le_trans HB1.out.size hbs, by omega, Nat.le_refl _, ⟨HBUF.out, by intro y hy; simp at hy⟩, HB1.out.trans (HB2.out.below HB1.out.size (by simp))⟩

set_option maxRecDepth 100000 in
set_option maxHeartbeats 1000000 in
theorem text_c {b a c N p : Nat} {t : List UInt8} (w : World) (h : Buf w b a c N t p) :
    Calls Tryd.prog 35 #[.pointer (some ⟨b, 0, none⟩)] w fun e w' => e = .returned (.string (strOf t)) ∧ Below w.heap.size w w' := by
  have H1 := Lib.hid (lenB w h)
  have hl : t.length ≤ 4096 := by have := h.ar.fit; have := h.ar.max; omega
  have H := Lib.hid h
  clear h
  obtain ⟨n, hn⟩ : ∃ n, t.length = n := ⟨_, rfl⟩
  have e1 : max (0 : Int) (min (n : Int) 4096) = (n : Int) := by omega
  have e2 : min (n : Int) 4096 = (n : Int) := by omega
  have e3 : max (0 : Int) (n : Int) = (n : Int) := by omega
  rw [hn] at H1 hl
  have HN := Lib.hid hn
  have hmk : ∀ W : World, (Instr.makeSlice 22 (.int .i64 (n : Int)) (.int .i64 (n : Int))).run Tryd.prog W = .ok (.slice (some ⟨W.heap.size, 0, none⟩) n n) (W.alloc (.cells (cellsB (List.replicate n 0)).toArray 5)) := fun W => make_bytes W n hl
  clear hn
  go_enter Tryd.func35, Tryd.ntmps35
  go_wp2_with (go_at_call 27; refine (H1.out).mono ?_; rintro e w1 ⟨rfl, hq⟩; obtain rfl := hq.symm)
  have hw1 : Below w.heap.size w (w.alloc (.cells (cellsB (List.replicate n 0)).toArray 5)) := (Below.refl _ _).alloc (Nat.le_refl _) _
  have hbuf1 : Buf (w.alloc (.cells (cellsB (List.replicate n 0)).toArray 5)) b a c N t p := H.out.but (But.of_below (S := []) hw1) (by simp) (by simp) (by simp)
  refine (copyB (some ⟨w.heap.size, 0, none⟩) n n w.heap.size 0 (cellsB (List.replicate n 0)) _ hbuf1 (Blk.new _ _ _).win (fun _ => rfl) (by rw [cellsB_length, List.length_replicate]; exact Nat.le_refl _)).mono ?_
  rintro e w2 ⟨rfl, hwin, hb2⟩
  rw [HN.out, Nat.min_self]
  have hst : splice (cellsB (List.replicate n 0)) 0 (cellsB (t.take n)) = cellsB t := by
    rw [List.take_of_length_le (by rw [HN.out]; exact Nat.le_refl _)]
    exact splice_all _ _ (by rw [cellsB_length, cellsB_length, HN.out, List.length_replicate])
  rw [hst] at hwin
  have hby : BytesAt w2 (some ⟨w.heap.size, 0, none⟩) t := by
    intro hne
    have h0 : 0 < t.length := List.length_pos_iff.2 hne
    refine ⟨w.heap.size, 0, rfl, ?_, fun j hj => hwin.cell j _ (cellsB_get t j hj)⟩
    have := World.block_lt_of_cell? _ _ (hwin.cell 0 _ (cellsB_get t 0 h0))
    exact this
  have hcv : (convert 22 9 (.slice (some ⟨w.heap.size, 0, none⟩) n n)).run Tryd.prog w2 = .ok (.string (strOf t)) w2 := by
    have := conv_str (cap := n) hby
    rw [HN.out] at this
    exact this
  have HB2 : Hid (Below w.heap.size w w2) := hw1.trans (hb2.below hw1.size (by simp))
  clear hwin hby hst hb2 hbuf1 hw1
  go_wp2
  go_ret
  exact ⟨rfl, HB2.out⟩

end Go.Proofs.YtbkpnffgihjikaaDoor.Edit

/- The document's example of a buffer, walked. -/
set_option linter.unusedVariables false
namespace Go.Proofs.YtbkpnffgihjikaaDoor.Edit
open Go.RowKit Go.Lib Go.Shelf ChangeShapes Mem Utf UtfP

/-- what there is behind so many of the example's keys -/
def stA : Nat → List Int × List Int
  | 0 => ([], [])
  | 1 => ([97], [])
  | 2 => ([97, 98], [])
  | 3 => ([97], [98])
  | 4 => ([97, 99], [98])
  | 5 => ([97], [98])
  | _ => ([97], [])
def keyA : Nat → Int × Int
  | 0 => (0, 97)
  | 1 => (0, 98)
  | 2 => (4, 0)
  | 3 => (0, 99)
  | 4 => (2, 0)
  | _ => (9, 0)
theorem stepA (j : Nat) (hj : j < 6) : doE 10 (keyA j).1 (keyA j).2 (stA j).1 (stA j).2 = ((stA (j + 1)).1, (stA (j + 1)).2, true, 0) := by
  match j, hj with
  | 0, _ => decide
  | 1, _ => decide
  | 2, _ => decide
  | 3, _ => decide
  | 4, _ => decide
  | 5, _ => decide

def keysC : Array Value := #[.int .i64 0, .int .i64 97, .int .i64 0, .int .i64 98, .int .i64 4, .int .i64 0, .int .i64 0, .int .i64 99, .int .i64 2, .int .i64 0, .int .i64 9, .int .i64 0]
theorem keysC_at (j : Nat) (hj : j < 6) : keysC[2 * j]? = some (.int .i64 (keyA j).1) ∧ keysC[2 * j + 1]? = some (.int .i64 (keyA j).2) := by
  match j, hj with
  | 0, _ => exact ⟨rfl, rfl⟩
  | 1, _ => exact ⟨rfl, rfl⟩
  | 2, _ => exact ⟨rfl, rfl⟩
  | 3, _ => exact ⟨rfl, rfl⟩
  | 4, _ => exact ⟨rfl, rfl⟩
  | 5, _ => exact ⟨rfl, rfl⟩

def RA (w : World) (b a c g : Nat) (i : Value) (wr : World) : Prop :=
  ∃ j : Nat, i = .int .i64 (j : Int) ∧ j ≤ 6 ∧ Ed wr b a c 10 (stA j).1 (stA j).2 ∧ Blk wr g keysC 52 ∧ Below w.heap.size w wr

attribute [local go_sem] strOf_toList
set_option maxRecDepth 200000 in
set_option maxHeartbeats 4000000 in
theorem alive (w : World) : Calls Tryd.prog 31 #[] w fun e w' => e = .returned (.bool true) ∧ Below w.heap.size w w' := by
  have H1 := Lib.hid (begin_c 10 (by decide) (by decide) w)
  go_enter Tryd.func31, Tryd.ntmps31
  go_wp2_with fail
  refine (H1.out).mono ?_
  rintro e w1 ⟨b, a, c, rfl, hlb, hla, hlc, hed, hb1⟩
  have hlt1 := hed.buf.head.lt
  have hlt2 := hed.buf.ar.head.lt
  have hlt3 := hed.buf.ar.body.lt
  have HED := Lib.hid hed
  have HW1 := Lib.hid hb1
  have HL := Lib.hid (show w.heap.size ≤ b ∧ w.heap.size ≤ a ∧ w.heap.size ≤ c from ⟨hlb, hla, hlc⟩)
  have HLT := Lib.hid (show b < w1.heap.size ∧ a < w1.heap.size ∧ c < w1.heap.size from ⟨hlt1, hlt2, hlt3⟩)
  clear hed hb1 hlb hla hlc hlt1 hlt2 hlt3
  obtain ⟨g, hg⟩ : ∃ g, g = w1.heap.size := ⟨_, rfl⟩
  have HG := Lib.hid hg
  clear hg
  go_wp2
  rw [← HG.out]
  go_loopw [21] (fun i wr => RA w b a c g i wr) (fun i _ => 6 - (RowKit.intOf i).toNat)
  case atStart =>
    refine ⟨0, rfl, by omega, HED.out.but (But.of_below (S := []) ((Below.refl _ _).alloc (Nat.le_refl _) _)) (by simp) (by simp) (by simp), ?_, HW1.out.alloc HW1.out.size _⟩
    rw [HG.out]
    exact Blk.new _ _ _
  case round =>
    obtain ⟨j, rfl, hj, hed, hblk, hbw⟩ := hrel
    by_cases hlt : j < 6
    · have k0 : (j : Int) < 6 := by omega
      obtain ⟨hk1, hk2⟩ := keysC_at j hlt
      have q0 := hblk.cell hk1
      have q1 := hblk.cell hk2
      have hst := stepA j hlt
      generalize (keyA j).1 = kk at *
      generalize (keyA j).2 = kc at *
      have q0' : wr.cell? ⟨g, j * 2, none⟩ = some (.int .i64 kk) := by rw [Nat.mul_comm]; exact q0
      have q1' : wr.cell? ⟨g, j * 2 + 1, none⟩ = some (.int .i64 kc) := by rw [Nat.mul_comm]; exact q1
      have HBLK := Lib.hid hblk
      have HEDJ := Lib.hid hed
      have HBW := Lib.hid hbw
      have HST := Lib.hid hst
      clear hk1 hk2 hblk hed hbw hst
      go_wp2_with fail
      have hwa : Below wr.heap.size wr (wr.alloc (.cells #[.int .i64 kk, .int .i64 kc] 52)) := (Below.refl _ _).alloc (Nat.le_refl _) _
      refine (do_any kk kc _ (HEDJ.out.but (But.of_below (S := []) hwa) (by simp) (by simp) (by simp))).mono ?_
      rw [HST.out]
      rintro e w4 ⟨rfl, hed4, hb4⟩
      have HED4 := Lib.hid hed4
      have HBLK4 : Hid (Blk w4 g keysC 52) := (HBLK.out.alloc _).but hb4 (by have := HLT.out; have := HG.out; simp; omega)
      have HW4 : Hid (Below w.heap.size w w4) := (HBW.out.trans (hwa.mono HBW.out.size)).trans (hb4.below ((HBW.out.trans (hwa.mono HBW.out.size)).size) (by have := HL.out; simp; omega))
      clear hed4 hb4 hwa
      go_wp2
      go_roundw
      case rel => exact ⟨j + 1, by go_num, by omega, HED4.out, HBLK4.out, HW4.out⟩
      case measure => simp [RowKit.intOf]; omega
    · have hge : decide ((j : Int) < 6) = false := by simp; omega
      have hge' : decide (j < 6) = false := by simp; omega
      obtain rfl : j = 6 := by omega
      have hE : Ed wr b a c 10 [97] [] := hed
      have HT := Lib.hid (text_c wr hE.buf)
      have HA := fun (W : World) (h : Ed W b a c 10 [97] []) => atB W h.buf
      have HC := fun (W : World) (h : Ed W b a c 10 [97] []) => count_c W h.buf
      rw [show countB (encs [97] ++ encs []) (encs [97]).length = 1 by decide] at HA
      rw [show countB (encs [97] ++ encs []) (encs [97] ++ encs []).length = 1 by decide] at HC
      rw [show encs [97] ++ encs [] = [97] by decide] at HT
      have HED6 := Lib.hid hE
      have HA := Lib.hid HA
      have HC := Lib.hid HC
      have HBW := Lib.hid hbw
      clear hed hE hblk hbw hlt
      go_wp2_with fail
      refine (HT.out).mono ?_
      rintro e w5 ⟨rfl, hb5⟩
      have HED7 : Hid (Ed w5 b a c 10 [97] []) := HED6.out.but (But.of_below (S := []) hb5) (by simp) (by simp) (by simp)
      have HW5 : Hid (Below w.heap.size w w5) := HBW.out.trans (hb5.mono HBW.out.size)
      clear hb5
      go_wp2_with (first
        | (go_at_call 36; refine (HA.out _ HED7.out).mono ?_; rintro e w6 ⟨rfl, hq⟩; obtain rfl := hq.symm)
        | (go_at_call 33; refine (HC.out _ HED7.out).mono ?_; rintro e w6 ⟨rfl, hq⟩; obtain rfl := hq.symm))
      go_ret
      exact ⟨rfl, HW5.out⟩

end Go.Proofs.YtbkpnffgihjikaaDoor.Edit

/- A buffer by its characters: where it is, how many, its text, an insertion of any bytes. -/
set_option linter.unusedVariables false
namespace Go.Proofs.YtbkpnffgihjikaaDoor.Edit
open Go.RowKit Go.Lib Go.Shelf ChangeShapes Mem Utf UtfP

theorem encs_len (cs : List Int) : cs.length ≤ (encs cs).length := by
  induction cs with
  | nil => simp
  | cons x cs ih =>
    have := (enc_length x).1
    rw [encs_cons, List.length_append, List.length_cons]; omega

/-- the characters of a text that is fine -/
noncomputable def charsOf (l : List UInt8) : List Int := open Classical in if h : ∃ cs, l = encs cs ∧ AllPrint cs then h.choose else []
theorem charsOf_spec {l : List UInt8} (hf : fineT l = true) : l = encs (charsOf l) ∧ AllPrint (charsOf l) := by
  have h : ∃ cs, l = encs cs ∧ AllPrint cs := encs_of_fine _ l (Nat.le_refl _) hf
  unfold charsOf
  rw [dif_pos h]
  exact h.choose_spec

section
variable {b a c N : Nat} {A B : List Int}

theorem at_e (w : World) (h : Ed w b a c N A B) : Calls Tryd.prog 36 #[.pointer (some ⟨b, 0, none⟩)] w fun e w' => e = .returned (.int .i64 (A.length : Int)) ∧ w' = w := by
  have := atB w h.buf
  rw [countB_encs _ A B rfl h.pr.fine] at this
  exact this

theorem count_e (w : World) (h : Ed w b a c N A B) : Calls Tryd.prog 33 #[.pointer (some ⟨b, 0, none⟩)] w fun e w' => e = .returned (.int .i64 ((A.length + B.length : Nat) : Int)) ∧ w' = w := by
  have := count_c w h.buf
  have e : countB (encs A ++ encs B) (encs A ++ encs B).length = A.length + B.length := by
    have h2 := countB_encs _ (A ++ B) [] rfl (by rw [List.append_nil]; exact h.pr.fine)
    rw [encs_nil, List.append_nil, encs_append, (List.length_append : (A ++ B).length = _)] at h2
    exact h2
  rw [e] at this
  exact this

theorem len_e (w : World) (h : Ed w b a c N A B) : Calls Tryd.prog 27 #[.pointer (some ⟨b, 0, none⟩)] w fun e w' => e = .returned (.int .i64 (((encs A ++ encs B).length : Nat) : Int)) ∧ w' = w := lenB w h.buf

theorem text_e (w : World) (h : Ed w b a c N A B) : Calls Tryd.prog 35 #[.pointer (some ⟨b, 0, none⟩)] w fun e w' => e = .returned (.string (strOf (encs A ++ encs B))) ∧ Below w.heap.size w w' := text_c w h.buf

theorem ins_e (Q : Option Addr) (l : List UInt8) (cap : Nat) (w : World) (hT : Tabs w) (h : Ed w b a c N A B) (hA : BytesAt w Q l) (hcap : l.length ≤ cap) (hm : l.length ≤ 140737488355328) (hc : ∀ ad, Q = some ad → l ≠ [] → ad.block ≠ c) :
    Calls Tryd.prog 32 #[.pointer (some ⟨b, 0, none⟩), .slice Q l.length cap] w fun e w' => ∃ er A', e = .returned (.int .i64 er) ∧ Ed w' b a c N A' B ∧ But [b, a, c] w w' ∧
      ((fineT l = false ∧ er = 8 ∧ A' = A) ∨ (fineT l = true ∧ N < (encs A ++ encs B).length + l.length ∧ er = 4 ∧ A' = A) ∨ (fineT l = true ∧ (encs A ++ encs B).length + l.length ≤ N ∧ er = 0 ∧ A' = A ++ charsOf l)) := by
  cases hf : fineT l
  · exact (insB_bad (b := b) Q l cap w hT hA hcap hm hf).mono fun e w' ⟨he, hb⟩ => ⟨8, A, he, h.but (But.of_below (S := []) hb) (by simp) (by simp) (by simp), But.of_below hb, Or.inl ⟨rfl, rfl, rfl⟩⟩
  · by_cases hl : (encs A ++ encs B).length + l.length ≤ N
    · obtain ⟨hcs, hpr⟩ := charsOf_spec hf
      refine (insB_ok Q l cap w hT h.buf hA hcap hm hf hl hc).mono fun e w' ⟨he, hb, hbt⟩ => ⟨0, A ++ charsOf l, he, ⟨?_, ?_⟩, hbt, Or.inr (Or.inr ⟨rfl, hl, rfl, rfl⟩)⟩
      · rw [List.take_left, List.drop_left] at hb
        rw [encs_append, List.length_append, List.append_assoc, ← hcs]
        exact hb
      · intro y hy
        simp at hy
        rcases hy with hy | hy | hy
        · exact h.pr y (by simp [hy])
        · exact hpr y hy
        · exact h.pr y (by simp [hy])
    · exact (insB_full Q l cap w hT h.buf hA hcap hm hf (by omega)).mono fun e w' ⟨he, hb⟩ => ⟨4, A, he, h.but (But.of_below (S := []) hb) (by simp) (by simp) (by simp), But.of_below hb, Or.inr (Or.inl ⟨rfl, by omega, rfl, rfl⟩)⟩
end

end Go.Proofs.YtbkpnffgihjikaaDoor.Edit

/- An arena's cells asked: zero, Zero, Clean. -/
set_option linter.unusedVariables false
namespace Go.Proofs.YtbkpnffgihjikaaDoor.Edit
open Go.RowKit Go.Lib Go.Shelf ChangeShapes Mem Utf UtfP

def allZ (l : List UInt8) : Bool := decide (∀ j, j < l.length → bt l j = 0)

theorem allZ_replicate (n : Nat) : allZ (List.replicate n 0) = true := by
  unfold allZ
  rw [decide_eq_true_iff]
  intro j hj
  unfold bt
  rw [List.length_replicate] at hj
  simp [List.getD_eq_getElem?_getD, hj]
theorem allZ_pad (t : List UInt8) (n : Nat) : allZ (t ++ List.replicate n 0) = allZ t := by
  have h0 := allZ_replicate n
  unfold allZ at h0 ⊢
  rw [decide_eq_true_iff] at h0
  rw [decide_eq_decide]
  constructor
  · intro h j hj
    rw [← bt_append_left hj (m := List.replicate n 0)]
    exact h j (by rw [List.length_append]; omega)
  · intro h j hj
    by_cases hjl : j < t.length
    · rw [bt_append_left hjl]; exact h j hjl
    · rw [bt_append_right (by omega)]
      exact h0 _ (by rw [List.length_append] at hj; omega)

set_option maxHeartbeats 1000000 in
theorem zero_c (l : List UInt8) (A : Option Addr) (cap : Nat) (w : World) (hA : BytesAt w A l) (hm : l.length ≤ 140737488355328) :
    Calls Tryd.prog 63 #[.slice A l.length cap] w fun e w' => e = .returned (.bool (allZ l)) ∧ w' = w := by
  have HA := Lib.hid hA
  clear hA
  obtain ⟨R, hR⟩ : ∃ R, allZ l = R := ⟨_, rfl⟩
  rw [hR]
  have HR := Lib.hid hR
  clear hR
  go_enter Tryd.func63, Tryd.ntmps63
  go_wp2
  go_loop [7] (fun i => ∃ j : Nat, i = .int .i64 (j : Int) ∧ j ≤ l.length ∧ Hid (∀ i, i < j → bt l i = 0)) (fun i => l.length - (RowKit.intOf i).toNat)
  case atStart => exact ⟨0, rfl, by omega, fun i h => absurd h (Nat.not_lt_zero _)⟩
  case round =>
    obtain ⟨j, rfl, hj, HJ⟩ := hrel
    by_cases hlt : j < l.length
    · have k0 : (j : Int) < (l.length : Int) := by omega
      obtain ⟨g, off, rfl, hg, hc⟩ := HA.out (List.length_pos_iff.1 (by omega : 0 < l.length))
      have q0 := hc j hlt
      clear hc hg
      obtain ⟨x, hx⟩ : ∃ x, bt l j = x := ⟨_, rfl⟩
      rw [hx] at q0
      have HX := Lib.hid hx
      clear hx
      by_cases hz : x = 0
      · subst hz
        go_wp2
        go_round
        case rel =>
          refine ⟨j + 1, by go_num, by omega, fun i hi => ?_⟩
          by_cases e : i = j
          · subst e; exact HX.out
          · exact HJ.out i (by omega)
        case measure => simp [RowKit.intOf]; omega
      · have k2 : ((x : Int) != 0) = true := by rw [bne_iff_ne]; omega
        go_wp2
        go_ret
        refine ⟨?_, rfl⟩
        have : allZ l = false := by
          unfold allZ
          rw [decide_eq_false_iff_not]
          intro h
          exact hz (by rw [← HX.out]; exact h j hlt)
        rw [← HR.out, this]; rfl
    · have hge : decide ((j : Int) < (l.length : Int)) = false := by simp; omega
      have hge' : decide (j < l.length) = false := by simp; omega
      have hjl : j = l.length := by omega
      have Hj := Lib.hid hjl
      clear hlt hjl
      go_wp2
      go_ret
      refine ⟨?_, rfl⟩
      have : allZ l = true := by
        unfold allZ
        rw [decide_eq_true_iff, ← Hj.out]
        exact HJ.out
      rw [← HR.out, this]; rfl

theorem cells_bytes {w : World} {c : Nat} {l : List UInt8} (h : Blk w c (cellsB l).toArray 5) (k : Nat) : BytesAt w (some ⟨c, k, none⟩) (l.drop k) := by
  intro hne
  refine ⟨c, k, rfl, h.lt, fun j hj => ?_⟩
  rw [List.length_drop] at hj
  have := cellsB_get l (k + j) (by omega)
  rw [h.cell (j := k + j) (v := .int .u8 ((l.getD (k + j) 0).toNat : Int)) (by simpa using this)]
  unfold bt
  rw [List.getD_eq_getElem?_getD, List.getD_eq_getElem?_getD, List.getElem?_drop]

theorem zeroA {a c N : Nat} {t : List UInt8} (w : World) (h : Ar w a c N t) :
    Calls Tryd.prog 25 #[.pointer (some ⟨a, 0, none⟩)] w fun e w' => e = .returned (.bool (allZ t)) ∧ w' = w := by
  have c0 := h.head.cell (j := 0) (v := .slice (some ⟨c, 0, none⟩) N N) rfl
  have hl : (t ++ List.replicate (N - t.length) (0 : UInt8)).length = N := by have := h.fit; simp; omega
  have hb := cells_bytes h.body 0
  rw [List.drop_zero] at hb
  have H1 := zero_c _ _ N w hb (by rw [hl]; have := h.max; omega)
  rw [hl, allZ_pad] at H1
  have H1 := Lib.hid H1
  clear hl hb h
  go_enter Tryd.func25, Tryd.ntmps25
  go_wp2_with (go_at_call 63; refine (H1.out).mono ?_; rintro e w1 ⟨rfl, hq⟩; obtain rfl := hq.symm)
  go_ret
  exact ⟨rfl, rfl⟩

set_option maxHeartbeats 1000000 in
theorem cleanA {a c N : Nat} {t : List UInt8} (w : World) (h : Ar w a c N t) :
    Calls Tryd.prog 46 #[.pointer (some ⟨a, 0, none⟩)] w fun e w' => e = .returned (.bool true) ∧ ∃ n, w' = w.drewN n := by
  have c0 := h.head.cell (j := 0) (v := .slice (some ⟨c, 0, none⟩) N N) rfl
  have c1 := h.head.cell (j := 1) (v := .int .i64 (t.length : Int)) rfl
  have htN : (t.length : Int) ≤ (N : Int) := by have := h.fit; omega
  have htn := h.fit
  have hb := cells_bytes h.body t.length
  have hmx := h.max
  rw [List.drop_left] at hb
  have HZ : Hid (∀ n A' m cap, A' = (if N = t.length then (some ⟨c, 0, none⟩ : Option Addr) else some ⟨c, t.length, none⟩) → m = N - t.length → Calls Tryd.prog 63 #[.slice A' m cap] (w.drewN n) fun e w' => e = .returned (.bool true) ∧ w' = w.drewN n) := by
    intro n A' m cap hA' hm
    have hb' : BytesAt (w.drewN n) A' (List.replicate m 0) := by
      intro hne
      rw [hA', if_neg (by intro e; rw [hm, e, Nat.sub_self] at hne; exact hne rfl)]
      rw [hm] at hne ⊢
      exact hb hne
    have := zero_c (List.replicate m 0) A' cap (w.drewN n) hb' (by rw [List.length_replicate]; omega)
    rw [List.length_replicate, allZ_replicate] at this
    exact this
  clear hb h hmx
  go_enter Tryd.func46, Tryd.ntmps46
  go_wp2
  go_quiet ((go_at_call 63; exact Calls.quiet_of_same (HZ.out _ _ _ _ rfl rfl)))
  go_wp2
  all_goals
    go_ret
    exact ⟨rfl, _, rfl⟩

theorem new_ex (n : Nat) (h1 : 1 ≤ n) (h2 : n ≤ 4096) (w : World) : Calls Tryd.prog 22 #[.int .i64 (n : Int)] w fun e w' => ∃ a c, e = .returned (.tuple #[.pointer (some ⟨a, 0, none⟩), .int .i64 0]) ∧ w.heap.size ≤ a ∧ w.heap.size ≤ c ∧ Ar w' a c n [] ∧ Below w.heap.size w w' :=
  (new n h1 h2 w).mono fun e w' ⟨he, h, hb⟩ => ⟨_, _, he, by omega, Nat.le_refl _, h, hb⟩

theorem cell_pad {a c N : Nat} {t : List UInt8} (i : Nat) (w : World) (h : Ar w a c N t) (hi : t.length ≤ i) (hN : i < N) :
    Calls Tryd.prog 51 #[.pointer (some ⟨a, 0, none⟩), .int .i64 (i : Int)] w fun e w' => e = .returned (.tuple #[.int .u8 0, .int .i64 0]) ∧ w' = w := by
  have c0 := h.head.cell (j := 0) (v := .slice (some ⟨c, 0, none⟩) N N) rfl
  have hl : i < (t ++ List.replicate (N - t.length) (0 : UInt8)).length := by rw [List.length_append, List.length_replicate]; omega
  have cv : w.cell? ⟨c, i, none⟩ = some (.int .u8 0) := by
    have := h.body.cell (j := i) (v := .int .u8 (((t ++ List.replicate (N - t.length) (0 : UInt8)).getD i 0).toNat : Int)) (by simpa using cellsB_get _ i hl)
    rw [this]
    rw [List.getD_eq_getElem?_getD, List.getElem?_append_right hi, List.getElem?_replicate_of_lt (by omega)]
    rfl
  have k0 : (i : Int) < (N : Int) := by omega
  have k1 : decide ((N : Int) ≤ (i : Int)) = false := by simp; omega
  clear h hi hl hN
  go_enter Tryd.func51, Tryd.ntmps51
  go_wp2
  go_ret2
  exact ⟨rfl, rfl⟩

theorem clear_nil (w : World) : Calls Tryd.prog 43 #[.pointer none] w fun e w' => e = .returned (.tuple #[]) ∧ w' = w := by
  go_enter Tryd.func43, Tryd.ntmps43
  go_wp2
  go_end0
  exact ⟨rfl, rfl⟩

theorem clearB {b a c N p : Nat} {t : List UInt8} (w : World) (h : Buf w b a c N t p) :
    Calls Tryd.prog 43 #[.pointer (some ⟨b, 0, none⟩)] w fun e w' => e = .returned (.tuple #[]) ∧ Buf w' b a c N [] 0 ∧ But [b, a, c] w w' := by
  have H := Lib.hid h
  have c0 := h.head.cell (j := 0) (v := .pointer (some ⟨a, 0, none⟩)) rfl
  have H1 := Lib.hid (wipe w h.ar)
  clear h
  go_enter Tryd.func43, Tryd.ntmps43
  go_wp2_with (go_at_call 60; refine (H1.out).mono ?_; rintro e w1 ⟨rfl, har, hb1⟩; have hh1 := H.out.head.but hb1 (by simp; exact ⟨H.out.ba, H.out.bc⟩); have g1 := hh1.cell (j := 1) (v := .int .i64 (p : Int)) rfl; have gf := hh1.free 1; have HH1 := Lib.hid hh1; have HAR := Lib.hid har; have HB1 := Lib.hid hb1; clear hh1 har hb1)
  go_end0
  exact ⟨rfl, ⟨Blk.set HH1.out 1 _, Ar.but HAR.out (But.set (S := [b]) (But.refl _ _) (Or.inl (by simp)) _) (by simp; exact fun e => H.out.ba e.symm) (by simp; exact fun e => H.out.bc e.symm), H.out.ba, H.out.bc, by simp⟩, (HB1.out.mono (by simp)).set (Or.inl (by simp)) _⟩

end Go.Proofs.YtbkpnffgihjikaaDoor.Edit

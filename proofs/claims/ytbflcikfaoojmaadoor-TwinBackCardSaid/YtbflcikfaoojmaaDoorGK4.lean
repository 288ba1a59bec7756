/- Texts joined: Kd4; Kd7; Kd10. -/
import Derived.Test.YtbflcikfaoojmaaDoorGK1
import Derived.Test.YtbflcikfaoojmaaDoorGR
import Derived.Test.YtbflcikfaoojmaaDoorHKd8
/- The document's key of a character. -/
set_option linter.unusedVariables false
set_option linter.unusedSimpArgs false
namespace Go.Proofs.YtbflcikfaoojmaaDoor.Edit
open Go.RowKit Go.Lib Go.Shelf ChangeShapes Mem Utf UtfP

/-- the kind of a control character -/
def kindOf (c : Int) : Int :=
  if c = 13 then 1 else
  if c = 10 then 1 else
  if c = 8 then 2 else
  if c = 127 then 2 else
  if c = 2 then 4 else
  if c = 6 then 5 else
  if c = 1 then 6 else
  if c = 5 then 7 else
  if c = 21 then 8 else
  if c = 11 then 9 else
  if c = 12 then 10 else
  if c = 3 then 11 else
  if c = 4 then 12 else
  15
/-- the key of a character -/
def keyOf (c : Int) : Int × Int := if printC c then (0, c) else (kindOf c, 0)

theorem kindOf_13 : kindOf 13 = 1 := rfl
theorem kindOf_10 : kindOf 10 = 1 := rfl
theorem kindOf_8 : kindOf 8 = 2 := rfl
theorem kindOf_127 : kindOf 127 = 2 := rfl
theorem kindOf_2 : kindOf 2 = 4 := rfl
theorem kindOf_6 : kindOf 6 = 5 := rfl
theorem kindOf_1 : kindOf 1 = 6 := rfl
theorem kindOf_5 : kindOf 5 = 7 := rfl
theorem kindOf_21 : kindOf 21 = 8 := rfl
theorem kindOf_11 : kindOf 11 = 9 := rfl
theorem kindOf_12 : kindOf 12 = 10 := rfl
theorem kindOf_3 : kindOf 3 = 11 := rfl
theorem kindOf_4 : kindOf 4 = 12 := rfl

set_option maxHeartbeats 2000000 in
theorem refOf (c : Int) (w : World) : Calls Tryd.prog 47 #[.int .i64 c] w fun e w' => e = .returned (.agg #[.int .i64 (keyOf c).1, .int .i64 (keyOf c).2]) ∧ Below w.heap.size w w' := by
  have H0 := fun W => refPrintable c W
  cases hp : printC c
  · rw [hp] at H0
    have hk : keyOf c = (kindOf c, 0) := by unfold keyOf; rw [hp]; rfl
    rw [hk]
    clear hk hp
    by_cases h13 : c = 13
    · subst h13
      rw [kindOf_13]
      have H := Lib.hid H0
      clear H0
      go_enter Tryd.func47, Tryd.ntmps47
      go_wp2_with (go_at_call 10; (with_reducible refine (H.out _).mono ?_); rintro e w1 ⟨rfl, hq⟩; obtain rfl := hq)
      (try simp only [Exit.inBlock, Exit.then])
      refine bodyPost_ret (results_key rfl _ _ w.heap.size 62 _ _ rfl (Blk.new _ _ _) Tryd.underlying62 rfl (by kernel_rfl)) rfl ?_
      exact ⟨rfl, (Below.refl _ _).alloc (Nat.le_refl _) _⟩
    ·
      by_cases h10 : c = 10
      · subst h10
        rw [kindOf_10]
        have H := Lib.hid H0
        clear H0
        go_enter Tryd.func47, Tryd.ntmps47
        go_wp2_with (go_at_call 10; (with_reducible refine (H.out _).mono ?_); rintro e w1 ⟨rfl, hq⟩; obtain rfl := hq)
        (try simp only [Exit.inBlock, Exit.then])
        refine bodyPost_ret (results_key rfl _ _ w.heap.size 62 _ _ rfl (Blk.new _ _ _) Tryd.underlying62 rfl (by kernel_rfl)) rfl ?_
        exact ⟨rfl, (Below.refl _ _).alloc (Nat.le_refl _) _⟩
      ·
        by_cases h8 : c = 8
        · subst h8
          rw [kindOf_8]
          have H := Lib.hid H0
          clear H0
          go_enter Tryd.func47, Tryd.ntmps47
          go_wp2_with (go_at_call 10; (with_reducible refine (H.out _).mono ?_); rintro e w1 ⟨rfl, hq⟩; obtain rfl := hq)
          (try simp only [Exit.inBlock, Exit.then])
          refine bodyPost_ret (results_key rfl _ _ w.heap.size 62 _ _ rfl (Blk.new _ _ _) Tryd.underlying62 rfl (by kernel_rfl)) rfl ?_
          exact ⟨rfl, (Below.refl _ _).alloc (Nat.le_refl _) _⟩
        ·
          by_cases h127 : c = 127
          · subst h127
            rw [kindOf_127]
            have H := Lib.hid H0
            clear H0
            go_enter Tryd.func47, Tryd.ntmps47
            go_wp2_with (go_at_call 10; (with_reducible refine (H.out _).mono ?_); rintro e w1 ⟨rfl, hq⟩; obtain rfl := hq)
            (try simp only [Exit.inBlock, Exit.then])
            refine bodyPost_ret (results_key rfl _ _ w.heap.size 62 _ _ rfl (Blk.new _ _ _) Tryd.underlying62 rfl (by kernel_rfl)) rfl ?_
            exact ⟨rfl, (Below.refl _ _).alloc (Nat.le_refl _) _⟩
          ·
            by_cases h2 : c = 2
            · subst h2
              rw [kindOf_2]
              have H := Lib.hid H0
              clear H0
              go_enter Tryd.func47, Tryd.ntmps47
              go_wp2_with (go_at_call 10; (with_reducible refine (H.out _).mono ?_); rintro e w1 ⟨rfl, hq⟩; obtain rfl := hq)
              (try simp only [Exit.inBlock, Exit.then])
              refine bodyPost_ret (results_key rfl _ _ w.heap.size 62 _ _ rfl (Blk.new _ _ _) Tryd.underlying62 rfl (by kernel_rfl)) rfl ?_
              exact ⟨rfl, (Below.refl _ _).alloc (Nat.le_refl _) _⟩
            ·
              by_cases h6 : c = 6
              · subst h6
                rw [kindOf_6]
                have H := Lib.hid H0
                clear H0
                go_enter Tryd.func47, Tryd.ntmps47
                go_wp2_with (go_at_call 10; (with_reducible refine (H.out _).mono ?_); rintro e w1 ⟨rfl, hq⟩; obtain rfl := hq)
                (try simp only [Exit.inBlock, Exit.then])
                refine bodyPost_ret (results_key rfl _ _ w.heap.size 62 _ _ rfl (Blk.new _ _ _) Tryd.underlying62 rfl (by kernel_rfl)) rfl ?_
                exact ⟨rfl, (Below.refl _ _).alloc (Nat.le_refl _) _⟩
              ·
                by_cases h1 : c = 1
                · subst h1
                  rw [kindOf_1]
                  have H := Lib.hid H0
                  clear H0
                  go_enter Tryd.func47, Tryd.ntmps47
                  go_wp2_with (go_at_call 10; (with_reducible refine (H.out _).mono ?_); rintro e w1 ⟨rfl, hq⟩; obtain rfl := hq)
                  (try simp only [Exit.inBlock, Exit.then])
                  refine bodyPost_ret (results_key rfl _ _ w.heap.size 62 _ _ rfl (Blk.new _ _ _) Tryd.underlying62 rfl (by kernel_rfl)) rfl ?_
                  exact ⟨rfl, (Below.refl _ _).alloc (Nat.le_refl _) _⟩
                ·
                  by_cases h5 : c = 5
                  · subst h5
                    rw [kindOf_5]
                    have H := Lib.hid H0
                    clear H0
                    go_enter Tryd.func47, Tryd.ntmps47
                    go_wp2_with (go_at_call 10; (with_reducible refine (H.out _).mono ?_); rintro e w1 ⟨rfl, hq⟩; obtain rfl := hq)
                    (try simp only [Exit.inBlock, Exit.then])
                    refine bodyPost_ret (results_key rfl _ _ w.heap.size 62 _ _ rfl (Blk.new _ _ _) Tryd.underlying62 rfl (by kernel_rfl)) rfl ?_
                    exact ⟨rfl, (Below.refl _ _).alloc (Nat.le_refl _) _⟩
                  ·
                    by_cases h21 : c = 21
                    · subst h21
                      rw [kindOf_21]
                      have H := Lib.hid H0
                      clear H0
                      go_enter Tryd.func47, Tryd.ntmps47
                      go_wp2_with (go_at_call 10; (with_reducible refine (H.out _).mono ?_); rintro e w1 ⟨rfl, hq⟩; obtain rfl := hq)
                      (try simp only [Exit.inBlock, Exit.then])
                      refine bodyPost_ret (results_key rfl _ _ w.heap.size 62 _ _ rfl (Blk.new _ _ _) Tryd.underlying62 rfl (by kernel_rfl)) rfl ?_
                      exact ⟨rfl, (Below.refl _ _).alloc (Nat.le_refl _) _⟩
                    ·
                      by_cases h11 : c = 11
                      · subst h11
                        rw [kindOf_11]
                        have H := Lib.hid H0
                        clear H0
                        go_enter Tryd.func47, Tryd.ntmps47
                        go_wp2_with (go_at_call 10; (with_reducible refine (H.out _).mono ?_); rintro e w1 ⟨rfl, hq⟩; obtain rfl := hq)
                        (try simp only [Exit.inBlock, Exit.then])
                        refine bodyPost_ret (results_key rfl _ _ w.heap.size 62 _ _ rfl (Blk.new _ _ _) Tryd.underlying62 rfl (by kernel_rfl)) rfl ?_
                        exact ⟨rfl, (Below.refl _ _).alloc (Nat.le_refl _) _⟩
                      ·
                        by_cases h12 : c = 12
                        · subst h12
                          rw [kindOf_12]
                          have H := Lib.hid H0
                          clear H0
                          go_enter Tryd.func47, Tryd.ntmps47
                          go_wp2_with (go_at_call 10; (with_reducible refine (H.out _).mono ?_); rintro e w1 ⟨rfl, hq⟩; obtain rfl := hq)
                          (try simp only [Exit.inBlock, Exit.then])
                          refine bodyPost_ret (results_key rfl _ _ w.heap.size 62 _ _ rfl (Blk.new _ _ _) Tryd.underlying62 rfl (by kernel_rfl)) rfl ?_
                          exact ⟨rfl, (Below.refl _ _).alloc (Nat.le_refl _) _⟩
                        ·
                          by_cases h3 : c = 3
                          · subst h3
                            rw [kindOf_3]
                            have H := Lib.hid H0
                            clear H0
                            go_enter Tryd.func47, Tryd.ntmps47
                            go_wp2_with (go_at_call 10; (with_reducible refine (H.out _).mono ?_); rintro e w1 ⟨rfl, hq⟩; obtain rfl := hq)
                            (try simp only [Exit.inBlock, Exit.then])
                            refine bodyPost_ret (results_key rfl _ _ w.heap.size 62 _ _ rfl (Blk.new _ _ _) Tryd.underlying62 rfl (by kernel_rfl)) rfl ?_
                            exact ⟨rfl, (Below.refl _ _).alloc (Nat.le_refl _) _⟩
                          ·
                            by_cases h4 : c = 4
                            · subst h4
                              rw [kindOf_4]
                              have H := Lib.hid H0
                              clear H0
                              go_enter Tryd.func47, Tryd.ntmps47
                              go_wp2_with (go_at_call 10; (with_reducible refine (H.out _).mono ?_); rintro e w1 ⟨rfl, hq⟩; obtain rfl := hq)
                              (try simp only [Exit.inBlock, Exit.then])
                              refine bodyPost_ret (results_key rfl _ _ w.heap.size 62 _ _ rfl (Blk.new _ _ _) Tryd.underlying62 rfl (by kernel_rfl)) rfl ?_
                              exact ⟨rfl, (Below.refl _ _).alloc (Nat.le_refl _) _⟩
                            ·
                              have k13 : (c == 13) = false := by simpa using h13
                              have k10 : (c == 10) = false := by simpa using h10
                              have k8 : (c == 8) = false := by simpa using h8
                              have k127 : (c == 127) = false := by simpa using h127
                              have k2 : (c == 2) = false := by simpa using h2
                              have k6 : (c == 6) = false := by simpa using h6
                              have k1 : (c == 1) = false := by simpa using h1
                              have k5 : (c == 5) = false := by simpa using h5
                              have k21 : (c == 21) = false := by simpa using h21
                              have k11 : (c == 11) = false := by simpa using h11
                              have k12 : (c == 12) = false := by simpa using h12
                              have k3 : (c == 3) = false := by simpa using h3
                              have k4 : (c == 4) = false := by simpa using h4
                              have hz : kindOf c = 15 := by unfold kindOf; rw [if_neg h13]; rw [if_neg h10]; rw [if_neg h8]; rw [if_neg h127]; rw [if_neg h2]; rw [if_neg h6]; rw [if_neg h1]; rw [if_neg h5]; rw [if_neg h21]; rw [if_neg h11]; rw [if_neg h12]; rw [if_neg h3]; rw [if_neg h4]
                              rw [hz]
                              have H := Lib.hid H0
                              clear H0 hz h13 h10 h8 h127 h2 h6 h1 h5 h21 h11 h12 h3 h4
                              go_enter Tryd.func47, Tryd.ntmps47
                              go_wp2_with (go_at_call 10; (with_reducible refine (H.out _).mono ?_); rintro e w1 ⟨rfl, hq⟩; obtain rfl := hq)
                              (try simp only [Exit.inBlock, Exit.then])
                              refine bodyPost_ret (results_key rfl _ _ w.heap.size 62 _ _ rfl (Blk.new _ _ _) Tryd.underlying62 rfl (by kernel_rfl)) rfl ?_
                              exact ⟨rfl, (Below.refl _ _).alloc (Nat.le_refl _) _⟩
  · rw [hp] at H0
    have hk : keyOf c = (0, c) := by unfold keyOf; rw [hp]; rfl
    rw [hk]
    clear hk hp
    have H := Lib.hid H0
    clear H0
    go_enter Tryd.func47, Tryd.ntmps47
    go_wp2_with (go_at_call 10; (with_reducible refine (H.out _).mono ?_); rintro e w1 ⟨rfl, hq⟩; obtain rfl := hq)
    (try simp only [Exit.inBlock, Exit.then])
    refine bodyPost_ret (results_key rfl _ _ w.heap.size 62 _ _ rfl (Blk.new _ _ _) Tryd.underlying62 rfl (by kernel_rfl)) rfl ?_
    exact ⟨rfl, (Below.refl _ _).alloc (Nat.le_refl _) _⟩

end Go.Proofs.YtbflcikfaoojmaaDoor.Edit

/- A decoder of keys, walked: char (over what keys.Of answers). -/
set_option linter.unusedVariables false
set_option linter.unusedSimpArgs false
namespace Go.Proofs.YtbflcikfaoojmaaDoor.Edit
open Go.RowKit Go.Lib Go.Shelf ChangeShapes Mem Utf UtfP

section
variable {d a c N : Nat} {t : List UInt8} {ps : Bool}

/-- the key of a character, by whether a paste is begun -/
def charE (ps : Bool) (k kc : Int) : Int × Int := if ps && k != 0 then (15, 0) else (k, kc)
end

end Go.Proofs.YtbflcikfaoojmaaDoor.Edit

/- The key of a character: keys.Of, walked. -/
set_option linter.unusedVariables false
set_option linter.unusedSimpArgs false
namespace Go.Proofs.YtbflcikfaoojmaaDoor.Edit
open Go.RowKit Go.Lib Go.Shelf ChangeShapes Mem Utf UtfP

theorem run_lookI {T K E : TypeId} {P : Program} (w : World) (ht : P.underlying T = some (.map K E)) (hk : P.underlying K = some (.int .i64)) (b : Nat) (es : Array MapEntry) (clock : Nat) (hb : w.heap[b]? = some (.map es clock)) (k : Int) (i : Nat) (v : Value) (hf : Instr.findNow (.int .i64) (.int .i64 k) es.toList 0 = some (some (i, v))) :
    (Instr.lookup T (.map (some b)) (.int .i64 k) true).run P w = .ok (.tuple #[v, .bool true]) w := by
  have hc : (Instr.checkKey es.isEmpty 10000 K (.int .i64 k)).run P w = .ok () w := MapKept.run_checkKey (k := .int .i64 k) hk (by simp [MapKept.IsKey]) _ 9999
  simp [Instr.lookup, run_underlying ht, MapKept.run_getObj_map hb, hc, MapKept.run_findKey hk hf, Result.andThen]

theorem run_lookI_none {T K E : TypeId} {P : Program} (w : World) (ht : P.underlying T = some (.map K E)) (hk : P.underlying K = some (.int .i64)) (b : Nat) (es : Array MapEntry) (clock : Nat) (hb : w.heap[b]? = some (.map es clock)) (k : Int) (z : Value) (hz : ∀ w, (zeroValue E).run P w = .ok z w) (hf : Instr.findNow (.int .i64) (.int .i64 k) es.toList 0 = some none) :
    (Instr.lookup T (.map (some b)) (.int .i64 k) true).run P w = .ok (.tuple #[z, .bool false]) w := by
  have hc : (Instr.checkKey es.isEmpty 10000 K (.int .i64 k)).run P w = .ok () w := MapKept.run_checkKey (k := .int .i64 k) hk (by simp [MapKept.IsKey]) _ 9999
  simp [Instr.lookup, run_underlying ht, MapKept.run_getObj_map hb, hc, MapKept.run_findKey hk hf, hz, Result.andThen]

theorem kindOf_tab (c : Int) : kindOf c = 15 ∨ ∃ y ∈ chIns, y.2.1 = c := by
  unfold kindOf
  by_cases h1 : c = 13; · exact Or.inr ⟨(2, 13, 1), by decide, h1.symm⟩
  by_cases h2 : c = 10; · exact Or.inr ⟨(4, 10, 1), by decide, h2.symm⟩
  by_cases h3 : c = 8; · exact Or.inr ⟨(6, 8, 2), by decide, h3.symm⟩
  by_cases h4 : c = 127; · exact Or.inr ⟨(7, 127, 2), by decide, h4.symm⟩
  by_cases h5 : c = 2; · exact Or.inr ⟨(9, 2, 4), by decide, h5.symm⟩
  by_cases h6 : c = 6; · exact Or.inr ⟨(11, 6, 5), by decide, h6.symm⟩
  by_cases h7 : c = 1; · exact Or.inr ⟨(13, 1, 6), by decide, h7.symm⟩
  by_cases h8 : c = 5; · exact Or.inr ⟨(15, 5, 7), by decide, h8.symm⟩
  by_cases h9 : c = 21; · exact Or.inr ⟨(17, 21, 8), by decide, h9.symm⟩
  by_cases h10 : c = 11; · exact Or.inr ⟨(19, 11, 9), by decide, h10.symm⟩
  by_cases h11 : c = 12; · exact Or.inr ⟨(21, 12, 10), by decide, h11.symm⟩
  by_cases h12 : c = 3; · exact Or.inr ⟨(23, 3, 11), by decide, h12.symm⟩
  by_cases h13 : c = 4; · exact Or.inr ⟨(25, 4, 12), by decide, h13.symm⟩
  left
  simp [h1, h2, h3, h4, h5, h6, h7, h8, h9, h10, h11, h12, h13]

theorem kindOf_of : ∀ y ∈ chIns, kindOf y.2.1 = y.2.2 ∧ y.2.2 ≠ 15 := by decide

theorem ChTab.find {es : Array MapEntry} (h : ChTab es) (c : Int) :
    (kindOf c = 15 ∧ Instr.findNow (.int .i64) (.int .i64 c) es.toList 0 = some none) ∨ (kindOf c ≠ 15 ∧ ∃ j, Instr.findNow (.int .i64) (.int .i64 c) es.toList 0 = some (some (j, .int .i64 (kindOf c)))) := by
  rcases MapKept.findNow_spec (d := .int .i64) (k := .int .i64 c) (by simp [MapKept.IsKey]) es.toList 0 (fun x hx => by obtain ⟨y, _, hk, _⟩ := h.1 x hx; rw [hk]; simp [MapKept.IsKey]) with ⟨hf, hn⟩ | ⟨j, e, hf, he, hk⟩
  · refine Or.inl ⟨?_, hf⟩
    rcases kindOf_tab c with h1 | ⟨y, hy, rfl⟩
    · exact h1
    · obtain ⟨x, hx, hkx⟩ := h.2 y hy
      exact absurd hkx (hn x hx)
  · obtain ⟨y, hy, hyk, hyv⟩ := h.1 e (List.mem_of_getElem? he)
    rw [hyk] at hk
    have e1 : y.2.1 = c := by injection hk
    obtain ⟨h1, h2⟩ := kindOf_of y hy
    rw [e1] at h1
    refine Or.inr ⟨by rw [h1]; exact h2, 0 + j, ?_⟩
    rw [hf, hyv, h1]

section
variable {d a c N : Nat} {t : List UInt8} {ps : Bool}
/-- the key of a character, by whether a paste is begun -/
def charK (ps : Bool) (c : Int) : Int × Int := charE ps (keyOf c).1 (keyOf c).2
end

end Go.Proofs.YtbflcikfaoojmaaDoor.Edit

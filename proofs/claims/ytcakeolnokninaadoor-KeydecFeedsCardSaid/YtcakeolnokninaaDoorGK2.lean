/- Texts joined: Kd4; Kd7; Kd8; Kd9; Kd10. -/
import Derived.Test.YtcakeolnokninaaDoorGK1
import Derived.Test.YtcakeolnokninaaDoorGC
import Derived.Deep.RegionWith
import Derived.Deep.CutBlock
import Derived.WalkMore
/- The document's key of a character. -/
set_option linter.unusedVariables false
set_option linter.unusedSimpArgs false
namespace Go.Proofs.YtcakeolnokninaaDoor.Edit
open Go.RowKit Go.Lib Go.Shelf ChangeShapes Mem Utf UtfP

/-- the kind of a control character -/
def kindOf (c : Int) : Int :=
  if c = 13 then 1 else
  if c = 10 then 1 else
  if c = 8 then 2 else
  if c = 127 then 2 else
  if c = 2 then 4 else
  if c = 6 then 5 else
  if c = 1 then 6 else
  if c = 5 then 7 else
  if c = 21 then 8 else
  if c = 11 then 9 else
  if c = 12 then 10 else
  if c = 3 then 11 else
  if c = 4 then 12 else
  15
/-- the key of a character -/
def keyOf (c : Int) : Int × Int := if printC c then (0, c) else (kindOf c, 0)

theorem kindOf_13 : kindOf 13 = 1 := rfl
theorem kindOf_10 : kindOf 10 = 1 := rfl
theorem kindOf_8 : kindOf 8 = 2 := rfl
theorem kindOf_127 : kindOf 127 = 2 := rfl
theorem kindOf_2 : kindOf 2 = 4 := rfl
theorem kindOf_6 : kindOf 6 = 5 := rfl
theorem kindOf_1 : kindOf 1 = 6 := rfl
theorem kindOf_5 : kindOf 5 = 7 := rfl
theorem kindOf_21 : kindOf 21 = 8 := rfl
theorem kindOf_11 : kindOf 11 = 9 := rfl
theorem kindOf_12 : kindOf 12 = 10 := rfl
theorem kindOf_3 : kindOf 3 = 11 := rfl
theorem kindOf_4 : kindOf 4 = 12 := rfl

set_option maxHeartbeats 2000000 in
theorem refOf (c : Int) (w : World) : Calls Tryd.prog 56 #[.int .i64 c] w fun e w' => e = .returned (.agg #[.int .i64 (keyOf c).1, .int .i64 (keyOf c).2]) ∧ Below w.heap.size w w' := by
  have H0 := fun W => refPrintable c W
  cases hp : printC c
  · rw [hp] at H0
    have hk : keyOf c = (kindOf c, 0) := by unfold keyOf; rw [hp]; rfl
    rw [hk]
    clear hk hp
    by_cases h13 : c = 13
    · subst h13
      rw [kindOf_13]
      have H := Lib.hid H0
      clear H0
      go_enter Tryd.func56, Tryd.ntmps56
      go_wp2_with (go_at_call 30; (with_reducible refine (H.out _).mono ?_); rintro e w1 ⟨rfl, hq⟩; obtain rfl := hq)
      (try simp only [Exit.inBlock, Exit.then])
      refine bodyPost_ret (results_key rfl _ _ w.heap.size 54 _ _ rfl (Blk.new _ _ _) Tryd.underlying54 rfl (by kernel_rfl)) rfl ?_
      exact ⟨rfl, (Below.refl _ _).alloc (Nat.le_refl _) _⟩
    ·
      by_cases h10 : c = 10
      · subst h10
        rw [kindOf_10]
        have H := Lib.hid H0
        clear H0
        go_enter Tryd.func56, Tryd.ntmps56
        go_wp2_with (go_at_call 30; (with_reducible refine (H.out _).mono ?_); rintro e w1 ⟨rfl, hq⟩; obtain rfl := hq)
        (try simp only [Exit.inBlock, Exit.then])
        refine bodyPost_ret (results_key rfl _ _ w.heap.size 54 _ _ rfl (Blk.new _ _ _) Tryd.underlying54 rfl (by kernel_rfl)) rfl ?_
        exact ⟨rfl, (Below.refl _ _).alloc (Nat.le_refl _) _⟩
      ·
        by_cases h8 : c = 8
        · subst h8
          rw [kindOf_8]
          have H := Lib.hid H0
          clear H0
          go_enter Tryd.func56, Tryd.ntmps56
          go_wp2_with (go_at_call 30; (with_reducible refine (H.out _).mono ?_); rintro e w1 ⟨rfl, hq⟩; obtain rfl := hq)
          (try simp only [Exit.inBlock, Exit.then])
          refine bodyPost_ret (results_key rfl _ _ w.heap.size 54 _ _ rfl (Blk.new _ _ _) Tryd.underlying54 rfl (by kernel_rfl)) rfl ?_
          exact ⟨rfl, (Below.refl _ _).alloc (Nat.le_refl _) _⟩
        ·
          by_cases h127 : c = 127
          · subst h127
            rw [kindOf_127]
            have H := Lib.hid H0
            clear H0
            go_enter Tryd.func56, Tryd.ntmps56
            go_wp2_with (go_at_call 30; (with_reducible refine (H.out _).mono ?_); rintro e w1 ⟨rfl, hq⟩; obtain rfl := hq)
            (try simp only [Exit.inBlock, Exit.then])
            refine bodyPost_ret (results_key rfl _ _ w.heap.size 54 _ _ rfl (Blk.new _ _ _) Tryd.underlying54 rfl (by kernel_rfl)) rfl ?_
            exact ⟨rfl, (Below.refl _ _).alloc (Nat.le_refl _) _⟩
          ·
            by_cases h2 : c = 2
            · subst h2
              rw [kindOf_2]
              have H := Lib.hid H0
              clear H0
              go_enter Tryd.func56, Tryd.ntmps56
              go_wp2_with (go_at_call 30; (with_reducible refine (H.out _).mono ?_); rintro e w1 ⟨rfl, hq⟩; obtain rfl := hq)
              (try simp only [Exit.inBlock, Exit.then])
              refine bodyPost_ret (results_key rfl _ _ w.heap.size 54 _ _ rfl (Blk.new _ _ _) Tryd.underlying54 rfl (by kernel_rfl)) rfl ?_
              exact ⟨rfl, (Below.refl _ _).alloc (Nat.le_refl _) _⟩
            ·
              by_cases h6 : c = 6
              · subst h6
                rw [kindOf_6]
                have H := Lib.hid H0
                clear H0
                go_enter Tryd.func56, Tryd.ntmps56
                go_wp2_with (go_at_call 30; (with_reducible refine (H.out _).mono ?_); rintro e w1 ⟨rfl, hq⟩; obtain rfl := hq)
                (try simp only [Exit.inBlock, Exit.then])
                refine bodyPost_ret (results_key rfl _ _ w.heap.size 54 _ _ rfl (Blk.new _ _ _) Tryd.underlying54 rfl (by kernel_rfl)) rfl ?_
                exact ⟨rfl, (Below.refl _ _).alloc (Nat.le_refl _) _⟩
              ·
                by_cases h1 : c = 1
                · subst h1
                  rw [kindOf_1]
                  have H := Lib.hid H0
                  clear H0
                  go_enter Tryd.func56, Tryd.ntmps56
                  go_wp2_with (go_at_call 30; (with_reducible refine (H.out _).mono ?_); rintro e w1 ⟨rfl, hq⟩; obtain rfl := hq)
                  (try simp only [Exit.inBlock, Exit.then])
                  refine bodyPost_ret (results_key rfl _ _ w.heap.size 54 _ _ rfl (Blk.new _ _ _) Tryd.underlying54 rfl (by kernel_rfl)) rfl ?_
                  exact ⟨rfl, (Below.refl _ _).alloc (Nat.le_refl _) _⟩
                ·
                  by_cases h5 : c = 5
                  · subst h5
                    rw [kindOf_5]
                    have H := Lib.hid H0
                    clear H0
                    go_enter Tryd.func56, Tryd.ntmps56
                    go_wp2_with (go_at_call 30; (with_reducible refine (H.out _).mono ?_); rintro e w1 ⟨rfl, hq⟩; obtain rfl := hq)
                    (try simp only [Exit.inBlock, Exit.then])
                    refine bodyPost_ret (results_key rfl _ _ w.heap.size 54 _ _ rfl (Blk.new _ _ _) Tryd.underlying54 rfl (by kernel_rfl)) rfl ?_
                    exact ⟨rfl, (Below.refl _ _).alloc (Nat.le_refl _) _⟩
                  ·
                    by_cases h21 : c = 21
                    · subst h21
                      rw [kindOf_21]
                      have H := Lib.hid H0
                      clear H0
                      go_enter Tryd.func56, Tryd.ntmps56
                      go_wp2_with (go_at_call 30; (with_reducible refine (H.out _).mono ?_); rintro e w1 ⟨rfl, hq⟩; obtain rfl := hq)
                      (try simp only [Exit.inBlock, Exit.then])
                      refine bodyPost_ret (results_key rfl _ _ w.heap.size 54 _ _ rfl (Blk.new _ _ _) Tryd.underlying54 rfl (by kernel_rfl)) rfl ?_
                      exact ⟨rfl, (Below.refl _ _).alloc (Nat.le_refl _) _⟩
                    ·
                      by_cases h11 : c = 11
                      · subst h11
                        rw [kindOf_11]
                        have H := Lib.hid H0
                        clear H0
                        go_enter Tryd.func56, Tryd.ntmps56
                        go_wp2_with (go_at_call 30; (with_reducible refine (H.out _).mono ?_); rintro e w1 ⟨rfl, hq⟩; obtain rfl := hq)
                        (try simp only [Exit.inBlock, Exit.then])
                        refine bodyPost_ret (results_key rfl _ _ w.heap.size 54 _ _ rfl (Blk.new _ _ _) Tryd.underlying54 rfl (by kernel_rfl)) rfl ?_
                        exact ⟨rfl, (Below.refl _ _).alloc (Nat.le_refl _) _⟩
                      ·
                        by_cases h12 : c = 12
                        · subst h12
                          rw [kindOf_12]
                          have H := Lib.hid H0
                          clear H0
                          go_enter Tryd.func56, Tryd.ntmps56
                          go_wp2_with (go_at_call 30; (with_reducible refine (H.out _).mono ?_); rintro e w1 ⟨rfl, hq⟩; obtain rfl := hq)
                          (try simp only [Exit.inBlock, Exit.then])
                          refine bodyPost_ret (results_key rfl _ _ w.heap.size 54 _ _ rfl (Blk.new _ _ _) Tryd.underlying54 rfl (by kernel_rfl)) rfl ?_
                          exact ⟨rfl, (Below.refl _ _).alloc (Nat.le_refl _) _⟩
                        ·
                          by_cases h3 : c = 3
                          · subst h3
                            rw [kindOf_3]
                            have H := Lib.hid H0
                            clear H0
                            go_enter Tryd.func56, Tryd.ntmps56
                            go_wp2_with (go_at_call 30; (with_reducible refine (H.out _).mono ?_); rintro e w1 ⟨rfl, hq⟩; obtain rfl := hq)
                            (try simp only [Exit.inBlock, Exit.then])
                            refine bodyPost_ret (results_key rfl _ _ w.heap.size 54 _ _ rfl (Blk.new _ _ _) Tryd.underlying54 rfl (by kernel_rfl)) rfl ?_
                            exact ⟨rfl, (Below.refl _ _).alloc (Nat.le_refl _) _⟩
                          ·
                            by_cases h4 : c = 4
                            · subst h4
                              rw [kindOf_4]
                              have H := Lib.hid H0
                              clear H0
                              go_enter Tryd.func56, Tryd.ntmps56
                              go_wp2_with (go_at_call 30; (with_reducible refine (H.out _).mono ?_); rintro e w1 ⟨rfl, hq⟩; obtain rfl := hq)
                              (try simp only [Exit.inBlock, Exit.then])
                              refine bodyPost_ret (results_key rfl _ _ w.heap.size 54 _ _ rfl (Blk.new _ _ _) Tryd.underlying54 rfl (by kernel_rfl)) rfl ?_
                              exact ⟨rfl, (Below.refl _ _).alloc (Nat.le_refl _) _⟩
                            ·
                              have k13 : (c == 13) = false := by simpa using h13
                              have k10 : (c == 10) = false := by simpa using h10
                              have k8 : (c == 8) = false := by simpa using h8
                              have k127 : (c == 127) = false := by simpa using h127
                              have k2 : (c == 2) = false := by simpa using h2
                              have k6 : (c == 6) = false := by simpa using h6
                              have k1 : (c == 1) = false := by simpa using h1
                              have k5 : (c == 5) = false := by simpa using h5
                              have k21 : (c == 21) = false := by simpa using h21
                              have k11 : (c == 11) = false := by simpa using h11
                              have k12 : (c == 12) = false := by simpa using h12
                              have k3 : (c == 3) = false := by simpa using h3
                              have k4 : (c == 4) = false := by simpa using h4
                              have hz : kindOf c = 15 := by unfold kindOf; rw [if_neg h13]; rw [if_neg h10]; rw [if_neg h8]; rw [if_neg h127]; rw [if_neg h2]; rw [if_neg h6]; rw [if_neg h1]; rw [if_neg h5]; rw [if_neg h21]; rw [if_neg h11]; rw [if_neg h12]; rw [if_neg h3]; rw [if_neg h4]
                              rw [hz]
                              have H := Lib.hid H0
                              clear H0 hz h13 h10 h8 h127 h2 h6 h1 h5 h21 h11 h12 h3 h4
                              go_enter Tryd.func56, Tryd.ntmps56
                              go_wp2_with (go_at_call 30; (with_reducible refine (H.out _).mono ?_); rintro e w1 ⟨rfl, hq⟩; obtain rfl := hq)
                              (try simp only [Exit.inBlock, Exit.then])
                              refine bodyPost_ret (results_key rfl _ _ w.heap.size 54 _ _ rfl (Blk.new _ _ _) Tryd.underlying54 rfl (by kernel_rfl)) rfl ?_
                              exact ⟨rfl, (Below.refl _ _).alloc (Nat.le_refl _) _⟩
  · rw [hp] at H0
    have hk : keyOf c = (0, c) := by unfold keyOf; rw [hp]; rfl
    rw [hk]
    clear hk hp
    have H := Lib.hid H0
    clear H0
    go_enter Tryd.func56, Tryd.ntmps56
    go_wp2_with (go_at_call 30; (with_reducible refine (H.out _).mono ?_); rintro e w1 ⟨rfl, hq⟩; obtain rfl := hq)
    (try simp only [Exit.inBlock, Exit.then])
    refine bodyPost_ret (results_key rfl _ _ w.heap.size 54 _ _ rfl (Blk.new _ _ _) Tryd.underlying54 rfl (by kernel_rfl)) rfl ?_
    exact ⟨rfl, (Below.refl _ _).alloc (Nat.le_refl _) _⟩

end Go.Proofs.YtcakeolnokninaaDoor.Edit

/- A decoder of keys, walked: char (over what keys.Of answers). -/
set_option linter.unusedVariables false
set_option linter.unusedSimpArgs false
namespace Go.Proofs.YtcakeolnokninaaDoor.Edit
open Go.RowKit Go.Lib Go.Shelf ChangeShapes Mem Utf UtfP

section
variable {d a c N : Nat} {t : List UInt8} {ps : Bool}

set_option maxHeartbeats 1000000 in
theorem char_out (cc k kc : Int) (w : World) (h : Dc w d a c N t ps)
    (H0 : ∀ W, Calls Tryd.prog 78 #[.int .i64 cc] W fun e w' => e = .returned (.agg #[.int .i64 k, .int .i64 kc]) ∧ Below W.heap.size W w') (hk : ps = false) :
    Calls Tryd.prog 64 #[.pointer (some ⟨d, 0, none⟩), .int .i64 cc] w fun e w' => e = .returned (.agg #[.int .i64 k, .int .i64 kc]) ∧ Dc w' d a c N t ps ∧ Below w.heap.size w w' := by
  subst hk
  have H := Lib.hid h
  have HOF := Lib.hid H0
  clear h H0
  have hlt := H.out.head.lt
  have hal : Below w.heap.size w (w.alloc (.cells #[.int .i64 0, .int .i64 0] 54)) := (Below.refl _ _).alloc (Nat.le_refl _) _
  have HB0 := Lib.hid (Blk.new w #[.int .i64 0, .int .i64 0] 54)
  obtain ⟨w0, hw0⟩ : ∃ w0, w.alloc (.cells #[.int .i64 0, .int .i64 0] 54) = w0 := ⟨_, rfl⟩
  rw [hw0] at hal HB0
  have HAL := Lib.hid hal
  have HW0 := Lib.hid hw0
  clear hw0 hal
  go_enter Tryd.func64, Tryd.ntmps64
  go_wp2_with fail
  rw [HW0.out]
  refine (HOF.out _).mono ?_
  rintro e w1 ⟨rfl, hb1⟩
  have HD1 : Hid (Dc w1 d a c N t false) := (H.out.below HAL.out).below hb1
  have HB1 : Hid (Blk w1 w.heap.size #[.int .i64 0, .int .i64 0] 54) := HB0.out.but (But.of_below (S := []) hb1) (by simp)
  have HW1 : Hid (Below w.heap.size w w1) := HAL.out.trans (hb1.mono HAL.out.size)
  have c1 := HD1.out.head.cell (j := 1) (v := .bool false) rfl
  have hlt1 := HD1.out.head.lt
  have r0 := HB1.out.cell (j := 0) (v := .int .i64 0) rfl
  have r1 := HB1.out.cell (j := 1) (v := .int .i64 0) rfl
  have rf0 := HB1.out.free 0
  have rf1 := HB1.out.free 1
  have hlt2 := HB1.out.lt
  clear hb1
  go_wp2
  (try simp only [Exit.inBlock, Exit.then])
  refine bodyPost_ret (results_key rfl _ _ w.heap.size 54 _ _ rfl (Blk.alloc (Blk.set (Blk.set HB1.out 0 _) 1 _) _) Tryd.underlying54 rfl (by kernel_rfl)) rfl ?_
  have h1 := H.out.head.lt
  have h2 := H.out.ar.head.lt
  have h3 := H.out.ar.body.lt
  refine ⟨rfl, (HD1.out.but (((But.refl [w.heap.size] _).set (Or.inl (by simp)) _).set (Or.inl (by simp)) _) (by simp; omega) (by simp; omega) (by simp; omega)).below ((Below.refl _ _).alloc (Nat.le_refl _) _), ?_⟩
  exact ((((But.of_below (S := [w.heap.size]) HW1.out).set (Or.inl (by simp)) _).set (Or.inl (by simp)) _).alloc _).below (Nat.le_refl _) (by simp)

set_option maxHeartbeats 1000000 in
theorem char_rune (cc k kc : Int) (w : World) (h : Dc w d a c N t ps)
    (H0 : ∀ W, Calls Tryd.prog 78 #[.int .i64 cc] W fun e w' => e = .returned (.agg #[.int .i64 k, .int .i64 kc]) ∧ Below W.heap.size W w') (hk : ps = true) (h0 : k = 0) :
    Calls Tryd.prog 64 #[.pointer (some ⟨d, 0, none⟩), .int .i64 cc] w fun e w' => e = .returned (.agg #[.int .i64 k, .int .i64 kc]) ∧ Dc w' d a c N t ps ∧ Below w.heap.size w w' := by
  subst hk
  subst h0
  have H := Lib.hid h
  have HOF := Lib.hid H0
  clear h H0
  have hlt := H.out.head.lt
  have hal : Below w.heap.size w (w.alloc (.cells #[.int .i64 0, .int .i64 0] 54)) := (Below.refl _ _).alloc (Nat.le_refl _) _
  have HB0 := Lib.hid (Blk.new w #[.int .i64 0, .int .i64 0] 54)
  obtain ⟨w0, hw0⟩ : ∃ w0, w.alloc (.cells #[.int .i64 0, .int .i64 0] 54) = w0 := ⟨_, rfl⟩
  rw [hw0] at hal HB0
  have HAL := Lib.hid hal
  have HW0 := Lib.hid hw0
  clear hw0 hal
  go_enter Tryd.func64, Tryd.ntmps64
  go_wp2_with fail
  rw [HW0.out]
  refine (HOF.out _).mono ?_
  rintro e w1 ⟨rfl, hb1⟩
  have HD1 : Hid (Dc w1 d a c N t true) := (H.out.below HAL.out).below hb1
  have HB1 : Hid (Blk w1 w.heap.size #[.int .i64 0, .int .i64 0] 54) := HB0.out.but (But.of_below (S := []) hb1) (by simp)
  have HW1 : Hid (Below w.heap.size w w1) := HAL.out.trans (hb1.mono HAL.out.size)
  have c1 := HD1.out.head.cell (j := 1) (v := .bool true) rfl
  have hlt1 := HD1.out.head.lt
  have r0 := HB1.out.cell (j := 0) (v := .int .i64 0) rfl
  have r1 := HB1.out.cell (j := 1) (v := .int .i64 0) rfl
  have rf0 := HB1.out.free 0
  have rf1 := HB1.out.free 1
  have hlt2 := HB1.out.lt
  clear hb1
  go_wp2
  (try simp only [Exit.inBlock, Exit.then])
  refine bodyPost_ret (results_key rfl _ _ w.heap.size 54 _ _ rfl (Blk.alloc (Blk.set (Blk.set HB1.out 0 _) 1 _) _) Tryd.underlying54 rfl (by kernel_rfl)) rfl ?_
  have h1 := H.out.head.lt
  have h2 := H.out.ar.head.lt
  have h3 := H.out.ar.body.lt
  refine ⟨rfl, (HD1.out.but (((But.refl [w.heap.size] _).set (Or.inl (by simp)) _).set (Or.inl (by simp)) _) (by simp; omega) (by simp; omega) (by simp; omega)).below ((Below.refl _ _).alloc (Nat.le_refl _) _), ?_⟩
  exact ((((But.of_below (S := [w.heap.size]) HW1.out).set (Or.inl (by simp)) _).set (Or.inl (by simp)) _).alloc _).below (Nat.le_refl _) (by simp)

set_option maxHeartbeats 1000000 in
theorem char_not (cc k kc : Int) (w : World) (h : Dc w d a c N t ps)
    (H0 : ∀ W, Calls Tryd.prog 78 #[.int .i64 cc] W fun e w' => e = .returned (.agg #[.int .i64 k, .int .i64 kc]) ∧ Below W.heap.size W w') (hk : ps = true) (h0 : k ≠ 0) :
    Calls Tryd.prog 64 #[.pointer (some ⟨d, 0, none⟩), .int .i64 cc] w fun e w' => e = .returned (.agg #[.int .i64 15, .int .i64 0]) ∧ Dc w' d a c N t ps ∧ Below w.heap.size w w' := by
  subst hk
  have k0 : (k == 0) = false := by simpa using h0
  have H := Lib.hid h
  have HOF := Lib.hid H0
  clear h H0
  have hlt := H.out.head.lt
  have hal : Below w.heap.size w (w.alloc (.cells #[.int .i64 0, .int .i64 0] 54)) := (Below.refl _ _).alloc (Nat.le_refl _) _
  have HB0 := Lib.hid (Blk.new w #[.int .i64 0, .int .i64 0] 54)
  obtain ⟨w0, hw0⟩ : ∃ w0, w.alloc (.cells #[.int .i64 0, .int .i64 0] 54) = w0 := ⟨_, rfl⟩
  rw [hw0] at hal HB0
  have HAL := Lib.hid hal
  have HW0 := Lib.hid hw0
  clear hw0 hal
  go_enter Tryd.func64, Tryd.ntmps64
  go_wp2_with fail
  rw [HW0.out]
  refine (HOF.out _).mono ?_
  rintro e w1 ⟨rfl, hb1⟩
  have HD1 : Hid (Dc w1 d a c N t true) := (H.out.below HAL.out).below hb1
  have HB1 : Hid (Blk w1 w.heap.size #[.int .i64 0, .int .i64 0] 54) := HB0.out.but (But.of_below (S := []) hb1) (by simp)
  have HW1 : Hid (Below w.heap.size w w1) := HAL.out.trans (hb1.mono HAL.out.size)
  have c1 := HD1.out.head.cell (j := 1) (v := .bool true) rfl
  have hlt1 := HD1.out.head.lt
  have r0 := HB1.out.cell (j := 0) (v := .int .i64 0) rfl
  have r1 := HB1.out.cell (j := 1) (v := .int .i64 0) rfl
  have rf0 := HB1.out.free 0
  have rf1 := HB1.out.free 1
  have hlt2 := HB1.out.lt
  clear hb1
  go_wp2
  (try simp only [Exit.inBlock, Exit.then])
  refine bodyPost_ret (results_key rfl _ _ w.heap.size 54 _ _ rfl (Blk.alloc (Blk.set (Blk.set HB1.out 0 _) 1 _) _) Tryd.underlying54 rfl (by kernel_rfl)) rfl ?_
  have h1 := H.out.head.lt
  have h2 := H.out.ar.head.lt
  have h3 := H.out.ar.body.lt
  refine ⟨rfl, (HD1.out.but (((But.refl [w.heap.size] _).set (Or.inl (by simp)) _).set (Or.inl (by simp)) _) (by simp; omega) (by simp; omega) (by simp; omega)).below ((Below.refl _ _).alloc (Nat.le_refl _) _), ?_⟩
  exact ((((But.of_below (S := [w.heap.size]) HW1.out).set (Or.inl (by simp)) _).set (Or.inl (by simp)) _).alloc _).below (Nat.le_refl _) (by simp)

/-- the key of a character, by whether a paste is begun -/
def charE (ps : Bool) (k kc : Int) : Int × Int := if ps && k != 0 then (15, 0) else (k, kc)
theorem char_c (cc k kc : Int) (w : World) (h : Dc w d a c N t ps)
    (H0 : ∀ W, Calls Tryd.prog 78 #[.int .i64 cc] W fun e w' => e = .returned (.agg #[.int .i64 k, .int .i64 kc]) ∧ Below W.heap.size W w') :
    Calls Tryd.prog 64 #[.pointer (some ⟨d, 0, none⟩), .int .i64 cc] w fun e w' => e = .returned (.agg #[.int .i64 (charE ps k kc).1, .int .i64 (charE ps k kc).2]) ∧ Dc w' d a c N t ps ∧ Below w.heap.size w w' := by
  cases ps
  · exact char_out cc k kc w h H0 rfl
  · by_cases h0 : k = 0
    · have := char_rune cc k kc w h H0 rfl h0
      subst h0
      exact this
    · have hx : charE true k kc = (15, 0) := by unfold charE; simp [h0]
      rw [hx]
      exact char_not cc k kc w h H0 rfl h0
end

end Go.Proofs.YtcakeolnokninaaDoor.Edit

/- The table of control characters that are keys: its inserts come in any order. -/
set_option linter.unusedVariables false
set_option linter.unusedSimpArgs false
namespace Go.Proofs.YtcakeolnokninaaDoor.Edit
open Go.RowKit Go.Lib Go.Shelf ChangeShapes Mem Utf UtfP

theorem run_putI {T K E : TypeId} {P : Program} (w : World) (ht : P.underlying T = some (.map K E)) (hk : P.underlying K = some (.int .i64)) (es : Array MapEntry) (clock : Nat) (k : Int) (v : Value) (hf : Instr.findNow (.int .i64) (.int .i64 k) es.toList 0 = some none) :
    (Instr.mapUpdate T (.map (some w.heap.size)) (.int .i64 k) v).run P (w.alloc (.map es clock)) = .ok () (w.alloc (.map (es.push { key := .int .i64 k, val := v, born := clock }) (clock + 1))) := by
  have hb : (w.alloc (.map es clock)).heap[w.heap.size]? = some (.map es clock) := heap_alloc_new w _
  have hc : (Instr.checkKey false 10000 K (.int .i64 k)).run P (w.alloc (.map es clock)) = .ok () (w.alloc (.map es clock)) := MapKept.run_checkKey (k := .int .i64 k) hk (by simp [MapKept.IsKey]) false 9999
  simp [Instr.mapUpdate, run_underlying ht, MapKept.run_getObj_map hb, hc, MapKept.run_findKey hk hf, MapKept.run_setObj_map _ hb, Result.andThen]
  show ({ heap := (w.heap.push _).setIfInBounds w.heap.size _, tape := w.tape, drawn := w.drawn, os := w.os, output := w.output } : World) = { w with heap := w.heap.push _ }
  rw [push_put]

theorem ctrl_c (x : Int) (w : World) : Calls Tryd.prog 71 #[.int .i32 x] w fun e w' => e = .returned (.int .i64 (wrap64 (bits .and .i32 x 31))) ∧ w' = w := by
  go_enter Tryd.func71, Tryd.ntmps71
  go_wp2
  go_ret
  exact ⟨rfl, rfl⟩
theorem ctrl77 (w : World) : Calls Tryd.prog 71 #[.int .i32 77] w fun e w' => e = .returned (.int .i64 13) ∧ w' = w := (ctrl_c 77 w).mono fun e w' ⟨he, hw⟩ => ⟨by rw [he]; kernel_rfl, hw⟩
theorem ctrl74 (w : World) : Calls Tryd.prog 71 #[.int .i32 74] w fun e w' => e = .returned (.int .i64 10) ∧ w' = w := (ctrl_c 74 w).mono fun e w' ⟨he, hw⟩ => ⟨by rw [he]; kernel_rfl, hw⟩
theorem ctrl72 (w : World) : Calls Tryd.prog 71 #[.int .i32 72] w fun e w' => e = .returned (.int .i64 8) ∧ w' = w := (ctrl_c 72 w).mono fun e w' ⟨he, hw⟩ => ⟨by rw [he]; kernel_rfl, hw⟩
theorem ctrl66 (w : World) : Calls Tryd.prog 71 #[.int .i32 66] w fun e w' => e = .returned (.int .i64 2) ∧ w' = w := (ctrl_c 66 w).mono fun e w' ⟨he, hw⟩ => ⟨by rw [he]; kernel_rfl, hw⟩
theorem ctrl70 (w : World) : Calls Tryd.prog 71 #[.int .i32 70] w fun e w' => e = .returned (.int .i64 6) ∧ w' = w := (ctrl_c 70 w).mono fun e w' ⟨he, hw⟩ => ⟨by rw [he]; kernel_rfl, hw⟩
theorem ctrl65 (w : World) : Calls Tryd.prog 71 #[.int .i32 65] w fun e w' => e = .returned (.int .i64 1) ∧ w' = w := (ctrl_c 65 w).mono fun e w' ⟨he, hw⟩ => ⟨by rw [he]; kernel_rfl, hw⟩
theorem ctrl69 (w : World) : Calls Tryd.prog 71 #[.int .i32 69] w fun e w' => e = .returned (.int .i64 5) ∧ w' = w := (ctrl_c 69 w).mono fun e w' ⟨he, hw⟩ => ⟨by rw [he]; kernel_rfl, hw⟩
theorem ctrl85 (w : World) : Calls Tryd.prog 71 #[.int .i32 85] w fun e w' => e = .returned (.int .i64 21) ∧ w' = w := (ctrl_c 85 w).mono fun e w' ⟨he, hw⟩ => ⟨by rw [he]; kernel_rfl, hw⟩
theorem ctrl75 (w : World) : Calls Tryd.prog 71 #[.int .i32 75] w fun e w' => e = .returned (.int .i64 11) ∧ w' = w := (ctrl_c 75 w).mono fun e w' ⟨he, hw⟩ => ⟨by rw [he]; kernel_rfl, hw⟩
theorem ctrl76 (w : World) : Calls Tryd.prog 71 #[.int .i32 76] w fun e w' => e = .returned (.int .i64 12) ∧ w' = w := (ctrl_c 76 w).mono fun e w' ⟨he, hw⟩ => ⟨by rw [he]; kernel_rfl, hw⟩
theorem ctrl67 (w : World) : Calls Tryd.prog 71 #[.int .i32 67] w fun e w' => e = .returned (.int .i64 3) ∧ w' = w := (ctrl_c 67 w).mono fun e w' ⟨he, hw⟩ => ⟨by rw [he]; kernel_rfl, hw⟩
theorem ctrl68 (w : World) : Calls Tryd.prog 71 #[.int .i32 68] w fun e w' => e = .returned (.int .i64 4) ∧ w' = w := (ctrl_c 68 w).mono fun e w' ⟨he, hw⟩ => ⟨by rw [he]; kernel_rfl, hw⟩

section
variable {P : Program} {ops : Array Oper} {Q : Exit → Act → World → Prop} {md : Region.Mode}

/-- operations that wait for earlier ones alone: while one hasn't run, one may -/
def backB (ops : Array Oper) : Bool := (List.range ops.size).all fun i => ((ops[i]?).map (·.after.all fun e => decide (e.on < i))).getD true

theorem ready_nil (hb : backB ops = true) {listed : Array Bool} (hr : Region.ready md ops listed = []) : ∀ (i : Nat), i < ops.size → listed.getD i true = true := by
  intro i
  induction i using Nat.strongRecOn with
  | _ i ih =>
    intro hi
    cases hl : listed.getD i true with
    | true => rfl
    | false =>
      have hm : i ∈ Region.ready md ops listed := by
        rw [mem_ready]
        refine ⟨hl, ops[i], Array.getElem?_eq_getElem hi, fun e he hbind => ?_⟩
        have h1 := List.all_eq_true.1 hb i (List.mem_range.2 hi)
        rw [Array.getElem?_eq_getElem hi] at h1
        have h2 : e.on < i := by
          have := Array.all_eq_true_iff_forall_mem.1 h1 e he
          simpa using this
        have h3 := ih e.on h2 (Nat.lt_trans h2 hi)
        have hsz : i < listed.size := by
          rcases Nat.lt_or_ge i listed.size with h | h
          · exact h
          · simp [Array.getElem?_eq_none h] at hl
        have h4 : e.on < listed.size := Nat.lt_trans h2 hsz
        simpa [h4] using h3
      rw [hr] at hm
      cases hm

/-- operations that keep a relation, in whatever order they run -/
theorem wpAny_inv (Inv : Array Bool → Act → World → Prop) (hb : backB ops = true)
    (hstep : ∀ listed a w i, Inv listed a w → i ∈ Region.ready md ops listed → wpOp P ops Q i (Inv (listed.setIfInBounds i true)) a w)
    (hdone : ∀ listed a w, Inv listed a w → (∀ i, i < ops.size → listed.getD i true = true) → Q .normal a w) :
    ∀ (fuel : Nat) (listed : Array Bool) (a : Act) (w : World), Inv listed a w → ((List.range ops.size).filter fun i => !listed.getD i true).length ≤ fuel → wpAny P md ops Q fuel listed a w := by
  intro fuel
  induction fuel with
  | zero =>
    intro listed a w hI hf
    have hn : ∀ i, i < ops.size → listed.getD i true = true := by
      intro i hi
      have h0 := List.eq_nil_of_length_eq_zero (Nat.le_zero.1 hf)
      have := (List.filter_eq_nil_iff.1 h0) i (List.mem_range.2 hi)
      simpa using this
    refine ⟨?_, hdone _ _ _ hI hn⟩
    rw [List.eq_nil_iff_forall_not_mem]
    intro i hi
    obtain ⟨h0, o, ho, _⟩ := mem_ready.1 hi
    rw [hn i (Array.getElem?_eq_some_iff.1 ho).1] at h0
    cases h0
  | succ fuel ih =>
    intro listed a w hI hf
    refine ⟨fun hr => hdone _ _ _ hI (ready_nil hb hr), fun i hi => ?_⟩
    refine wpOp_mono (fun a' w' h => ih _ _ _ h ?_) (hstep _ _ _ _ hI hi)
    obtain ⟨h0, o, ho, _⟩ := mem_ready.1 hi
    have hlt := (Array.getElem?_eq_some_iff.1 ho).1
    have hsz : i < listed.size := by
      rcases Nat.lt_or_ge i listed.size with h | h
      · exact h
      · simp [Array.getElem?_eq_none h] at h0
    have hle : ((List.range ops.size).filter fun j => !(listed.setIfInBounds i true).getD j true).length < ((List.range ops.size).filter fun j => !listed.getD j true).length := by
      have hs : ((List.range ops.size).filter fun j => !(listed.setIfInBounds i true).getD j true).Sublist (((List.range ops.size).filter fun j => !listed.getD j true)) := by
        have e : ((List.range ops.size).filter fun j => !(listed.setIfInBounds i true).getD j true) = (((List.range ops.size).filter fun j => !listed.getD j true)).filter fun j => !(listed.setIfInBounds i true).getD j true := by
          rw [List.filter_filter]
          refine List.filter_congr fun j _ => ?_
          by_cases hij : i = j
          · subst hij; simp [hsz]
          · rw [getD_set_ne true hij]; simp
        rw [e]
        exact List.filter_sublist
      rcases Nat.lt_or_ge ((List.range ops.size).filter fun j => !(listed.setIfInBounds i true).getD j true).length ((List.range ops.size).filter fun j => !listed.getD j true).length with h | h
      · exact h
      · have he := hs.eq_of_length_le h
        have hm : i ∈ (List.range ops.size).filter fun j => !listed.getD j true := List.mem_filter.2 ⟨List.mem_range.2 hlt, by rw [h0]; rfl⟩
        rw [← he] at hm
        have := (List.mem_filter.1 hm).2
        simp [hsz] at this
    omega
end

/-- the control characters: the operation, the slot, the value -/
def chOuts : List (Nat × Nat × Int) := [(1, 2, 13), (3, 3, 10), (5, 4, 8), (8, 5, 2), (10, 6, 6), (12, 7, 1), (14, 8, 5), (16, 9, 21), (18, 10, 11), (20, 11, 12), (22, 12, 3), (24, 13, 4)]
/-- the inserts: the operation, the key, what it stands for -/
def chIns : List (Nat × Int × Int) := [(2, 13, 1), (4, 10, 1), (6, 8, 2), (7, 127, 2), (9, 2, 4), (11, 6, 5), (13, 1, 6), (15, 5, 7), (17, 21, 8), (19, 11, 9), (21, 12, 10), (23, 3, 11), (25, 4, 12)]

theorem getD_put (t : Array Value) (i j : Nat) (v : Value) (hi : i < t.size) : (t.setIfInBounds i v).getD j undef = if i = j then v else t.getD j undef := by
  by_cases h : i = j
  · subst h; simp [hi]
  · simp [Array.getElem?_setIfInBounds_ne h, h]
theorem getD_on (l : Array Bool) (i j : Nat) (hi : i < l.size) : (l.setIfInBounds i true).getD j false = if i = j then true else l.getD j false := by
  by_cases h : i = j
  · subst h; simp [hi]
  · simp [Array.getElem?_setIfInBounds_ne h, h]

/-- what holds while some of the operations have run -/
structure ChInv (w0 : World) (listed : Array Bool) (a : Act) (w : World) : Prop where
  size : listed.size = 28
  tsz : a.tmps.size = 15
  defs : a.defers = []
  t1 : listed.getD 0 false = true → a.tmps.getD 1 undef = .map (some w0.heap.size)
  outs : ∀ x ∈ chOuts, listed.getD x.1 false = true → a.tmps.getD x.2.1 undef = .int .i64 x.2.2
  t14 : listed.getD 26 false = true → a.tmps.getD 14 undef = .map (some w0.heap.size)
  t0 : listed.getD 27 false = true → a.tmps.getD 0 undef = .map (some w0.heap.size)
  later : ∀ y ∈ chIns, listed.getD y.1 false = true → listed.getD 0 false = true
  mem0 : listed.getD 0 false = false → w = w0
  mem : listed.getD 0 false = true → ∃ es : Array MapEntry, w = w0.alloc (.map es es.size) ∧ MapKept.Stamped es es.size ∧ (∀ x ∈ es.toList, ∃ y ∈ chIns, listed.getD y.1 false = true ∧ x.key = .int .i64 y.2.1 ∧ x.val = .int .i64 y.2.2) ∧ ∀ y ∈ chIns, listed.getD y.1 false = true → ∃ x ∈ es.toList, x.key = .int .i64 y.2.1

variable {w0 w : World} {listed : Array Bool} {a : Act}

/-- a slot that is written by an operation that isn't an insert and not the first one -/
theorem ChInv.slot (h : ChInv w0 listed a w) (i d : Nat) (v : Value) (hi : i < 28) (hd : d < 15) (h0 : i ≠ 0) (hd1 : d ≠ 1)
    (ho : ∀ x ∈ chOuts, (x.1 = i ∧ x.2.1 = d ∧ v = .int .i64 x.2.2) ∨ (x.1 ≠ i ∧ x.2.1 ≠ d)) (hn : ∀ y ∈ chIns, y.1 ≠ i)
    (h14 : (i = 26 ∧ d = 14 ∧ v = .map (some w0.heap.size)) ∨ (i ≠ 26 ∧ d ≠ 14)) (h00 : (i = 27 ∧ d = 0 ∧ v = .map (some w0.heap.size)) ∨ (i ≠ 27 ∧ d ≠ 0)) :
    ChInv w0 (listed.setIfInBounds i true) (a.put (some d) v) w := by
  have hs : i < listed.size := by rw [h.size]; exact hi
  have ht : d < a.tmps.size := by rw [h.tsz]; exact hd
  refine ⟨by simp [h.size], by simp [Act.put, h.tsz], h.defs, ?_, ?_, ?_, ?_, ?_, ?_, ?_⟩
  · intro hl
    rw [getD_on _ _ _ hs, if_neg h0] at hl
    show (a.tmps.setIfInBounds d v).getD 1 undef = _
    rw [getD_put _ _ _ _ ht, if_neg hd1]
    exact h.t1 hl
  · intro x hx hl
    show (a.tmps.setIfInBounds d v).getD _ undef = _
    rw [getD_put _ _ _ _ ht]
    rcases ho x hx with ⟨e1, e2, e3⟩ | ⟨e1, e2⟩
    · rw [if_pos e2.symm]; exact e3
    · rw [if_neg (Ne.symm e2)]
      rw [getD_on _ _ _ hs, if_neg (Ne.symm e1)] at hl
      exact h.outs x hx hl
  · intro hl
    show (a.tmps.setIfInBounds d v).getD 14 undef = _
    rw [getD_put _ _ _ _ ht]
    rcases h14 with ⟨e1, e2, e3⟩ | ⟨e1, e2⟩
    · rw [if_pos e2]; exact e3
    · rw [if_neg e2]
      rw [getD_on _ _ _ hs, if_neg e1] at hl
      exact h.t14 hl
  · intro hl
    show (a.tmps.setIfInBounds d v).getD 0 undef = _
    rw [getD_put _ _ _ _ ht]
    rcases h00 with ⟨e1, e2, e3⟩ | ⟨e1, e2⟩
    · rw [if_pos e2]; exact e3
    · rw [if_neg e2]
      rw [getD_on _ _ _ hs, if_neg e1] at hl
      exact h.t0 hl
  · intro y hy hl
    rw [getD_on _ _ _ hs, if_neg (Ne.symm (hn y hy))] at hl
    rw [getD_on _ _ _ hs, if_neg h0]
    exact h.later y hy hl
  · intro hl
    rw [getD_on _ _ _ hs, if_neg h0] at hl
    exact h.mem0 hl
  · intro hl
    rw [getD_on _ _ _ hs, if_neg h0] at hl
    obtain ⟨es, hw, hst, h1, h2⟩ := h.mem hl
    refine ⟨es, hw, hst, ?_, ?_⟩
    · intro x hx
      obtain ⟨y, hy, hy1, hy2⟩ := h1 x hx
      exact ⟨y, hy, by rw [getD_on _ _ _ hs, if_neg (Ne.symm (hn y hy))]; exact hy1, hy2⟩
    · intro y hy hl'
      rw [getD_on _ _ _ hs, if_neg (Ne.symm (hn y hy))] at hl'
      exact h2 y hy hl'

/-- the first: the map is made -/
theorem ChInv.make (h : ChInv w0 listed a w) (h0 : listed.getD 0 false = false) : ChInv w0 (listed.setIfInBounds 0 true) (a.put (some 1) (.map (some w.heap.size))) (w.alloc (.map #[] 0)) := by
  have hs : 0 < listed.size := by rw [h.size]; decide
  have ht : 1 < a.tmps.size := by rw [h.tsz]; decide
  obtain rfl := h.mem0 h0
  have hno : ∀ y ∈ chIns, 0 ≠ y.1 := by decide
  have hoo : ∀ x ∈ chOuts, 0 ≠ x.1 ∧ 1 ≠ x.2.1 := by decide
  refine ⟨by simp [h.size], by simp [Act.put, h.tsz], h.defs, ?_, ?_, ?_, ?_, ?_, ?_, ?_⟩
  · intro hl
    show (a.tmps.setIfInBounds 1 _).getD 1 undef = _
    rw [getD_put _ _ _ _ ht, if_pos rfl]
  · intro x hx hl
    show (a.tmps.setIfInBounds 1 _).getD _ undef = _
    rw [getD_put _ _ _ _ ht, if_neg (hoo x hx).2]
    rw [getD_on _ _ _ hs, if_neg (hoo x hx).1] at hl
    exact h.outs x hx hl
  · intro hl
    show (a.tmps.setIfInBounds 1 _).getD 14 undef = _
    rw [getD_put _ _ _ _ ht, if_neg (by decide)]
    rw [getD_on _ _ _ hs, if_neg (by decide)] at hl
    exact h.t14 hl
  · intro hl
    show (a.tmps.setIfInBounds 1 _).getD 0 undef = _
    rw [getD_put _ _ _ _ ht, if_neg (by decide)]
    rw [getD_on _ _ _ hs, if_neg (by decide)] at hl
    exact h.t0 hl
  · intro y hy hl
    rw [getD_on _ _ _ hs, if_pos rfl]
  · intro hl
    rw [getD_on _ _ _ hs, if_pos rfl] at hl
    cases hl
  · intro hl
    refine ⟨#[], rfl, MapKept.stamped_empty _, by simp, ?_⟩
    intro y hy hl'
    rw [getD_on _ _ _ hs, if_neg (hno y hy)] at hl'
    rw [h.later y hy hl'] at h0
    cases h0

/-- an insert -/
theorem ChInv.insert (h : ChInv w0 listed a w) (i : Nat) (k v : Int) (hm : (i, k, v) ∈ chIns) (h0 : listed.getD 0 false = true) (hi : listed.getD i false = false) :
    ∃ es : Array MapEntry, w = w0.alloc (.map es es.size) ∧ Instr.findNow (.int .i64) (.int .i64 k) es.toList 0 = some none ∧ ChInv w0 (listed.setIfInBounds i true) a (w0.alloc (.map (es.push { key := .int .i64 k, val := .int .i64 v, born := es.size }) (es.size + 1))) := by
  have hall : ∀ y ∈ chIns, ∀ z ∈ chIns, y.2.1 = z.2.1 → y = z := by decide
  have hi0 : ∀ y ∈ chIns, y.1 ≠ 0 ∧ y.1 ≠ 26 ∧ y.1 ≠ 27 ∧ y.1 < 28 := by decide
  have hio : ∀ y ∈ chIns, ∀ x ∈ chOuts, y.1 ≠ x.1 := by decide
  have hs : i < listed.size := by rw [h.size]; exact (hi0 _ hm).2.2.2
  obtain ⟨es, hw, hst, h1, h2⟩ := h.mem h0
  have hfn : Instr.findNow (.int .i64) (.int .i64 k) es.toList 0 = some none ∧ ∀ x ∈ es.toList, x.key ≠ .int .i64 k := by
    rcases MapKept.findNow_spec (d := .int .i64) (k := .int .i64 k) (by simp [MapKept.IsKey]) es.toList 0 (fun x hx => by obtain ⟨y, _, _, hk, _⟩ := h1 x hx; rw [hk]; simp [MapKept.IsKey]) with ⟨hf, hf2⟩ | ⟨j, e, _, he, hk⟩
    · exact ⟨hf, hf2⟩
    · exfalso
      obtain ⟨y, hy, hyl, hyk, _⟩ := h1 e (List.mem_of_getElem? he)
      rw [hyk] at hk
      have e1 : y.2.1 = k := by injection hk
      have := hall y hy (i, k, v) hm e1
      rw [this] at hyl
      rw [hi] at hyl
      cases hyl
  refine ⟨es, hw, hfn.1, ?_⟩
  · refine ⟨by simp [h.size], h.tsz, h.defs, ?_, ?_, ?_, ?_, ?_, ?_, ?_⟩
    · intro hl; exact h.t1 h0
    · intro x hx hl
      rw [getD_on _ _ _ hs, if_neg (hio _ hm x hx)] at hl
      exact h.outs x hx hl
    · intro hl
      rw [getD_on _ _ _ hs, if_neg (hi0 _ hm).2.1] at hl
      exact h.t14 hl
    · intro hl
      rw [getD_on _ _ _ hs, if_neg (hi0 _ hm).2.2.1] at hl
      exact h.t0 hl
    · intro y hy hl
      rw [getD_on _ _ _ hs, if_neg (hi0 _ hm).1]
      exact h0
    · intro hl
      rw [getD_on _ _ _ hs, if_neg (hi0 _ hm).1, h0] at hl
      cases hl
    · intro hl
      refine ⟨es.push { key := .int .i64 k, val := .int .i64 v, born := es.size }, by rw [Array.size_push], by rw [Array.size_push]; exact MapKept.stamped_push hst hfn.2, ?_, ?_⟩
      · intro x hx
        rw [Array.toList_push, List.mem_append, List.mem_singleton] at hx
        rcases hx with hx | rfl
        · obtain ⟨y, hy, hy1, hy2⟩ := h1 x hx
          refine ⟨y, hy, ?_, hy2⟩
          rw [getD_on _ _ _ hs]
          split
          · rfl
          · exact hy1
        · exact ⟨(i, k, v), hm, by rw [getD_on _ _ _ hs, if_pos rfl], rfl, rfl⟩
      · intro y hy hl'
        rw [getD_on _ _ _ hs] at hl'
        rw [Array.toList_push]
        by_cases e : i = y.1
        · have hnd : ∀ y ∈ chIns, ∀ z ∈ chIns, y.1 = z.1 → y = z := by decide
          have := hnd (i, k, v) hm y hy e
          subst this
          exact ⟨_, List.mem_append_right _ (List.mem_singleton.2 rfl), rfl⟩
        · rw [if_neg e] at hl'
          obtain ⟨x, hx, hk⟩ := h2 y hy hl'
          exact ⟨x, List.mem_append_left _ hx, hk⟩

/-- the table: a map's entries are the keys of control characters, in some order -/
def ChTab (es : Array MapEntry) : Prop := (∀ x ∈ es.toList, ∃ y ∈ chIns, x.key = .int .i64 y.2.1 ∧ x.val = .int .i64 y.2.2) ∧ ∀ y ∈ chIns, ∃ x ∈ es.toList, x.key = .int .i64 y.2.1

theorem fifteen (t : Array Value) (h : t.size = 15) (v : Value) (h0 : t.getD 0 undef = v) : ∃ x1 x2 x3 x4 x5 x6 x7 x8 x9 x10 x11 x12 x13 x14, t = #[v, x1, x2, x3, x4, x5, x6, x7, x8, x9, x10, x11, x12, x13, x14] := by
  rcases t with ⟨l⟩
  match l, h with
  | [x0, x1, x2, x3, x4, x5, x6, x7, x8, x9, x10, x11, x12, x13, x14], _ =>
    have : x0 = v := by simpa using h0
    subst this
    exact ⟨_, _, _, _, _, _, _, _, _, _, _, _, _, _, rfl⟩

theorem listed_false (listed : Array Bool) (i : Nat) (h : listed.getD i true = false) : listed.getD i false = false := by
  rcases Nat.lt_or_ge i listed.size with h' | h'
  · simpa [h'] using h
  · simp [Array.getElem?_eq_none h'] at h

section
variable {P : Program} {ops : Array Oper} {Q : Exit → Act → World → Prop}
theorem op_ctrl {ops : Array Oper} {Q : Exit → Act → World → Prop} {i s : Nat} {x v : Int} {pos : String} {aft : Array Edge} {T T' : TypeId}
    (ho : ops[i]? = some { dst := some s, op := .call { callee := .value (.func 71), args := #[.const (.int .i32 x)], argTypes := #[T'] }, type := T, pos := pos, after := aft, guard := none })
    (hc : ∀ w, Calls Tryd.prog 71 #[.int .i32 x] w fun e w' => e = .returned (.int .i64 v) ∧ w' = w) {K : Act → World → Prop} (hK : K (a.put (some s) (.int .i64 v)) w) : wpOp Tryd.prog ops Q i K a w := by
  refine wpOp_step ho (fun K' h => ?_)
  rw [if_pos (show Region.wanted _ (yielded ops a.tmps) = true from rfl)]
  go_simp
  refine (hc w).mono ?_
  rintro e w' ⟨rfl, rfl⟩
  exact h _ _ hK
theorem op_make {i s : Nat} {pos : String} {aft : Array Edge} {T T' : TypeId}
    (ho : ops[i]? = some { dst := some s, op := .makeMap T' none, type := T, pos := pos, after := aft, guard := none })
    {K : Act → World → Prop} (hK : K (a.put (some s) (.map (some w.heap.size))) (w.alloc (.map #[] 0))) : wpOp P ops Q i K a w := by
  have hmm := @run_makeMap P
  refine wpOp_step ho (fun K' h => ?_)
  rw [if_pos (show Region.wanted _ (yielded ops a.tmps) = true from rfl)]
  go_simp
  exact h _ _ hK
theorem op_move {i s d : Nat} {pos : String} {aft : Array Edge} {T : TypeId} {v : Value}
    (ho : ops[i]? = some { dst := some s, op := .move (.tmp d), type := T, pos := pos, after := aft, guard := none }) (hv : a.eval (.tmp d) = v)
    {K : Act → World → Prop} (hK : K (a.put (some s) v) w) : wpOp P ops Q i K a w := by
  subst hv
  refine wpOp_step ho (fun K' h => ?_)
  rw [if_pos (show Region.wanted _ (yielded ops a.tmps) = true from rfl)]
  exact h _ _ hK
theorem op_assign {i s d : Nat} {pos : String} {aft : Array Edge} {T : TypeId} {v : Value}
    (ho : ops[i]? = some { dst := some s, op := .assign (.tmp d), type := T, pos := pos, after := aft, guard := none }) (hv : a.eval (.tmp d) = v)
    {K : Act → World → Prop} (hK : K (a.put (some s) v) w) : wpOp P ops Q i K a w := by
  subst hv
  refine wpOp_step ho (fun K' h => ?_)
  rw [if_pos (show Region.wanted _ (yielded ops a.tmps) = true from rfl)]
  exact h _ _ hK
theorem op_insert {i : Nat} {pos : String} {aft : Array Edge} {T T' : TypeId} {m x y : Operand} {k v : Int} {es : Array MapEntry}
    (ho : ops[i]? = some { dst := none, op := .insert T' m x y, type := T, pos := pos, after := aft, guard := none })
    {w0 : World} {KT ET : TypeId} (ht : P.underlying T' = some (.map KT ET)) (hk : P.underlying KT = some (.int .i64))
    (hm : a.eval m = .map (some w0.heap.size)) (hx : a.eval x = .int .i64 k) (hy : a.eval y = .int .i64 v) (hw : w = w0.alloc (.map es es.size)) (hf : Instr.findNow (.int .i64) (.int .i64 k) es.toList 0 = some none)
    {K : Act → World → Prop} (hK : K a (w0.alloc (.map (es.push { key := .int .i64 k, val := .int .i64 v, born := es.size }) (es.size + 1)))) : wpOp P ops Q i K a w := by
  subst hw
  have hp := run_putI w0 ht hk es es.size k (.int .i64 v) hf
  refine wpOp_step ho (fun K' h => ?_)
  rw [if_pos (show Region.wanted _ (yielded ops a.tmps) = true from rfl)]
  unfold Oper.wp
  simp only [execOp, hm, hx, hy, Sem.run_bind, hp, Result.andThen, Sem.run_pure]
  exact h _ _ hK
end

/-- what holds ahead of the first -/
theorem ChInv.start (w0 : World) (a : Act) (ht : a.tmps.size = 15) (hd : a.defers = []) : ChInv w0 (Array.replicate 28 false) a w0 := by
  have hf : ∀ i, (Array.replicate 28 false).getD i false = false := by
    intro i
    rcases Nat.lt_or_ge i 28 with h | h
    · simp [h]
    · simp [Array.getElem?_eq_none, h]
  refine ⟨by simp, ht, hd, ?_, ?_, ?_, ?_, ?_, fun _ => rfl, ?_⟩
  all_goals
    intros
    rename_i h
    rw [hf] at h
    cases h

set_option maxRecDepth 100000 in
set_option maxHeartbeats 4000000 in
theorem chars_c (w : World) : Calls Tryd.prog 54 #[] w fun e w' => ∃ es, e = .returned (.map (some w.heap.size)) ∧ w'.heap[w.heap.size]? = some (.map es es.size) ∧ MapKept.Stamped es es.size ∧ ChTab es ∧ Below w.heap.size w w' := by
  have hmm := @run_makeMap Tryd.prog
  go_enter Tryd.func54, Tryd.ntmps54
  go_wp2
  refine wp_region_any (by kernel_rfl) ?_
  refine wpAny_inv (ChInv { w with drawn := w.drawn + 1 }) (by kernel_rfl) ?_ ?_ _ _ _ _ (ChInv.start _ _ rfl rfl) (Nat.le_trans (List.length_filter_le _ _) (by rw [List.length_range]; exact Nat.le_refl _))
  · intro listed a w1 i hI hr
    obtain ⟨hl, o, ho, hall⟩ := mem_ready.1 hr
    have hlt : i < 28 := (Array.getElem?_eq_some_iff.1 ho).1
    have hl' := listed_false _ _ hl
    have hc : i = 0 ∨ i = 1 ∨ i = 2 ∨ i = 3 ∨ i = 4 ∨ i = 5 ∨ i = 6 ∨ i = 7 ∨ i = 8 ∨ i = 9 ∨ i = 10 ∨ i = 11 ∨ i = 12 ∨ i = 13 ∨ i = 14 ∨ i = 15 ∨ i = 16 ∨ i = 17 ∨ i = 18 ∨ i = 19 ∨ i = 20 ∨ i = 21 ∨ i = 22 ∨ i = 23 ∨ i = 24 ∨ i = 25 ∨ i = 26 ∨ i = 27 := by omega
    rcases hc with rfl | rfl | rfl | rfl | rfl | rfl | rfl | rfl | rfl | rfl | rfl | rfl | rfl | rfl | rfl | rfl | rfl | rfl | rfl | rfl | rfl | rfl | rfl | rfl | rfl | rfl | rfl | rfl
    · exact op_make rfl (hI.make hl')
    · refine op_ctrl (a := a) rfl (fun w => ctrl77 w) (hI.slot 1 2 _ (by decide) (by decide) (by decide) (by decide) (fun x hx => ((by decide : ∀ x ∈ chOuts, (x.1 = 1 ∧ x.2.1 = 2 ∧ 13 = x.2.2) ∨ (x.1 ≠ 1 ∧ x.2.1 ≠ 2)) x hx).imp (fun h => ⟨h.1, h.2.1, by rw [h.2.2]⟩) id) (by decide) (Or.inr (by decide)) (Or.inr (by decide)))
    · cases ho
      have z0 := hall ⟨0, .data⟩ (by simp) rfl
      have z1 := hall ⟨1, .data⟩ (by simp) rfl
      obtain ⟨es, hw, hf, hn⟩ := hI.insert 2 13 1 (by decide) z0 hl'
      refine op_insert (a := a) (m := .tmp 1) (x := .tmp 2) (y := .const (.int .i64 1)) (w0 := { w with drawn := w.drawn + 1 }) rfl Tryd.underlying89 Tryd.underlying3 (hI.t1 z0) (hI.outs (1, 2, 13) (by decide) z1) rfl hw hf hn
    · refine op_ctrl (a := a) rfl (fun w => ctrl74 w) (hI.slot 3 3 _ (by decide) (by decide) (by decide) (by decide) (fun x hx => ((by decide : ∀ x ∈ chOuts, (x.1 = 3 ∧ x.2.1 = 3 ∧ 10 = x.2.2) ∨ (x.1 ≠ 3 ∧ x.2.1 ≠ 3)) x hx).imp (fun h => ⟨h.1, h.2.1, by rw [h.2.2]⟩) id) (by decide) (Or.inr (by decide)) (Or.inr (by decide)))
    · cases ho
      have z0 := hall ⟨0, .data⟩ (by simp) rfl
      have z1 := hall ⟨3, .data⟩ (by simp) rfl
      obtain ⟨es, hw, hf, hn⟩ := hI.insert 4 10 1 (by decide) z0 hl'
      refine op_insert (a := a) (m := .tmp 1) (x := .tmp 3) (y := .const (.int .i64 1)) (w0 := { w with drawn := w.drawn + 1 }) rfl Tryd.underlying89 Tryd.underlying3 (hI.t1 z0) (hI.outs (3, 3, 10) (by decide) z1) rfl hw hf hn
    · refine op_ctrl (a := a) rfl (fun w => ctrl72 w) (hI.slot 5 4 _ (by decide) (by decide) (by decide) (by decide) (fun x hx => ((by decide : ∀ x ∈ chOuts, (x.1 = 5 ∧ x.2.1 = 4 ∧ 8 = x.2.2) ∨ (x.1 ≠ 5 ∧ x.2.1 ≠ 4)) x hx).imp (fun h => ⟨h.1, h.2.1, by rw [h.2.2]⟩) id) (by decide) (Or.inr (by decide)) (Or.inr (by decide)))
    · cases ho
      have z0 := hall ⟨0, .data⟩ (by simp) rfl
      have z1 := hall ⟨5, .data⟩ (by simp) rfl
      obtain ⟨es, hw, hf, hn⟩ := hI.insert 6 8 2 (by decide) z0 hl'
      refine op_insert (a := a) (m := .tmp 1) (x := .tmp 4) (y := .const (.int .i64 2)) (w0 := { w with drawn := w.drawn + 1 }) rfl Tryd.underlying89 Tryd.underlying3 (hI.t1 z0) (hI.outs (5, 4, 8) (by decide) z1) rfl hw hf hn
    · cases ho
      have z0 := hall ⟨0, .data⟩ (by simp) rfl
      obtain ⟨es, hw, hf, hn⟩ := hI.insert 7 127 2 (by decide) z0 hl'
      refine op_insert (a := a) (m := .tmp 1) (x := .const (.int .i64 127)) (y := .const (.int .i64 2)) (w0 := { w with drawn := w.drawn + 1 }) rfl Tryd.underlying89 Tryd.underlying3 (hI.t1 z0) rfl rfl hw hf hn
    · refine op_ctrl (a := a) rfl (fun w => ctrl66 w) (hI.slot 8 5 _ (by decide) (by decide) (by decide) (by decide) (fun x hx => ((by decide : ∀ x ∈ chOuts, (x.1 = 8 ∧ x.2.1 = 5 ∧ 2 = x.2.2) ∨ (x.1 ≠ 8 ∧ x.2.1 ≠ 5)) x hx).imp (fun h => ⟨h.1, h.2.1, by rw [h.2.2]⟩) id) (by decide) (Or.inr (by decide)) (Or.inr (by decide)))
    · cases ho
      have z0 := hall ⟨0, .data⟩ (by simp) rfl
      have z1 := hall ⟨8, .data⟩ (by simp) rfl
      obtain ⟨es, hw, hf, hn⟩ := hI.insert 9 2 4 (by decide) z0 hl'
      refine op_insert (a := a) (m := .tmp 1) (x := .tmp 5) (y := .const (.int .i64 4)) (w0 := { w with drawn := w.drawn + 1 }) rfl Tryd.underlying89 Tryd.underlying3 (hI.t1 z0) (hI.outs (8, 5, 2) (by decide) z1) rfl hw hf hn
    · refine op_ctrl (a := a) rfl (fun w => ctrl70 w) (hI.slot 10 6 _ (by decide) (by decide) (by decide) (by decide) (fun x hx => ((by decide : ∀ x ∈ chOuts, (x.1 = 10 ∧ x.2.1 = 6 ∧ 6 = x.2.2) ∨ (x.1 ≠ 10 ∧ x.2.1 ≠ 6)) x hx).imp (fun h => ⟨h.1, h.2.1, by rw [h.2.2]⟩) id) (by decide) (Or.inr (by decide)) (Or.inr (by decide)))
    · cases ho
      have z0 := hall ⟨0, .data⟩ (by simp) rfl
      have z1 := hall ⟨10, .data⟩ (by simp) rfl
      obtain ⟨es, hw, hf, hn⟩ := hI.insert 11 6 5 (by decide) z0 hl'
      refine op_insert (a := a) (m := .tmp 1) (x := .tmp 6) (y := .const (.int .i64 5)) (w0 := { w with drawn := w.drawn + 1 }) rfl Tryd.underlying89 Tryd.underlying3 (hI.t1 z0) (hI.outs (10, 6, 6) (by decide) z1) rfl hw hf hn
    · refine op_ctrl (a := a) rfl (fun w => ctrl65 w) (hI.slot 12 7 _ (by decide) (by decide) (by decide) (by decide) (fun x hx => ((by decide : ∀ x ∈ chOuts, (x.1 = 12 ∧ x.2.1 = 7 ∧ 1 = x.2.2) ∨ (x.1 ≠ 12 ∧ x.2.1 ≠ 7)) x hx).imp (fun h => ⟨h.1, h.2.1, by rw [h.2.2]⟩) id) (by decide) (Or.inr (by decide)) (Or.inr (by decide)))
    · cases ho
      have z0 := hall ⟨0, .data⟩ (by simp) rfl
      have z1 := hall ⟨12, .data⟩ (by simp) rfl
      obtain ⟨es, hw, hf, hn⟩ := hI.insert 13 1 6 (by decide) z0 hl'
      refine op_insert (a := a) (m := .tmp 1) (x := .tmp 7) (y := .const (.int .i64 6)) (w0 := { w with drawn := w.drawn + 1 }) rfl Tryd.underlying89 Tryd.underlying3 (hI.t1 z0) (hI.outs (12, 7, 1) (by decide) z1) rfl hw hf hn
    · refine op_ctrl (a := a) rfl (fun w => ctrl69 w) (hI.slot 14 8 _ (by decide) (by decide) (by decide) (by decide) (fun x hx => ((by decide : ∀ x ∈ chOuts, (x.1 = 14 ∧ x.2.1 = 8 ∧ 5 = x.2.2) ∨ (x.1 ≠ 14 ∧ x.2.1 ≠ 8)) x hx).imp (fun h => ⟨h.1, h.2.1, by rw [h.2.2]⟩) id) (by decide) (Or.inr (by decide)) (Or.inr (by decide)))
    · cases ho
      have z0 := hall ⟨0, .data⟩ (by simp) rfl
      have z1 := hall ⟨14, .data⟩ (by simp) rfl
      obtain ⟨es, hw, hf, hn⟩ := hI.insert 15 5 7 (by decide) z0 hl'
      refine op_insert (a := a) (m := .tmp 1) (x := .tmp 8) (y := .const (.int .i64 7)) (w0 := { w with drawn := w.drawn + 1 }) rfl Tryd.underlying89 Tryd.underlying3 (hI.t1 z0) (hI.outs (14, 8, 5) (by decide) z1) rfl hw hf hn
    · refine op_ctrl (a := a) rfl (fun w => ctrl85 w) (hI.slot 16 9 _ (by decide) (by decide) (by decide) (by decide) (fun x hx => ((by decide : ∀ x ∈ chOuts, (x.1 = 16 ∧ x.2.1 = 9 ∧ 21 = x.2.2) ∨ (x.1 ≠ 16 ∧ x.2.1 ≠ 9)) x hx).imp (fun h => ⟨h.1, h.2.1, by rw [h.2.2]⟩) id) (by decide) (Or.inr (by decide)) (Or.inr (by decide)))
    · cases ho
      have z0 := hall ⟨0, .data⟩ (by simp) rfl
      have z1 := hall ⟨16, .data⟩ (by simp) rfl
      obtain ⟨es, hw, hf, hn⟩ := hI.insert 17 21 8 (by decide) z0 hl'
      refine op_insert (a := a) (m := .tmp 1) (x := .tmp 9) (y := .const (.int .i64 8)) (w0 := { w with drawn := w.drawn + 1 }) rfl Tryd.underlying89 Tryd.underlying3 (hI.t1 z0) (hI.outs (16, 9, 21) (by decide) z1) rfl hw hf hn
    · refine op_ctrl (a := a) rfl (fun w => ctrl75 w) (hI.slot 18 10 _ (by decide) (by decide) (by decide) (by decide) (fun x hx => ((by decide : ∀ x ∈ chOuts, (x.1 = 18 ∧ x.2.1 = 10 ∧ 11 = x.2.2) ∨ (x.1 ≠ 18 ∧ x.2.1 ≠ 10)) x hx).imp (fun h => ⟨h.1, h.2.1, by rw [h.2.2]⟩) id) (by decide) (Or.inr (by decide)) (Or.inr (by decide)))
    · cases ho
      have z0 := hall ⟨0, .data⟩ (by simp) rfl
      have z1 := hall ⟨18, .data⟩ (by simp) rfl
      obtain ⟨es, hw, hf, hn⟩ := hI.insert 19 11 9 (by decide) z0 hl'
      refine op_insert (a := a) (m := .tmp 1) (x := .tmp 10) (y := .const (.int .i64 9)) (w0 := { w with drawn := w.drawn + 1 }) rfl Tryd.underlying89 Tryd.underlying3 (hI.t1 z0) (hI.outs (18, 10, 11) (by decide) z1) rfl hw hf hn
    · refine op_ctrl (a := a) rfl (fun w => ctrl76 w) (hI.slot 20 11 _ (by decide) (by decide) (by decide) (by decide) (fun x hx => ((by decide : ∀ x ∈ chOuts, (x.1 = 20 ∧ x.2.1 = 11 ∧ 12 = x.2.2) ∨ (x.1 ≠ 20 ∧ x.2.1 ≠ 11)) x hx).imp (fun h => ⟨h.1, h.2.1, by rw [h.2.2]⟩) id) (by decide) (Or.inr (by decide)) (Or.inr (by decide)))
    · cases ho
      have z0 := hall ⟨0, .data⟩ (by simp) rfl
      have z1 := hall ⟨20, .data⟩ (by simp) rfl
      obtain ⟨es, hw, hf, hn⟩ := hI.insert 21 12 10 (by decide) z0 hl'
      refine op_insert (a := a) (m := .tmp 1) (x := .tmp 11) (y := .const (.int .i64 10)) (w0 := { w with drawn := w.drawn + 1 }) rfl Tryd.underlying89 Tryd.underlying3 (hI.t1 z0) (hI.outs (20, 11, 12) (by decide) z1) rfl hw hf hn
    · refine op_ctrl (a := a) rfl (fun w => ctrl67 w) (hI.slot 22 12 _ (by decide) (by decide) (by decide) (by decide) (fun x hx => ((by decide : ∀ x ∈ chOuts, (x.1 = 22 ∧ x.2.1 = 12 ∧ 3 = x.2.2) ∨ (x.1 ≠ 22 ∧ x.2.1 ≠ 12)) x hx).imp (fun h => ⟨h.1, h.2.1, by rw [h.2.2]⟩) id) (by decide) (Or.inr (by decide)) (Or.inr (by decide)))
    · cases ho
      have z0 := hall ⟨0, .data⟩ (by simp) rfl
      have z1 := hall ⟨22, .data⟩ (by simp) rfl
      obtain ⟨es, hw, hf, hn⟩ := hI.insert 23 3 11 (by decide) z0 hl'
      refine op_insert (a := a) (m := .tmp 1) (x := .tmp 12) (y := .const (.int .i64 11)) (w0 := { w with drawn := w.drawn + 1 }) rfl Tryd.underlying89 Tryd.underlying3 (hI.t1 z0) (hI.outs (22, 12, 3) (by decide) z1) rfl hw hf hn
    · refine op_ctrl (a := a) rfl (fun w => ctrl68 w) (hI.slot 24 13 _ (by decide) (by decide) (by decide) (by decide) (fun x hx => ((by decide : ∀ x ∈ chOuts, (x.1 = 24 ∧ x.2.1 = 13 ∧ 4 = x.2.2) ∨ (x.1 ≠ 24 ∧ x.2.1 ≠ 13)) x hx).imp (fun h => ⟨h.1, h.2.1, by rw [h.2.2]⟩) id) (by decide) (Or.inr (by decide)) (Or.inr (by decide)))
    · cases ho
      have z0 := hall ⟨0, .data⟩ (by simp) rfl
      have z1 := hall ⟨24, .data⟩ (by simp) rfl
      obtain ⟨es, hw, hf, hn⟩ := hI.insert 25 4 12 (by decide) z0 hl'
      refine op_insert (a := a) (m := .tmp 1) (x := .tmp 13) (y := .const (.int .i64 12)) (w0 := { w with drawn := w.drawn + 1 }) rfl Tryd.underlying89 Tryd.underlying3 (hI.t1 z0) (hI.outs (24, 13, 4) (by decide) z1) rfl hw hf hn
    · cases ho
      have z0 := hall ⟨0, .data⟩ (by simp) rfl
      refine op_move (a := a) rfl (hI.t1 z0) (hI.slot 26 14 _ (by decide) (by decide) (by decide) (by decide) (fun x hx => Or.inr ((by decide : ∀ x ∈ chOuts, x.1 ≠ 26 ∧ x.2.1 ≠ 14) x hx)) (by decide) (Or.inl ⟨rfl, rfl, rfl⟩) (Or.inr (by decide)))
    · cases ho
      have z0 := hall ⟨26, .data⟩ (by simp) rfl
      refine op_assign (a := a) rfl (hI.t14 z0) (hI.slot 27 0 _ (by decide) (by decide) (by decide) (by decide) (fun x hx => Or.inr ((by decide : ∀ x ∈ chOuts, x.1 ≠ 27 ∧ x.2.1 ≠ 0) x hx)) (by decide) (Or.inr (by decide)) (Or.inl ⟨rfl, rfl, rfl⟩))
  · intro listed a w1 hI hn
    have hn' : ∀ i, i < 28 → listed.getD i false = true := fun i hi => by
      have := hn i hi
      have hs := hI.size
      simpa [hs, hi] using this
    obtain ⟨t, ds⟩ := a
    obtain ⟨x1, x2, x3, x4, x5, x6, x7, x8, x9, x10, x11, x12, x13, x14, ht⟩ := fifteen t hI.tsz _ (hI.t0 (hn' 27 (by decide)))
    obtain ⟨es, hw, hst, h1, h2⟩ := hI.mem (hn' 0 (by decide))
    have hds : ds = [] := hI.defs
    clear hI
    subst ht hds hw
    have hins : ∀ y ∈ chIns, y.1 < 28 := by decide
    go_wp2
    go_ret
    refine ⟨es, rfl, heap_alloc_new _ _, hst, ⟨fun x hx => ?_, fun y hy => h2 y hy (hn' _ (hins y hy))⟩, ?_⟩
    · obtain ⟨y, hy, _, h⟩ := h1 x hx
      exact ⟨y, hy, h⟩
    · exact ((Below.refl _ _).drew).alloc (Nat.le_refl _) _


end Go.Proofs.YtcakeolnokninaaDoor.Edit

/- The key of a sequence: escseq.Next, walked. -/
set_option linter.unusedVariables false
set_option linter.unusedSimpArgs false
namespace Go.Proofs.YtcakeolnokninaaDoor.Edit
open Go.RowKit Go.Lib Go.Shelf ChangeShapes Mem Utf UtfP

/-- the sequences that are keys -/
def seqKeys : List (List UInt8 × Int) := [([27, 91, 67], 5), ([27, 79, 67], 5), ([27, 91, 68], 4), ([27, 79, 68], 4), ([27, 91, 72], 6), ([27, 79, 72], 6), ([27, 91, 49, 126], 6), ([27, 91, 55, 126], 6),
  ([27, 91, 70], 7), ([27, 79, 70], 7), ([27, 91, 52, 126], 7), ([27, 91, 56, 126], 7), ([27, 91, 51, 126], 3), ([27, 91, 50, 48, 48, 126], 13), ([27, 91, 50, 48, 49, 126], 14)]

def lookT : List (List UInt8 × Int) → List UInt8 → Option Int
  | [], _ => none
  | (k, v) :: r, s => if s = k then some v else lookT r s
def entsT : List (List UInt8 × Int) → Nat → List MapEntry
  | [], _ => []
  | (k, v) :: r, n => { key := .string (strOf k), val := .int .i64 v, born := n } :: entsT r (n + 1)
theorem seqTab_ents : seqTab.toList = entsT seqKeys 0 := rfl
theorem find_ents (s : List UInt8) : ∀ (l : List (List UInt8 × Int)) (n i : Nat),
    (lookT l s = none ∧ Instr.findNow .string (.string (strOf s)) (entsT l n) i = some none) ∨ ∃ v j, lookT l s = some v ∧ Instr.findNow .string (.string (strOf s)) (entsT l n) i = some (some (j, .int .i64 v)) := by
  intro l
  induction l with
  | nil => intro n i; exact Or.inl ⟨rfl, rfl⟩
  | cons x r ih =>
    obtain ⟨k, v⟩ := x
    intro n i
    by_cases h : s = k
    · refine Or.inr ⟨v, i, by simp [lookT, h], ?_⟩
      have hb : (strOf s == strOf k) = true := by rw [MapKept.bytes_beq, h]
      simp [entsT, Instr.findNow, Instr.sameNow, hb]
    · have hb : (strOf s == strOf k) = false := by
        cases hb : (strOf s == strOf k)
        · rfl
        · rw [MapKept.bytes_beq] at hb
          exact absurd (strOf_inj hb) h
      have e : Instr.findNow .string (.string (strOf s)) (entsT ((k, v) :: r) n) i = Instr.findNow .string (.string (strOf s)) (entsT r (n + 1)) (i + 1) := by
        simp [entsT, Instr.findNow, Instr.sameNow, hb]
      rw [e]
      have e2 : lookT ((k, v) :: r) s = lookT r s := by simp [lookT, h]
      rw [e2]
      exact ih (n + 1) (i + 1)

/-- the key of a whole sequence -/
def seqKey (s : List UInt8) : Int := (lookT seqKeys s).getD 15

/-- the sequence from a place on: the key, its bytes, the error -/
def seqF (l : List UInt8) : Nat → Nat → Bool → Int × Nat × Int
  | 0, _, _ => (0, l.length, 7)
  | n + 1, i, oth =>
    if 64 ≤ bt l i ∧ bt l i ≤ 126 then (seqKey (l.take (i + 1)), i + 1, 0)
    else if bt l 1 = 79 ∨ 34 ≤ i then (15, i, 0)
    else if (48 ≤ bt l i ∧ bt l i ≤ 63) ∧ oth = false then seqF l n (i + 1) oth
    else if 32 ≤ bt l i ∧ bt l i ≤ 47 then seqF l n (i + 1) true
    else (15, i, 0)
/-- the key of the sequence that bytes begin with -/
def seqN (l : List UInt8) : Int × Nat × Int :=
  if l = [] then (0, 0, 6)
  else if bt l 0 ≠ 27 then (0, 0, 8)
  else if 1 < l.length ∧ bt l 1 ≠ 91 ∧ bt l 1 ≠ 79 then (15, 1, 0)
  else seqF l (l.length - 2) 2 false

theorem seq_below {w W : World} {g : Nat} (hW : But [] w W) (hg : w.heap.size ≤ g) (u v : Value) : Below w.heap.size w ((W.setCell ⟨g, 0, none⟩ u).setCell ⟨g, 1, none⟩ v) :=
  ((hW.set (Or.inr hg) _).set (Or.inr hg) _).below (Nat.le_refl _) (by simp)

/-- the sequence's table, looked up -/
theorem look_some {w : World} {b : Nat} (hb : w.heap[b]? = some (.map seqTab 15)) (s : List UInt8) (v : Int) (h : lookT seqKeys s = some v) :
    (Instr.lookup 110 (.map (some b)) (.string (strOf s)) true).run Tryd.prog w = .ok (.tuple #[.int .i64 v, .bool true]) w := by
  rcases find_ents s seqKeys 0 0 with ⟨h1, _⟩ | ⟨v', j, h1, h2⟩
  · rw [h] at h1; cases h1
  · rw [h] at h1
    cases h1
    rw [← seqTab_ents] at h2
    exact run_lookS w Tryd.underlying110 Tryd.underlying9 b seqTab 15 hb _ _ _ h2
theorem look_none {w : World} {b : Nat} (hb : w.heap[b]? = some (.map seqTab 15)) (s : List UInt8) (h : lookT seqKeys s = none) :
    (Instr.lookup 110 (.map (some b)) (.string (strOf s)) true).run Tryd.prog w = .ok (.tuple #[.int .i64 0, .bool false]) w := by
  rcases find_ents s seqKeys 0 0 with ⟨h1, h2⟩ | ⟨v', j, h1, h2⟩
  · rw [← seqTab_ents] at h2
    exact run_lookS_none w Tryd.underlying110 Tryd.underlying9 b seqTab 15 hb _ (.int .i64 0) (fun w => by kernel_rfl) h2
  · rw [h] at h1; cases h1

theorem slice_b (B off n cap k : Nat) (x : Int) (hx : x = (k : Int)) (hk : k ≤ cap) (w : World) :
    (Instr.slice 22 (.slice (some ⟨B, off, none⟩) n cap) none (some (.int .i64 x)) none).run Tryd.prog w = .ok (.slice (some ⟨B, off, none⟩) k cap) w := by
  subst hx
  have hj : 0 ≤ (k : Int) ∧ (k : Int) ≤ (cap : Int) := ⟨by omega, by omega⟩
  have hs : (sizeOf 5).run Tryd.prog w = .ok 1 w := by kernel_rfl
  simp [Instr.slice, Instr.sliceBounds, Instr.sliceBound, asIntOf, run_underlying Tryd.underlying22, hj, hk, hs, Result.andThen, Addr.add]

/-- what the loop stands on: the bytes, the two cells -/
structure SeqW (w W : World) (B off : Nat) (l : List UInt8) : Prop where
  lt : B < W.heap.size
  cells : ∀ j, j < l.length → W.cell? ⟨B, off + j, none⟩ = some (.int .u8 (bt l j : Int))
  res : Blk W w.heap.size #[.int .i64 0, .int .i64 0] 54
  ign : Blk W (w.heap.size + 1) #[.int .i64 15, .int .i64 0] 54
  but : But [] w W

theorem SeqW.mk2 {w : World} {B off : Nat} {l : List UInt8} (hB : B < w.heap.size) (hc : ∀ j, j < l.length → w.cell? ⟨B, off + j, none⟩ = some (.int .u8 (bt l j : Int))) :
    SeqW w ((w.alloc (.cells #[.int .i64 0, .int .i64 0] 54)).alloc (.cells #[.int .i64 15, .int .i64 0] 54)) B off l := by
  have h1 : Below w.heap.size w (w.alloc (.cells #[.int .i64 0, .int .i64 0] 54)) := (Below.refl _ _).alloc (Nat.le_refl _) _
  have h2 : Below w.heap.size w ((w.alloc (.cells #[.int .i64 0, .int .i64 0] 54)).alloc (.cells #[.int .i64 15, .int .i64 0] 54)) := h1.alloc h1.size _
  have hs : (w.alloc (.cells #[.int .i64 0, .int .i64 0] 54)).heap.size = w.heap.size + 1 := Array.size_push _
  have hb := Blk.new (w.alloc (.cells #[.int .i64 0, .int .i64 0] 54)) #[.int .i64 15, .int .i64 0] 54
  rw [hs] at hb
  exact ⟨Nat.lt_of_lt_of_le hB h2.size, fun j hj => by rw [World.cell?_of_block (w := w) (h2.block B hB)]; exact hc j hj, (Blk.new w _ _).alloc _, hb, But.of_below h2⟩

theorem SeqW.below {w W : World} {B off : Nat} {l : List UInt8} (h : SeqW w W B off l) {W' : World} (hb : Below W.heap.size W W') : SeqW w W' B off l :=
  ⟨Nat.lt_of_lt_of_le h.lt hb.size, fun j hj => by rw [World.cell?_of_block (w := W) (hb.block B h.lt)]; exact h.cells j hj, h.res.but (But.of_below (S := []) hb) (by simp), h.ign.but (But.of_below (S := []) hb) (by simp), h.but.trans (But.of_below hb)⟩

theorem SeqW.bytes {w W : World} {B off : Nat} {l : List UInt8} (h : SeqW w W B off l) (n : Nat) {W' : World} (hb : Below W.heap.size W W') : BytesAt W' (some ⟨B, off, none⟩) (l.take n) := by
  intro hne
  refine ⟨B, off, rfl, Nat.lt_of_lt_of_le h.lt hb.size, fun j hj => ?_⟩
  rw [List.length_take] at hj
  have e : bt (l.take n) j = bt l j := by
    unfold bt
    rw [List.getD_eq_getElem?_getD, List.getD_eq_getElem?_getD, List.getElem?_take_of_lt (by omega)]
  rw [World.cell?_of_block (w := W) (hb.block B h.lt), e]
  exact h.cells j (by omega)

theorem SeqW.conv {w W : World} {B off : Nat} {l : List UInt8} (h : SeqW w W B off l) {j : Nat} (hj : j < l.length) (cap : Nat) {W' : World} (hb : Below W.heap.size W W') :
    (convert 22 9 (.slice (some ⟨B, off, none⟩) (j + 1) cap)).run Tryd.prog W' = .ok (.string (strOf (l.take (j + 1)))) W' := by
  have := conv_str (cap := cap) (h.bytes (j + 1) hb)
  rw [List.length_take, Nat.min_eq_left (by omega)] at this
  exact this

set_option maxRecDepth 100000 in
set_option maxHeartbeats 4000000 in
theorem escseq_next (l : List UInt8) (A : Option Addr) (cap : Nat) (w : World) (hA : BytesAt w A l) (hcap : l.length ≤ cap) (hm : l.length ≤ 1000000) :
    Calls Tryd.prog 60 #[.slice A l.length cap] w fun e w' => e = .returned (.tuple #[.agg #[.int .i64 (seqN l).1, .int .i64 0], .int .i64 ((seqN l).2.1 : Int), .int .i64 (seqN l).2.2]) ∧ Below w.heap.size w w' := by
  by_cases h0 : l = []
  · subst h0
    have hs : seqN [] = (0, 0, 6) := rfl
    rw [hs]
    clear hA hcap hm
    show Calls _ _ #[.slice A 0 cap] _ _
    go_enter Tryd.func60, Tryd.ntmps60
    go_wp2
    go_step3
    go_wp2
    (try simp only [Exit.noGoto_ret, Exit.inBlock, Exit.then])
    refine bodyPost_ret (results_cell3 rfl _ _ w.heap.size 54 #[.int .i64 0, .int .i64 0] _ rfl (Blk.new w _ _) Tryd.underlying54 rfl (by kernel_rfl)) rfl ?_
    exact ⟨rfl, (Below.refl _ _).alloc (Nat.le_refl _) _⟩
  · have hpos : 0 < l.length := List.length_pos_iff.2 h0
    obtain ⟨B, off, rfl, hB, hc⟩ := hA h0
    have hsz := hB
    have HC := Lib.hid hc
    have q0 : w.cell? ⟨B, off, none⟩ = _ := hc 0 hpos
    obtain ⟨x, hx⟩ : ∃ x, bt l 0 = x := ⟨_, rfl⟩
    rw [hx] at q0
    have hsN : seqN l = (if x ≠ 27 then (0, 0, 8) else if 1 < l.length ∧ bt l 1 ≠ 91 ∧ bt l 1 ≠ 79 then (15, 1, 0) else seqF l (l.length - 2) 2 false) := by
      unfold seqN; rw [if_neg h0, hx]
    obtain ⟨R, hR⟩ : ∃ R, seqN l = R := ⟨_, rfl⟩
    rw [hR] at hsN ⊢
    have HR := Lib.hid hsN
    have k0 : (0 : Int) < (l.length : Int) := by omega
    have kz : ((l.length : Int) == 0) = false := by simp; omega
    clear hc hx hsN hR h0
    by_cases hx : x = 27
    · subst hx
      by_cases hI : 1 < l.length ∧ bt l 1 ≠ 91 ∧ bt l 1 ≠ 79
      · obtain ⟨h1, hA1, hA2⟩ := hI
        have q1 := HC.out 1 h1
        obtain ⟨y, hy⟩ : ∃ y, bt l 1 = y := ⟨_, rfl⟩
        rw [hy] at q1
        have HR2 : Hid (R = (15, 1, 0)) := by
          have := HR.out
          rw [if_neg (by simp), if_pos ⟨h1, hA1, hA2⟩] at this
          exact this
        have y1 : ((y : Int) != 91) = true := by rw [bne_iff_ne]; omega
        have y2 : ((y : Int) != 79) = true := by rw [bne_iff_ne]; omega
        have kl : (1 : Int) < (l.length : Int) := by omega
        clear hA1 hA2 hy
        go_enter Tryd.func60, Tryd.ntmps60
        go_wp2
        go_step3
        go_wp2
        (try simp only [Exit.noGoto_ret, Exit.inBlock, Exit.then])
        refine bodyPost_ret (results_cell3 rfl _ _ w.heap.size 54 #[.int .i64 15, .int .i64 0] _ rfl ((Blk.new w _ _).alloc _) Tryd.underlying54 rfl (by kernel_rfl)) rfl ?_
        have hal : Below w.heap.size w (w.alloc (.cells #[.int .i64 15, .int .i64 0] 54)) := (Below.refl _ _).alloc (Nat.le_refl _) _
        exact ⟨by rw [HR2.out]; rfl, hal.alloc hal.size _⟩
      · have HS := Lib.hid (SeqW.mk2 hB HC.out)
        obtain ⟨W, hW⟩ : ∃ W, (w.alloc (.cells #[.int .i64 0, .int .i64 0] 54)).alloc (.cells #[.int .i64 15, .int .i64 0] 54) = W := ⟨_, rfl⟩
        rw [hW] at HS
        have HW := Lib.hid hW
        have HR2 : Hid (seqF l (l.length - 2) 2 false = R) := by
          have := HR.out
          rw [if_neg (by simp), if_neg hI] at this
          exact this.symm
        have H1 : Hid (1 < l.length → bt l 1 = 91 ∨ bt l 1 = 79) := by
          intro h
          by_cases e : bt l 1 = 91
          · exact Or.inl e
          · by_cases e2 : bt l 1 = 79
            · exact Or.inr e2
            · exact absurd ⟨h, e, e2⟩ hI
        clear hI hW hA HR
        by_cases h1 : 1 < l.length
        · have q1 := HC.out 1 h1
          obtain ⟨y, hy⟩ : ∃ y, bt l 1 = y := ⟨_, rfl⟩
          rw [hy] at q1
          have kl : (1 : Int) < (l.length : Int) := by omega
          have HY := Lib.hid hy
          have hyy := H1.out h1
          rw [hy] at hyy
          clear hy
          go_enter Tryd.func60, Tryd.ntmps60
          rcases hyy with rfl | rfl
          · skip
            go_wp2
            go_step3
            go_wp2
            rw [HW.out]
            go_step3
            go_wp2
            go_loopw [6, 7] (fun o i wr => ∃ (oth : Bool) (j : Nat), o = .bool oth ∧ i = .int .i64 (j : Int) ∧ W = wr ∧ 2 ≤ j ∧ j ≤ l.length ∧ Hid (seqF l (l.length - j) j oth = R)) (fun o i _ => l.length - (RowKit.intOf i).toNat)
            case atStart => exact ⟨false, 2, rfl, rfl, rfl, Nat.le_refl _, h1, HR2⟩
            case round =>
              obtain ⟨oth, j, rfl, rfl, hwr, hj2, hjl, HF⟩ := hrel
              obtain rfl := hwr
              have hBW := HS.out.lt
              have r0 := HS.out.res.cell (j := 0) (v := .int .i64 0) rfl
              have r1 := HS.out.res.cell (j := 1) (v := .int .i64 0) rfl
              have rf0 := HS.out.res.free 0
              have rf1 := HS.out.res.free 1
              have i0 := HS.out.ign.cell (j := 0) (v := .int .i64 15) rfl
              have i1 := HS.out.ign.cell (j := 1) (v := .int .i64 0) rfl
              have hrl := HS.out.res.lt
              have hil := HS.out.ign.lt
              have q1 : W.cell? ⟨B, off + 1, none⟩ = some (.int .u8 91) := by rw [HS.out.cells 1 h1, HY.out]; rfl
              by_cases hlt : j < l.length
              · have k0 : (j : Int) < (l.length : Int) := by omega
                have qj := HS.out.cells j hlt
                have hd : l.length - j = (l.length - (j + 1)) + 1 := by omega
                have hF := HF.out
                rw [hd] at hF
                unfold seqF at hF
                rw [HY.out] at hF
                obtain ⟨c, hc⟩ : ∃ c, bt l j = c := ⟨_, rfl⟩
                rw [hc] at qj hF
                clear hc hd HF
                by_cases hA : 64 ≤ c ∧ c ≤ 126
                · rw [if_pos hA] at hF
                  have HB64 : Hid (∀ V, Calls Tryd.prog 73 #[.int .u8 (c : Int), .int .u8 64, .int .u8 126] V fun e w' => e = .returned (.bool true) ∧ w' = V) := fun V => (between_c c 64 126 V).mono fun e w' ⟨he, hw⟩ => ⟨by rw [he]; congr 2; simp; omega, hw⟩
                  have hjw : (j : Int) + 1 ≤ (cap : Int) := by omega
                  have hj0 : (0 : Int) ≤ (j : Int) + 1 := by omega
                  have HKN := Lib.hid (fun V => known_c V)
                  have HCV := Lib.hid (fun (V : World) (hb : Below W.heap.size W V) => HS.out.conv hlt cap hb)
                  have hwr : IntKind.i64.wrap ((j : Int) + 1) = ((j + 1 : Nat) : Int) := by
                    have : ∀ x : Int, 0 ≤ x → x ≤ 2000000 → IntKind.i64.wrap x = x := fun x h1 h2 => by simp [IntKind.wrap, IntKind.bits, IntKind.signed]; omega
                    rw [this _ (by omega) (by omega)]; omega
                  have hs1 := fun V => slice_b B off l.length cap (j + 1) _ hwr (by omega) V
                  have HLT := Lib.hid hlt
                  clear hA
                  cases hk : lookT seqKeys (l.take (j + 1)) with
                  | none =>
                    have HR3 : Hid ((15, j + 1, 0) = R) := by rw [← hF]; unfold seqKey; rw [hk]; rfl
                    have HLK := Lib.hid (fun (V : World) (b : Nat) (hb : V.heap[b]? = some (.map seqTab 15)) => look_none hb _ hk)
                    clear hF hk
                    go_wp2_with (go_at_call 73; (with_reducible refine (HB64.out _).mono ?_); rintro e w1 ⟨rfl, hq⟩; obtain rfl := hq.symm)
                    have cvD := HCV.out W.drew ((Below.refl _ _).drew)
                    go_region_with (go_at_call 74; (with_reducible refine (HKN.out _).mono ?_); rintro e w2 ⟨rfl, hm2, hb2⟩; have cv2 := HCV.out w2 ((Below.refl W.heap.size W).drew.trans hb2); have lk2 := HLK.out w2 W.heap.size hm2)
                    go_goals
                    all_goals
                      have HS2 := HS.out.below ((Below.refl W.heap.size W).drew.trans hb2)
                      have r0 := HS2.res.cell (j := 0) (v := .int .i64 0) rfl
                      have r1 := HS2.res.cell (j := 1) (v := .int .i64 0) rfl
                      have rf0 := HS2.res.free 0
                      have rf1 := HS2.res.free 1
                      have i0 := HS2.ign.cell (j := 0) (v := .int .i64 15) rfl
                      have i1 := HS2.ign.cell (j := 1) (v := .int .i64 0) rfl
                      have hrl := HS2.res.lt
                      have hil := HS2.ign.lt
                      go_wp2
                      (try simp only [Exit.noGoto_ret, Exit.inBlock, Exit.then])
                      refine bodyPost_ret (results_cell3 rfl _ _ w.heap.size 54 _ _ rfl (Blk.set (Blk.set (HS2.res) 0 _) 1 _) Tryd.underlying54 rfl (by kernel_rfl)) rfl ?_
                      refine ⟨?_, seq_below (HS2.but) (Nat.le_refl _) _ _⟩
                      rw [← HR3.out]
                      (first | rfl | (simp only [hwr]; rfl))
                  | some v =>
                    have HR3 : Hid ((v, j + 1, 0) = R) := by rw [← hF]; unfold seqKey; rw [hk]; rfl
                    have HLK := Lib.hid (fun (V : World) (b : Nat) (hb : V.heap[b]? = some (.map seqTab 15)) => look_some hb _ v hk)
                    clear hF hk
                    go_wp2_with (go_at_call 73; (with_reducible refine (HB64.out _).mono ?_); rintro e w1 ⟨rfl, hq⟩; obtain rfl := hq.symm)
                    have cvD := HCV.out W.drew ((Below.refl _ _).drew)
                    go_region_with (go_at_call 74; (with_reducible refine (HKN.out _).mono ?_); rintro e w2 ⟨rfl, hm2, hb2⟩; have cv2 := HCV.out w2 ((Below.refl W.heap.size W).drew.trans hb2); have lk2 := HLK.out w2 W.heap.size hm2)
                    go_goals
                    all_goals
                      have HS2 := HS.out.below ((Below.refl W.heap.size W).drew.trans hb2)
                      have r0 := HS2.res.cell (j := 0) (v := .int .i64 0) rfl
                      have r1 := HS2.res.cell (j := 1) (v := .int .i64 0) rfl
                      have rf0 := HS2.res.free 0
                      have rf1 := HS2.res.free 1
                      have i0 := HS2.ign.cell (j := 0) (v := .int .i64 15) rfl
                      have i1 := HS2.ign.cell (j := 1) (v := .int .i64 0) rfl
                      have hrl := HS2.res.lt
                      have hil := HS2.ign.lt
                      go_wp2
                      (try simp only [Exit.noGoto_ret, Exit.inBlock, Exit.then])
                      refine bodyPost_ret (results_cell3 rfl _ _ w.heap.size 54 _ _ rfl (Blk.set (Blk.set (HS2.res) 0 _) 1 _) Tryd.underlying54 rfl (by kernel_rfl)) rfl ?_
                      refine ⟨?_, seq_below (HS2.but) (Nat.le_refl _) _ _⟩
                      rw [← HR3.out]
                      (first | rfl | (simp only [hwr]; rfl))
                · rw [if_neg hA] at hF
                  have HB64 : Hid (∀ V, Calls Tryd.prog 73 #[.int .u8 (c : Int), .int .u8 64, .int .u8 126] V fun e w' => e = .returned (.bool false) ∧ w' = V) := fun V => (between_c c 64 126 V).mono fun e w' ⟨he, hw⟩ => ⟨by rw [he]; congr 2; simp; omega, hw⟩
                  by_cases h34 : 34 ≤ j
                  · rw [if_pos (Or.inr h34)] at hF
                    have kf : decide ((34 : Int) ≤ (j : Int)) = true := by simp; omega
                    have HR3 := Lib.hid hF
                    clear hF hA
                    go_wp2_with (first | (go_at_call 73; (with_reducible refine (HB64.out _).mono ?_); rintro e w1 ⟨rfl, hq⟩; obtain rfl := hq.symm) | (go_at_call 73; (with_reducible refine (HB48.out _).mono ?_); rintro e w1 ⟨rfl, hq⟩; obtain rfl := hq.symm) | (go_at_call 73; (with_reducible refine (HB32.out _).mono ?_); rintro e w1 ⟨rfl, hq⟩; obtain rfl := hq.symm))
                    (try simp only [Exit.noGoto_ret, Exit.inBlock, Exit.then])
                    refine bodyPost_ret (results_cell3 rfl _ _ w.heap.size 54 _ _ rfl (Blk.set (Blk.set (HS.out.res) 0 _) 1 _) Tryd.underlying54 rfl (by kernel_rfl)) rfl ?_
                    refine ⟨?_, seq_below (HS.out.but) (Nat.le_refl _) _ _⟩
                    rw [← HR3.out]
                    (first | rfl | (simp only [hwr]; rfl))
                  · rw [if_neg (by omega)] at hF
                    have kf : decide ((34 : Int) ≤ (j : Int)) = false := by simp; omega
                    by_cases h48 : 48 ≤ c ∧ c ≤ 63
                    · have HB48 : Hid (∀ V, Calls Tryd.prog 73 #[.int .u8 (c : Int), .int .u8 48, .int .u8 63] V fun e w' => e = .returned (.bool true) ∧ w' = V) := fun V => (between_c c 48 63 V).mono fun e w' ⟨he, hw⟩ => ⟨by rw [he]; congr 2; simp; omega, hw⟩
                      have HB32 : Hid (∀ V, Calls Tryd.prog 73 #[.int .u8 (c : Int), .int .u8 32, .int .u8 47] V fun e w' => e = .returned (.bool false) ∧ w' = V) := fun V => (between_c c 32 47 V).mono fun e w' ⟨he, hw⟩ => ⟨by rw [he]; congr 2; simp; omega, hw⟩
                      cases oth
                      · rw [if_pos ⟨h48, rfl⟩] at hF
                        have HR3 := Lib.hid hF
                        clear hF hA h48 h34
                        go_wp2_with (first | (go_at_call 73; (with_reducible refine (HB64.out _).mono ?_); rintro e w1 ⟨rfl, hq⟩; obtain rfl := hq.symm) | (go_at_call 73; (with_reducible refine (HB48.out _).mono ?_); rintro e w1 ⟨rfl, hq⟩; obtain rfl := hq.symm) | (go_at_call 73; (with_reducible refine (HB32.out _).mono ?_); rintro e w1 ⟨rfl, hq⟩; obtain rfl := hq.symm))
                        go_roundw
                        case rel => exact ⟨false, j + 1, rfl, by go_num, trivial, by omega, by omega, HR3⟩
                        case measure => simp [RowKit.intOf]; omega
                      · rw [if_neg (by simp), if_neg (by omega)] at hF
                        have HR3 := Lib.hid hF
                        clear hF hA h48 h34
                        go_wp2_with (first | (go_at_call 73; (with_reducible refine (HB64.out _).mono ?_); rintro e w1 ⟨rfl, hq⟩; obtain rfl := hq.symm) | (go_at_call 73; (with_reducible refine (HB48.out _).mono ?_); rintro e w1 ⟨rfl, hq⟩; obtain rfl := hq.symm) | (go_at_call 73; (with_reducible refine (HB32.out _).mono ?_); rintro e w1 ⟨rfl, hq⟩; obtain rfl := hq.symm))
                        (try simp only [Exit.noGoto_ret, Exit.inBlock, Exit.then])
                        refine bodyPost_ret (results_cell3 rfl _ _ w.heap.size 54 _ _ rfl (Blk.set (Blk.set (HS.out.res) 0 _) 1 _) Tryd.underlying54 rfl (by kernel_rfl)) rfl ?_
                        refine ⟨?_, seq_below (HS.out.but) (Nat.le_refl _) _ _⟩
                        rw [← HR3.out]
                        (first | rfl | (simp only [hwr]; rfl))
                    · have HB48 : Hid (∀ V, Calls Tryd.prog 73 #[.int .u8 (c : Int), .int .u8 48, .int .u8 63] V fun e w' => e = .returned (.bool false) ∧ w' = V) := fun V => (between_c c 48 63 V).mono fun e w' ⟨he, hw⟩ => ⟨by rw [he]; congr 2; simp; omega, hw⟩
                      rw [if_neg (fun h => h48 h.1)] at hF
                      by_cases h32 : 32 ≤ c ∧ c ≤ 47
                      · have HB32 : Hid (∀ V, Calls Tryd.prog 73 #[.int .u8 (c : Int), .int .u8 32, .int .u8 47] V fun e w' => e = .returned (.bool true) ∧ w' = V) := fun V => (between_c c 32 47 V).mono fun e w' ⟨he, hw⟩ => ⟨by rw [he]; congr 2; simp; omega, hw⟩
                        rw [if_pos h32] at hF
                        have HR3 := Lib.hid hF
                        clear hF hA h48 h34 h32
                        go_wp2_with (first | (go_at_call 73; (with_reducible refine (HB64.out _).mono ?_); rintro e w1 ⟨rfl, hq⟩; obtain rfl := hq.symm) | (go_at_call 73; (with_reducible refine (HB48.out _).mono ?_); rintro e w1 ⟨rfl, hq⟩; obtain rfl := hq.symm) | (go_at_call 73; (with_reducible refine (HB32.out _).mono ?_); rintro e w1 ⟨rfl, hq⟩; obtain rfl := hq.symm))
                        go_roundw
                        case rel => exact ⟨true, j + 1, rfl, by go_num, trivial, by omega, by omega, HR3⟩
                        case measure => simp [RowKit.intOf]; omega
                      · have HB32 : Hid (∀ V, Calls Tryd.prog 73 #[.int .u8 (c : Int), .int .u8 32, .int .u8 47] V fun e w' => e = .returned (.bool false) ∧ w' = V) := fun V => (between_c c 32 47 V).mono fun e w' ⟨he, hw⟩ => ⟨by rw [he]; congr 2; simp; omega, hw⟩
                        rw [if_neg h32] at hF
                        have HR3 := Lib.hid hF
                        clear hF hA h48 h34 h32
                        go_wp2_with (first | (go_at_call 73; (with_reducible refine (HB64.out _).mono ?_); rintro e w1 ⟨rfl, hq⟩; obtain rfl := hq.symm) | (go_at_call 73; (with_reducible refine (HB48.out _).mono ?_); rintro e w1 ⟨rfl, hq⟩; obtain rfl := hq.symm) | (go_at_call 73; (with_reducible refine (HB32.out _).mono ?_); rintro e w1 ⟨rfl, hq⟩; obtain rfl := hq.symm))
                        (try simp only [Exit.noGoto_ret, Exit.inBlock, Exit.then])
                        refine bodyPost_ret (results_cell3 rfl _ _ w.heap.size 54 _ _ rfl (Blk.set (Blk.set (HS.out.res) 0 _) 1 _) Tryd.underlying54 rfl (by kernel_rfl)) rfl ?_
                        refine ⟨?_, seq_below (HS.out.but) (Nat.le_refl _) _ _⟩
                        rw [← HR3.out]
                        (first | rfl | (simp only [hwr]; rfl))
              · have HR3 : Hid ((0, l.length, 7) = R) := by
                  have hF := HF.out
                  rw [show l.length - j = 0 by omega] at hF
                  exact hF
                have kk : decide ((j : Int) < (l.length : Int)) = false := by simp; omega
                have kk' : decide (j < l.length) = false := by simp; omega
                clear hlt
                go_wp2
                (try simp only [Exit.noGoto_ret, Exit.inBlock, Exit.then])
                refine bodyPost_ret (results_cell3 rfl _ _ w.heap.size 54 _ _ rfl (Blk.set (Blk.set (HS.out.res) 0 _) 1 _) Tryd.underlying54 rfl (by kernel_rfl)) rfl ?_
                refine ⟨?_, seq_below (HS.out.but) (Nat.le_refl _) _ _⟩
                rw [← HR3.out]
                (first | rfl | (simp only [hwr]; rfl))
          · skip
            go_wp2
            go_step3
            go_wp2
            rw [HW.out]
            go_step3
            go_wp2
            go_loopw [6, 7] (fun o i wr => ∃ (oth : Bool) (j : Nat), o = .bool oth ∧ i = .int .i64 (j : Int) ∧ W = wr ∧ 2 ≤ j ∧ j ≤ l.length ∧ Hid (seqF l (l.length - j) j oth = R)) (fun o i _ => l.length - (RowKit.intOf i).toNat)
            case atStart => exact ⟨false, 2, rfl, rfl, rfl, Nat.le_refl _, h1, HR2⟩
            case round =>
              obtain ⟨oth, j, rfl, rfl, hwr, hj2, hjl, HF⟩ := hrel
              obtain rfl := hwr
              have hBW := HS.out.lt
              have r0 := HS.out.res.cell (j := 0) (v := .int .i64 0) rfl
              have r1 := HS.out.res.cell (j := 1) (v := .int .i64 0) rfl
              have rf0 := HS.out.res.free 0
              have rf1 := HS.out.res.free 1
              have i0 := HS.out.ign.cell (j := 0) (v := .int .i64 15) rfl
              have i1 := HS.out.ign.cell (j := 1) (v := .int .i64 0) rfl
              have hrl := HS.out.res.lt
              have hil := HS.out.ign.lt
              have q1 : W.cell? ⟨B, off + 1, none⟩ = some (.int .u8 79) := by rw [HS.out.cells 1 h1, HY.out]; rfl
              by_cases hlt : j < l.length
              · have k0 : (j : Int) < (l.length : Int) := by omega
                have qj := HS.out.cells j hlt
                have hd : l.length - j = (l.length - (j + 1)) + 1 := by omega
                have hF := HF.out
                rw [hd] at hF
                unfold seqF at hF
                rw [HY.out] at hF
                obtain ⟨c, hc⟩ : ∃ c, bt l j = c := ⟨_, rfl⟩
                rw [hc] at qj hF
                clear hc hd HF
                by_cases hA : 64 ≤ c ∧ c ≤ 126
                · rw [if_pos hA] at hF
                  have HB64 : Hid (∀ V, Calls Tryd.prog 73 #[.int .u8 (c : Int), .int .u8 64, .int .u8 126] V fun e w' => e = .returned (.bool true) ∧ w' = V) := fun V => (between_c c 64 126 V).mono fun e w' ⟨he, hw⟩ => ⟨by rw [he]; congr 2; simp; omega, hw⟩
                  have hjw : (j : Int) + 1 ≤ (cap : Int) := by omega
                  have hj0 : (0 : Int) ≤ (j : Int) + 1 := by omega
                  have HKN := Lib.hid (fun V => known_c V)
                  have HCV := Lib.hid (fun (V : World) (hb : Below W.heap.size W V) => HS.out.conv hlt cap hb)
                  have hwr : IntKind.i64.wrap ((j : Int) + 1) = ((j + 1 : Nat) : Int) := by
                    have : ∀ x : Int, 0 ≤ x → x ≤ 2000000 → IntKind.i64.wrap x = x := fun x h1 h2 => by simp [IntKind.wrap, IntKind.bits, IntKind.signed]; omega
                    rw [this _ (by omega) (by omega)]; omega
                  have hs1 := fun V => slice_b B off l.length cap (j + 1) _ hwr (by omega) V
                  have HLT := Lib.hid hlt
                  clear hA
                  cases hk : lookT seqKeys (l.take (j + 1)) with
                  | none =>
                    have HR3 : Hid ((15, j + 1, 0) = R) := by rw [← hF]; unfold seqKey; rw [hk]; rfl
                    have HLK := Lib.hid (fun (V : World) (b : Nat) (hb : V.heap[b]? = some (.map seqTab 15)) => look_none hb _ hk)
                    clear hF hk
                    go_wp2_with (go_at_call 73; (with_reducible refine (HB64.out _).mono ?_); rintro e w1 ⟨rfl, hq⟩; obtain rfl := hq.symm)
                    have cvD := HCV.out W.drew ((Below.refl _ _).drew)
                    go_region_with (go_at_call 74; (with_reducible refine (HKN.out _).mono ?_); rintro e w2 ⟨rfl, hm2, hb2⟩; have cv2 := HCV.out w2 ((Below.refl W.heap.size W).drew.trans hb2); have lk2 := HLK.out w2 W.heap.size hm2)
                    go_goals
                    all_goals
                      have HS2 := HS.out.below ((Below.refl W.heap.size W).drew.trans hb2)
                      have r0 := HS2.res.cell (j := 0) (v := .int .i64 0) rfl
                      have r1 := HS2.res.cell (j := 1) (v := .int .i64 0) rfl
                      have rf0 := HS2.res.free 0
                      have rf1 := HS2.res.free 1
                      have i0 := HS2.ign.cell (j := 0) (v := .int .i64 15) rfl
                      have i1 := HS2.ign.cell (j := 1) (v := .int .i64 0) rfl
                      have hrl := HS2.res.lt
                      have hil := HS2.ign.lt
                      go_wp2
                      (try simp only [Exit.noGoto_ret, Exit.inBlock, Exit.then])
                      refine bodyPost_ret (results_cell3 rfl _ _ w.heap.size 54 _ _ rfl (Blk.set (Blk.set (HS2.res) 0 _) 1 _) Tryd.underlying54 rfl (by kernel_rfl)) rfl ?_
                      refine ⟨?_, seq_below (HS2.but) (Nat.le_refl _) _ _⟩
                      rw [← HR3.out]
                      (first | rfl | (simp only [hwr]; rfl))
                  | some v =>
                    have HR3 : Hid ((v, j + 1, 0) = R) := by rw [← hF]; unfold seqKey; rw [hk]; rfl
                    have HLK := Lib.hid (fun (V : World) (b : Nat) (hb : V.heap[b]? = some (.map seqTab 15)) => look_some hb _ v hk)
                    clear hF hk
                    go_wp2_with (go_at_call 73; (with_reducible refine (HB64.out _).mono ?_); rintro e w1 ⟨rfl, hq⟩; obtain rfl := hq.symm)
                    have cvD := HCV.out W.drew ((Below.refl _ _).drew)
                    go_region_with (go_at_call 74; (with_reducible refine (HKN.out _).mono ?_); rintro e w2 ⟨rfl, hm2, hb2⟩; have cv2 := HCV.out w2 ((Below.refl W.heap.size W).drew.trans hb2); have lk2 := HLK.out w2 W.heap.size hm2)
                    go_goals
                    all_goals
                      have HS2 := HS.out.below ((Below.refl W.heap.size W).drew.trans hb2)
                      have r0 := HS2.res.cell (j := 0) (v := .int .i64 0) rfl
                      have r1 := HS2.res.cell (j := 1) (v := .int .i64 0) rfl
                      have rf0 := HS2.res.free 0
                      have rf1 := HS2.res.free 1
                      have i0 := HS2.ign.cell (j := 0) (v := .int .i64 15) rfl
                      have i1 := HS2.ign.cell (j := 1) (v := .int .i64 0) rfl
                      have hrl := HS2.res.lt
                      have hil := HS2.ign.lt
                      go_wp2
                      (try simp only [Exit.noGoto_ret, Exit.inBlock, Exit.then])
                      refine bodyPost_ret (results_cell3 rfl _ _ w.heap.size 54 _ _ rfl (Blk.set (Blk.set (HS2.res) 0 _) 1 _) Tryd.underlying54 rfl (by kernel_rfl)) rfl ?_
                      refine ⟨?_, seq_below (HS2.but) (Nat.le_refl _) _ _⟩
                      rw [← HR3.out]
                      (first | rfl | (simp only [hwr]; rfl))
                · rw [if_neg hA] at hF
                  have HB64 : Hid (∀ V, Calls Tryd.prog 73 #[.int .u8 (c : Int), .int .u8 64, .int .u8 126] V fun e w' => e = .returned (.bool false) ∧ w' = V) := fun V => (between_c c 64 126 V).mono fun e w' ⟨he, hw⟩ => ⟨by rw [he]; congr 2; simp; omega, hw⟩
                  rw [if_pos (Or.inl rfl)] at hF
                  have HR3 := Lib.hid hF
                  clear hF hA
                  go_wp2_with (first | (go_at_call 73; (with_reducible refine (HB64.out _).mono ?_); rintro e w1 ⟨rfl, hq⟩; obtain rfl := hq.symm) | (go_at_call 73; (with_reducible refine (HB48.out _).mono ?_); rintro e w1 ⟨rfl, hq⟩; obtain rfl := hq.symm) | (go_at_call 73; (with_reducible refine (HB32.out _).mono ?_); rintro e w1 ⟨rfl, hq⟩; obtain rfl := hq.symm))
                  (try simp only [Exit.noGoto_ret, Exit.inBlock, Exit.then])
                  refine bodyPost_ret (results_cell3 rfl _ _ w.heap.size 54 _ _ rfl (Blk.set (Blk.set (HS.out.res) 0 _) 1 _) Tryd.underlying54 rfl (by kernel_rfl)) rfl ?_
                  refine ⟨?_, seq_below (HS.out.but) (Nat.le_refl _) _ _⟩
                  rw [← HR3.out]
                  (first | rfl | (simp only [hwr]; rfl))
              · have HR3 : Hid ((0, l.length, 7) = R) := by
                  have hF := HF.out
                  rw [show l.length - j = 0 by omega] at hF
                  exact hF
                have kk : decide ((j : Int) < (l.length : Int)) = false := by simp; omega
                have kk' : decide (j < l.length) = false := by simp; omega
                clear hlt
                go_wp2
                (try simp only [Exit.noGoto_ret, Exit.inBlock, Exit.then])
                refine bodyPost_ret (results_cell3 rfl _ _ w.heap.size 54 _ _ rfl (Blk.set (Blk.set (HS.out.res) 0 _) 1 _) Tryd.underlying54 rfl (by kernel_rfl)) rfl ?_
                refine ⟨?_, seq_below (HS.out.but) (Nat.le_refl _) _ _⟩
                rw [← HR3.out]
                (first | rfl | (simp only [hwr]; rfl))
        · have hl1 : l.length = 1 := by omega
          have HR3 : Hid ((0, l.length, 7) = R) := by
            have h2 := HR2.out
            rw [show l.length - 2 = 0 by omega] at h2
            exact h2
          have hBW := HS.out.lt
          have r0 := HS.out.res.cell (j := 0) (v := .int .i64 0) rfl
          have r1 := HS.out.res.cell (j := 1) (v := .int .i64 0) rfl
          have rf0 := HS.out.res.free 0
          have rf1 := HS.out.res.free 1
          have hrl := HS.out.res.lt
          rw [hl1] at HR3 ⊢
          have q0w := HS.out.cells 0 hpos
          clear h1 hl1
          go_enter Tryd.func60, Tryd.ntmps60
          go_wp2
          go_step3
          go_wp2
          rw [HW.out]
          go_step3
          go_wp2
          go_loopw [6, 7] (fun o i wr => o = .bool false ∧ i = .int .i64 2 ∧ W = wr) (fun _ _ _ => 0)
          case atStart => exact ⟨rfl, rfl, rfl⟩
          case round =>
            obtain ⟨rfl, rfl, hwr⟩ := hrel
            obtain rfl := hwr
            go_wp2
            (try simp only [Exit.noGoto_ret, Exit.inBlock, Exit.then])
            refine bodyPost_ret (results_cell3 rfl _ _ w.heap.size 54 _ _ rfl (Blk.set (Blk.set (HS.out.res) 0 _) 1 _) Tryd.underlying54 rfl (by kernel_rfl)) rfl ?_
            refine ⟨?_, seq_below (HS.out.but) (Nat.le_refl _) _ _⟩
            rw [← HR3.out]
            (first | rfl | (simp only [hwr]; rfl))
    · have hxx : ((x : Int) != 27) = true := by rw [bne_iff_ne]; omega
      go_enter Tryd.func60, Tryd.ntmps60
      go_wp2
      go_step3
      go_wp2
      (try simp only [Exit.noGoto_ret, Exit.inBlock, Exit.then])
      refine bodyPost_ret (results_cell3 rfl _ _ w.heap.size 54 #[.int .i64 0, .int .i64 0] _ rfl (Blk.new w _ _) Tryd.underlying54 rfl (by kernel_rfl)) rfl ?_
      refine ⟨?_, (Below.refl _ _).alloc (Nat.le_refl _) _⟩
      rw [HR.out, if_pos hx]
      rfl

end Go.Proofs.YtcakeolnokninaaDoor.Edit

/- The key of a character: keys.Of, walked. -/
set_option linter.unusedVariables false
set_option linter.unusedSimpArgs false
namespace Go.Proofs.YtcakeolnokninaaDoor.Edit
open Go.RowKit Go.Lib Go.Shelf ChangeShapes Mem Utf UtfP

theorem run_lookI {T K E : TypeId} {P : Program} (w : World) (ht : P.underlying T = some (.map K E)) (hk : P.underlying K = some (.int .i64)) (b : Nat) (es : Array MapEntry) (clock : Nat) (hb : w.heap[b]? = some (.map es clock)) (k : Int) (i : Nat) (v : Value) (hf : Instr.findNow (.int .i64) (.int .i64 k) es.toList 0 = some (some (i, v))) :
    (Instr.lookup T (.map (some b)) (.int .i64 k) true).run P w = .ok (.tuple #[v, .bool true]) w := by
  have hc : (Instr.checkKey es.isEmpty 10000 K (.int .i64 k)).run P w = .ok () w := MapKept.run_checkKey (k := .int .i64 k) hk (by simp [MapKept.IsKey]) _ 9999
  simp [Instr.lookup, run_underlying ht, MapKept.run_getObj_map hb, hc, MapKept.run_findKey hk hf, Result.andThen]

theorem run_lookI_none {T K E : TypeId} {P : Program} (w : World) (ht : P.underlying T = some (.map K E)) (hk : P.underlying K = some (.int .i64)) (b : Nat) (es : Array MapEntry) (clock : Nat) (hb : w.heap[b]? = some (.map es clock)) (k : Int) (z : Value) (hz : ∀ w, (zeroValue E).run P w = .ok z w) (hf : Instr.findNow (.int .i64) (.int .i64 k) es.toList 0 = some none) :
    (Instr.lookup T (.map (some b)) (.int .i64 k) true).run P w = .ok (.tuple #[z, .bool false]) w := by
  have hc : (Instr.checkKey es.isEmpty 10000 K (.int .i64 k)).run P w = .ok () w := MapKept.run_checkKey (k := .int .i64 k) hk (by simp [MapKept.IsKey]) _ 9999
  simp [Instr.lookup, run_underlying ht, MapKept.run_getObj_map hb, hc, MapKept.run_findKey hk hf, hz, Result.andThen]

theorem kindOf_tab (c : Int) : kindOf c = 15 ∨ ∃ y ∈ chIns, y.2.1 = c := by
  unfold kindOf
  by_cases h1 : c = 13; · exact Or.inr ⟨(2, 13, 1), by decide, h1.symm⟩
  by_cases h2 : c = 10; · exact Or.inr ⟨(4, 10, 1), by decide, h2.symm⟩
  by_cases h3 : c = 8; · exact Or.inr ⟨(6, 8, 2), by decide, h3.symm⟩
  by_cases h4 : c = 127; · exact Or.inr ⟨(7, 127, 2), by decide, h4.symm⟩
  by_cases h5 : c = 2; · exact Or.inr ⟨(9, 2, 4), by decide, h5.symm⟩
  by_cases h6 : c = 6; · exact Or.inr ⟨(11, 6, 5), by decide, h6.symm⟩
  by_cases h7 : c = 1; · exact Or.inr ⟨(13, 1, 6), by decide, h7.symm⟩
  by_cases h8 : c = 5; · exact Or.inr ⟨(15, 5, 7), by decide, h8.symm⟩
  by_cases h9 : c = 21; · exact Or.inr ⟨(17, 21, 8), by decide, h9.symm⟩
  by_cases h10 : c = 11; · exact Or.inr ⟨(19, 11, 9), by decide, h10.symm⟩
  by_cases h11 : c = 12; · exact Or.inr ⟨(21, 12, 10), by decide, h11.symm⟩
  by_cases h12 : c = 3; · exact Or.inr ⟨(23, 3, 11), by decide, h12.symm⟩
  by_cases h13 : c = 4; · exact Or.inr ⟨(25, 4, 12), by decide, h13.symm⟩
  left
  simp [h1, h2, h3, h4, h5, h6, h7, h8, h9, h10, h11, h12, h13]

theorem kindOf_of : ∀ y ∈ chIns, kindOf y.2.1 = y.2.2 ∧ y.2.2 ≠ 15 := by decide

theorem ChTab.find {es : Array MapEntry} (h : ChTab es) (c : Int) :
    (kindOf c = 15 ∧ Instr.findNow (.int .i64) (.int .i64 c) es.toList 0 = some none) ∨ (kindOf c ≠ 15 ∧ ∃ j, Instr.findNow (.int .i64) (.int .i64 c) es.toList 0 = some (some (j, .int .i64 (kindOf c)))) := by
  rcases MapKept.findNow_spec (d := .int .i64) (k := .int .i64 c) (by simp [MapKept.IsKey]) es.toList 0 (fun x hx => by obtain ⟨y, _, hk, _⟩ := h.1 x hx; rw [hk]; simp [MapKept.IsKey]) with ⟨hf, hn⟩ | ⟨j, e, hf, he, hk⟩
  · refine Or.inl ⟨?_, hf⟩
    rcases kindOf_tab c with h1 | ⟨y, hy, rfl⟩
    · exact h1
    · obtain ⟨x, hx, hkx⟩ := h.2 y hy
      exact absurd hkx (hn x hx)
  · obtain ⟨y, hy, hyk, hyv⟩ := h.1 e (List.mem_of_getElem? he)
    rw [hyk] at hk
    have e1 : y.2.1 = c := by injection hk
    obtain ⟨h1, h2⟩ := kindOf_of y hy
    rw [e1] at h1
    refine Or.inr ⟨by rw [h1]; exact h2, 0 + j, ?_⟩
    rw [hf, hyv, h1]

set_option maxHeartbeats 1000000 in
theorem keysOf_c (c : Int) (w : World) : Calls Tryd.prog 78 #[.int .i64 c] w fun e w' => e = .returned (.agg #[.int .i64 (keyOf c).1, .int .i64 (keyOf c).2]) ∧ Below w.heap.size w w' := by
  have hal : Below w.heap.size w (w.alloc (.cells #[.int .i64 0, .int .i64 0] 54)) := (Below.refl _ _).alloc (Nat.le_refl _) _
  have HB0 := Lib.hid (Blk.new w #[.int .i64 0, .int .i64 0] 54)
  obtain ⟨w0, hw0⟩ : ∃ w0, w.alloc (.cells #[.int .i64 0, .int .i64 0] 54) = w0 := ⟨_, rfl⟩
  rw [hw0] at hal HB0
  have HAL := Lib.hid hal
  have HW0 := Lib.hid hw0
  have HP := Lib.hid (fun V => printable c V)
  obtain ⟨KK, hKK⟩ : ∃ KK, keyOf c = KK := ⟨_, rfl⟩
  rw [hKK]
  have HK := Lib.hid hKK
  clear hw0 hal hKK
  go_enter Tryd.func78, Tryd.ntmps78
  go_wp2_with fail
  rw [HW0.out]
  refine (HP.out _).mono ?_
  rintro e w1 ⟨rfl, hb1⟩
  have HB1 : Hid (Blk w1 w.heap.size #[.int .i64 0, .int .i64 0] 54) := HB0.out.but (But.of_below (S := []) hb1) (by simp)
  have HW1 : Hid (Below w.heap.size w w1) := HAL.out.trans (hb1.mono HAL.out.size)
  clear hb1
  cases hp : printC c
  · have hk : keyOf c = (kindOf c, 0) := by unfold keyOf; rw [hp]; rfl
    have HK2 : Hid (KK = (kindOf c, 0)) := by rw [← hk]; exact HK.out.symm
    clear hk hp
    have HC := Lib.hid (fun V => chars_c V)
    go_wp2_with fail
    refine (HC.out _).mono ?_
    rintro e w2 ⟨es, rfl, hm, _, htab, hb2⟩
    have HB2 : Hid (Blk w2 w.heap.size #[.int .i64 0, .int .i64 0] 54) := HB1.out.but (But.of_below (S := []) hb2) (by simp)
    have HW2 : Hid (Below w.heap.size w w2) := HW1.out.trans (hb2.mono HW1.out.size)
    have r0 := HB2.out.cell (j := 0) (v := .int .i64 0) rfl
    have r1 := HB2.out.cell (j := 1) (v := .int .i64 0) rfl
    have rf0 := HB2.out.free 0
    have rf1 := HB2.out.free 1
    have hlt2 := HB2.out.lt
    clear hb2
    rcases htab.find c with ⟨h15, hf⟩ | ⟨h15, j, hf⟩
    · have lk := run_lookI_none w2 Tryd.underlying89 Tryd.underlying3 w1.heap.size es _ hm c (.int .i64 0) (fun w => by kernel_rfl) hf
      have HK3 : Hid (KK = (15, 0)) := by rw [← h15]; exact HK2.out
      clear h15 hf htab hm
      go_wp2
      (try simp only [Exit.inBlock, Exit.then])
      refine bodyPost_ret (results_key rfl _ _ w.heap.size 54 _ _ rfl (Blk.set (Blk.set HB2.out 0 _) 1 _) Tryd.underlying54 rfl (by kernel_rfl)) rfl ?_
      exact ⟨by rw [HK3.out]; rfl, (((But.of_below (S := [w.heap.size]) HW2.out).set (Or.inl (by simp)) _).set (Or.inl (by simp)) _).below (Nat.le_refl _) (by simp)⟩
    · have lk := run_lookI w2 Tryd.underlying89 Tryd.underlying3 w1.heap.size es _ hm c j _ hf
      obtain ⟨k, hk⟩ : ∃ k, kindOf c = k := ⟨_, rfl⟩
      rw [hk] at lk
      have HK3 : Hid (KK = (k, 0)) := by rw [← hk]; exact HK2.out
      clear h15 hf htab hm hk
      go_wp2
      (try simp only [Exit.inBlock, Exit.then])
      refine bodyPost_ret (results_key rfl _ _ w.heap.size 54 _ _ rfl (Blk.set (Blk.set HB2.out 0 _) 1 _) Tryd.underlying54 rfl (by kernel_rfl)) rfl ?_
      exact ⟨by rw [HK3.out]; rfl, (((But.of_below (S := [w.heap.size]) HW2.out).set (Or.inl (by simp)) _).set (Or.inl (by simp)) _).below (Nat.le_refl _) (by simp)⟩
  · have hk : keyOf c = (0, c) := by unfold keyOf; rw [hp]; rfl
    have HK2 : Hid (KK = (0, c)) := by rw [← hk]; exact HK.out.symm
    clear hk hp
    have r0 := HB1.out.cell (j := 0) (v := .int .i64 0) rfl
    have r1 := HB1.out.cell (j := 1) (v := .int .i64 0) rfl
    have rf0 := HB1.out.free 0
    have rf1 := HB1.out.free 1
    have hlt2 := HB1.out.lt
    go_wp2
    (try simp only [Exit.inBlock, Exit.then])
    refine bodyPost_ret (results_key rfl _ _ w.heap.size 54 _ _ rfl (Blk.set (Blk.set HB1.out 0 _) 1 _) Tryd.underlying54 rfl (by kernel_rfl)) rfl ?_
    exact ⟨by rw [HK2.out]; rfl, (((But.of_below (S := [w.heap.size]) HW1.out).set (Or.inl (by simp)) _).set (Or.inl (by simp)) _).below (Nat.le_refl _) (by simp)⟩

section
variable {d a c N : Nat} {t : List UInt8} {ps : Bool}
/-- the key of a character, by whether a paste is begun -/
def charK (ps : Bool) (c : Int) : Int × Int := charE ps (keyOf c).1 (keyOf c).2
theorem char_k (x : Int) (w : World) (h : Dc w d a c N t ps) :
    Calls Tryd.prog 64 #[.pointer (some ⟨d, 0, none⟩), .int .i64 x] w fun e w' => e = .returned (.agg #[.int .i64 (charK ps x).1, .int .i64 (charK ps x).2]) ∧ Dc w' d a c N t ps ∧ Below w.heap.size w w' :=
  char_c x (keyOf x).1 (keyOf x).2 w h (fun W => keysOf_c x W)
end

end Go.Proofs.YtcakeolnokninaaDoor.Edit

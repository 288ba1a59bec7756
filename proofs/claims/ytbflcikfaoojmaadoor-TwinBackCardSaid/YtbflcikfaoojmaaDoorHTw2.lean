/- A character turned: twin.Turn and whispererref20.Turn are turnE. -/
import Derived.Test.YtbflcikfaoojmaaDoorGC
import Derived.Test.YtbflcikfaoojmaaDoorGR
import Derived.Laws.Bits64
set_option linter.unusedVariables false
set_option linter.unusedSimpArgs false
namespace Go.Proofs.YtbflcikfaoojmaaDoor.Edit
open Go.RowKit Go.Lib Go.Shelf ChangeShapes Utf UtfP

/-- in a row -/
def rowE (f n c z : Int) : Int := f + (c - f + z) % n
/-- a character turned -/
def turnE (c z : Int) : Int :=
  if c ≤ 126 then rowE 32 95 c z
  else if c ≤ 2047 then rowE 160 1888 c z
  else if 65535 < c then rowE 65536 1048576 c z
  else
    if 55296 ≤ rowE 2048 61440 (if 55296 < c then c - 2048 else c) z then rowE 2048 61440 (if 55296 < c then c - 2048 else c) z + 2048 else rowE 2048 61440 (if 55296 < c then c - 2048 else c) z

theorem tmod_bd (z n : Int) (hn : 0 < n) : -n < z.tmod n ∧ z.tmod n < n := by
  refine ⟨?_, Int.tmod_lt_of_pos _ hn⟩
  rcases Int.le_total 0 z with h | h
  · have := Int.tmod_nonneg n h; omega
  · have h1 := Int.tmod_lt_of_pos (-z) hn
    rw [Int.neg_tmod] at h1
    omega
theorem tmod_emod (z n a : Int) : (a + z) % n = (a + z.tmod n) % n := by
  have h := Int.tmod_add_mul_tdiv z n
  conv => lhs; rw [← h]
  rw [← Int.add_assoc, Int.add_mul_emod_self_left]
theorem tmod_small {i n : Int} (h1 : -n < i) (h2 : i < 0) : i.tmod n = i := by
  have h := Int.neg_tmod (-i) n
  have h3 : (-i).tmod n = -i := Int.tmod_eq_of_lt (by omega) (by omega)
  rw [Int.neg_neg, h3] at h
  omega
theorem emod_small {i n : Int} (h1 : -n < i) (h2 : i < 0) : i % n = i + n := by
  have h : (i + n) % n = i % n := Int.add_emod_right i n
  rw [← h, Int.emod_eq_of_lt (by omega) (by omega)]

set_option maxHeartbeats 1000000 in
theorem turned0 (c z : Int) (w : World) (h1 : 32 ≤ c) (h2 : c ≤ 126) :
    Calls Tryd.prog 27 #[.int .i64 c, .int .i64 32, .int .i64 126, .int .i64 z] w fun e w' => e = .returned (.int .i64 (rowE 32 95 c z)) ∧ w' = w := by
  unfold rowE
  rw [tmod_emod]
  obtain ⟨b1, b2⟩ := tmod_bd z 95 (by decide)
  obtain ⟨r, hr⟩ : ∃ r, z.tmod 95 = r := ⟨_, rfl⟩
  rw [hr] at b1 b2 ⊢
  have er : IntKind.i64.wrap (z.tmod 95) = r := by rw [hr]; exact IntWalk.i64_in _ (by omega)
  have er' : wrap64 (z.tmod 95) = r := by rw [hr]; unfold wrap64; omega
  have e1 : IntKind.i64.wrap (c - 32) = c - 32 := IntWalk.i64_in _ (by omega)
  have e2 : IntKind.i64.wrap (c - 32 + r) = c - 32 + r := IntWalk.i64_in _ (by omega)
  by_cases hneg : c - 32 + r < 0
  · have e3 : (c - 32 + r).tmod 95 = c - 32 + r := tmod_small (by omega) hneg
    have e4 : (c - 32 + r) % 95 = c - 32 + r + 95 := emod_small (by omega) hneg
    have e5 : IntKind.i64.wrap (c - 32 + r + 95) = c - 32 + r + 95 := IntWalk.i64_in _ (by omega)
    have e6 : IntKind.i64.wrap (32 + (c - 32 + r + 95)) = 32 + (c - 32 + r + 95) := IntWalk.i64_in _ (by omega)
    rw [e4]
    go_enter Tryd.func27, Tryd.ntmps27
    go_wp2
    go_ret
    exact ⟨rfl, rfl⟩
  · have e3 : (c - 32 + r).tmod 95 = (c - 32 + r) % 95 := Int.tmod_eq_emod_of_nonneg (by omega)
    have g1 := Int.emod_nonneg (c - 32 + r) (show (95 : Int) ≠ 0 by decide)
    have g2 := Int.emod_lt_of_pos (c - 32 + r) (show (0 : Int) < 95 by decide)
    obtain ⟨x, hx⟩ : ∃ x, (c - 32 + r) % 95 = x := ⟨_, rfl⟩
    rw [hx] at e3 g1 g2 ⊢
    have e7 : IntKind.i64.wrap x = x := IntWalk.i64_in _ (by omega)
    have e6 : IntKind.i64.wrap (32 + x) = 32 + x := IntWalk.i64_in _ (by omega)
    have hnx : ¬ x < 0 := by omega
    clear hx
    go_enter Tryd.func27, Tryd.ntmps27
    go_wp2
    go_ret
    exact ⟨rfl, rfl⟩

set_option maxHeartbeats 1000000 in
theorem turned1 (c z : Int) (w : World) (h1 : 160 ≤ c) (h2 : c ≤ 2047) :
    Calls Tryd.prog 27 #[.int .i64 c, .int .i64 160, .int .i64 2047, .int .i64 z] w fun e w' => e = .returned (.int .i64 (rowE 160 1888 c z)) ∧ w' = w := by
  unfold rowE
  rw [tmod_emod]
  obtain ⟨b1, b2⟩ := tmod_bd z 1888 (by decide)
  obtain ⟨r, hr⟩ : ∃ r, z.tmod 1888 = r := ⟨_, rfl⟩
  rw [hr] at b1 b2 ⊢
  have er : IntKind.i64.wrap (z.tmod 1888) = r := by rw [hr]; exact IntWalk.i64_in _ (by omega)
  have er' : wrap64 (z.tmod 1888) = r := by rw [hr]; unfold wrap64; omega
  have e1 : IntKind.i64.wrap (c - 160) = c - 160 := IntWalk.i64_in _ (by omega)
  have e2 : IntKind.i64.wrap (c - 160 + r) = c - 160 + r := IntWalk.i64_in _ (by omega)
  by_cases hneg : c - 160 + r < 0
  · have e3 : (c - 160 + r).tmod 1888 = c - 160 + r := tmod_small (by omega) hneg
    have e4 : (c - 160 + r) % 1888 = c - 160 + r + 1888 := emod_small (by omega) hneg
    have e5 : IntKind.i64.wrap (c - 160 + r + 1888) = c - 160 + r + 1888 := IntWalk.i64_in _ (by omega)
    have e6 : IntKind.i64.wrap (160 + (c - 160 + r + 1888)) = 160 + (c - 160 + r + 1888) := IntWalk.i64_in _ (by omega)
    rw [e4]
    go_enter Tryd.func27, Tryd.ntmps27
    go_wp2
    go_ret
    exact ⟨rfl, rfl⟩
  · have e3 : (c - 160 + r).tmod 1888 = (c - 160 + r) % 1888 := Int.tmod_eq_emod_of_nonneg (by omega)
    have g1 := Int.emod_nonneg (c - 160 + r) (show (1888 : Int) ≠ 0 by decide)
    have g2 := Int.emod_lt_of_pos (c - 160 + r) (show (0 : Int) < 1888 by decide)
    obtain ⟨x, hx⟩ : ∃ x, (c - 160 + r) % 1888 = x := ⟨_, rfl⟩
    rw [hx] at e3 g1 g2 ⊢
    have e7 : IntKind.i64.wrap x = x := IntWalk.i64_in _ (by omega)
    have e6 : IntKind.i64.wrap (160 + x) = 160 + x := IntWalk.i64_in _ (by omega)
    have hnx : ¬ x < 0 := by omega
    clear hx
    go_enter Tryd.func27, Tryd.ntmps27
    go_wp2
    go_ret
    exact ⟨rfl, rfl⟩

set_option maxHeartbeats 1000000 in
theorem turned2 (c z : Int) (w : World) (h1 : 65536 ≤ c) (h2 : c ≤ 1114111) :
    Calls Tryd.prog 27 #[.int .i64 c, .int .i64 65536, .int .i64 1114111, .int .i64 z] w fun e w' => e = .returned (.int .i64 (rowE 65536 1048576 c z)) ∧ w' = w := by
  unfold rowE
  rw [tmod_emod]
  obtain ⟨b1, b2⟩ := tmod_bd z 1048576 (by decide)
  obtain ⟨r, hr⟩ : ∃ r, z.tmod 1048576 = r := ⟨_, rfl⟩
  rw [hr] at b1 b2 ⊢
  have er : IntKind.i64.wrap (z.tmod 1048576) = r := by rw [hr]; exact IntWalk.i64_in _ (by omega)
  have er' : wrap64 (z.tmod 1048576) = r := by rw [hr]; unfold wrap64; omega
  have e1 : IntKind.i64.wrap (c - 65536) = c - 65536 := IntWalk.i64_in _ (by omega)
  have e2 : IntKind.i64.wrap (c - 65536 + r) = c - 65536 + r := IntWalk.i64_in _ (by omega)
  by_cases hneg : c - 65536 + r < 0
  · have e3 : (c - 65536 + r).tmod 1048576 = c - 65536 + r := tmod_small (by omega) hneg
    have e4 : (c - 65536 + r) % 1048576 = c - 65536 + r + 1048576 := emod_small (by omega) hneg
    have e5 : IntKind.i64.wrap (c - 65536 + r + 1048576) = c - 65536 + r + 1048576 := IntWalk.i64_in _ (by omega)
    have e6 : IntKind.i64.wrap (65536 + (c - 65536 + r + 1048576)) = 65536 + (c - 65536 + r + 1048576) := IntWalk.i64_in _ (by omega)
    rw [e4]
    go_enter Tryd.func27, Tryd.ntmps27
    go_wp2
    go_ret
    exact ⟨rfl, rfl⟩
  · have e3 : (c - 65536 + r).tmod 1048576 = (c - 65536 + r) % 1048576 := Int.tmod_eq_emod_of_nonneg (by omega)
    have g1 := Int.emod_nonneg (c - 65536 + r) (show (1048576 : Int) ≠ 0 by decide)
    have g2 := Int.emod_lt_of_pos (c - 65536 + r) (show (0 : Int) < 1048576 by decide)
    obtain ⟨x, hx⟩ : ∃ x, (c - 65536 + r) % 1048576 = x := ⟨_, rfl⟩
    rw [hx] at e3 g1 g2 ⊢
    have e7 : IntKind.i64.wrap x = x := IntWalk.i64_in _ (by omega)
    have e6 : IntKind.i64.wrap (65536 + x) = 65536 + x := IntWalk.i64_in _ (by omega)
    have hnx : ¬ x < 0 := by omega
    clear hx
    go_enter Tryd.func27, Tryd.ntmps27
    go_wp2
    go_ret
    exact ⟨rfl, rfl⟩

set_option maxHeartbeats 1000000 in
theorem turned3 (c z : Int) (w : World) (h1 : 2048 ≤ c) (h2 : c ≤ 63487) :
    Calls Tryd.prog 27 #[.int .i64 c, .int .i64 2048, .int .i64 63487, .int .i64 z] w fun e w' => e = .returned (.int .i64 (rowE 2048 61440 c z)) ∧ w' = w := by
  unfold rowE
  rw [tmod_emod]
  obtain ⟨b1, b2⟩ := tmod_bd z 61440 (by decide)
  obtain ⟨r, hr⟩ : ∃ r, z.tmod 61440 = r := ⟨_, rfl⟩
  rw [hr] at b1 b2 ⊢
  have er : IntKind.i64.wrap (z.tmod 61440) = r := by rw [hr]; exact IntWalk.i64_in _ (by omega)
  have er' : wrap64 (z.tmod 61440) = r := by rw [hr]; unfold wrap64; omega
  have e1 : IntKind.i64.wrap (c - 2048) = c - 2048 := IntWalk.i64_in _ (by omega)
  have e2 : IntKind.i64.wrap (c - 2048 + r) = c - 2048 + r := IntWalk.i64_in _ (by omega)
  by_cases hneg : c - 2048 + r < 0
  · have e3 : (c - 2048 + r).tmod 61440 = c - 2048 + r := tmod_small (by omega) hneg
    have e4 : (c - 2048 + r) % 61440 = c - 2048 + r + 61440 := emod_small (by omega) hneg
    have e5 : IntKind.i64.wrap (c - 2048 + r + 61440) = c - 2048 + r + 61440 := IntWalk.i64_in _ (by omega)
    have e6 : IntKind.i64.wrap (2048 + (c - 2048 + r + 61440)) = 2048 + (c - 2048 + r + 61440) := IntWalk.i64_in _ (by omega)
    rw [e4]
    go_enter Tryd.func27, Tryd.ntmps27
    go_wp2
    go_ret
    exact ⟨rfl, rfl⟩
  · have e3 : (c - 2048 + r).tmod 61440 = (c - 2048 + r) % 61440 := Int.tmod_eq_emod_of_nonneg (by omega)
    have g1 := Int.emod_nonneg (c - 2048 + r) (show (61440 : Int) ≠ 0 by decide)
    have g2 := Int.emod_lt_of_pos (c - 2048 + r) (show (0 : Int) < 61440 by decide)
    obtain ⟨x, hx⟩ : ∃ x, (c - 2048 + r) % 61440 = x := ⟨_, rfl⟩
    rw [hx] at e3 g1 g2 ⊢
    have e7 : IntKind.i64.wrap x = x := IntWalk.i64_in _ (by omega)
    have e6 : IntKind.i64.wrap (2048 + x) = 2048 + x := IntWalk.i64_in _ (by omega)
    have hnx : ¬ x < 0 := by omega
    clear hx
    go_enter Tryd.func27, Tryd.ntmps27
    go_wp2
    go_ret
    exact ⟨rfl, rfl⟩

theorem enc_len (c : Int) (h : fineC c = true) : ((enc c).length : Int) = if c < 128 then 1 else if c < 2048 then 2 else if c < 65536 then 3 else 4 := by
  have hc := fineC_iff.1.1 h
  split
  · rw [(enc_of (c := c) (zs := [c]) (by unfold encodeRuneZ; rw [if_pos (by omega)])).2]; rfl
  · split
    · rw [(enc_of (c := c) (zs := [192 + c / 64, 128 + c % 64]) (by unfold encodeRuneZ; rw [if_neg (by omega), if_pos (by omega)])).2]; rfl
    · split
      · rw [(enc_of (c := c) (zs := [224 + c / 4096, 128 + c / 64 % 64, 128 + c % 64]) (by unfold encodeRuneZ; rw [if_neg (by omega), if_neg (by omega), if_pos (by omega)])).2]; rfl
      · rw [(enc_of (c := c) (zs := [240 + c / 262144, 128 + c / 4096 % 64, 128 + c / 64 % 64, 128 + c % 64]) (by unfold encodeRuneZ; rw [if_neg (by omega), if_neg (by omega), if_neg (by omega), if_pos (by omega)])).2]; rfl
theorem rowE_bd (f n c z : Int) (hn : 0 < n) : f ≤ rowE f n c z ∧ rowE f n c z < f + n := by
  unfold rowE
  have := Int.emod_nonneg (c - f + z) (show n ≠ 0 by omega)
  have := Int.emod_lt_of_pos (c - f + z) hn
  omega

set_option maxHeartbeats 1000000 in
theorem turn_bad (c z : Int) (w : World) (h : printC c = false) : Calls Tryd.prog 9 #[.int .i64 c, .int .i64 z] w fun e w' => e = .returned (.tuple #[.int .i64 0, .int .i64 2]) ∧ Below w.heap.size w w' := by
  have H1 := Lib.hid (printable c w)
  rw [h] at H1
  go_enter Tryd.func9, Tryd.ntmps9
  go_wp2_with fail
  refine (H1.out).mono ?_
  rintro e w1 ⟨rfl, hb⟩
  go_wp2
  go_ret2
  exact ⟨rfl, hb⟩

set_option maxHeartbeats 1000000 in
theorem turn_c (c z : Int) (w : World) (h : printC c = true) : Calls Tryd.prog 9 #[.int .i64 c, .int .i64 z] w fun e w' => e = .returned (.tuple #[.int .i64 (turnE c z), .int .i64 0]) ∧ Below w.heap.size w w' := by
  have H1 := Lib.hid (printable c w)
  rw [h] at H1
  have hc := printC_iff.1 h
  clear h
  by_cases a1 : c ≤ 126
  · have e : turnE c z = rowE 32 95 c z := by unfold turnE; rw [if_pos a1]
    rw [e]
    have T := Lib.hid (fun W => turned0 c z W (by omega) a1)
    clear hc
    go_enter Tryd.func9, Tryd.ntmps9
    go_wp2_with fail
    refine (H1.out).mono ?_
    rintro e w1 ⟨rfl, hb⟩
    go_wp2_with fail
    refine (T.out w1).mono ?_
    rintro e w2 ⟨rfl, hq⟩
    obtain rfl := hq.symm
    go_wp2
    go_ret2
    exact ⟨rfl, hb⟩
  · have k1 : decide (c ≤ 126) = false := by simpa using a1
    by_cases a2 : c ≤ 2047
    · have e : turnE c z = rowE 160 1888 c z := by unfold turnE; rw [if_neg a1, if_pos a2]
      rw [e]
      have T := Lib.hid (fun W => turned1 c z W (by omega) a2)
      clear hc
      go_enter Tryd.func9, Tryd.ntmps9
      go_wp2_with fail
      refine (H1.out).mono ?_
      rintro e w1 ⟨rfl, hb⟩
      go_wp2_with fail
      refine (T.out w1).mono ?_
      rintro e w2 ⟨rfl, hq⟩
      obtain rfl := hq.symm
      go_wp2
      go_ret2
      exact ⟨rfl, hb⟩
    · have k2 : decide (c ≤ 2047) = false := by simpa using a2
      by_cases a3 : 65535 < c
      · have e : turnE c z = rowE 65536 1048576 c z := by unfold turnE; rw [if_neg a1, if_neg a2, if_pos a3]
        rw [e]
        have T := Lib.hid (fun W => turned2 c z W (by omega) hc.1.2.1)
        clear hc
        go_enter Tryd.func9, Tryd.ntmps9
        go_wp2_with fail
        refine (H1.out).mono ?_
        rintro e w1 ⟨rfl, hb⟩
        go_wp2_with fail
        refine (T.out w1).mono ?_
        rintro e w2 ⟨rfl, hq⟩
        obtain rfl := hq.symm
        go_wp2
        go_ret2
        exact ⟨rfl, hb⟩
      · have k3 : decide (65535 < c) = false := by simpa using a3
        obtain ⟨c', hc'⟩ : ∃ c', (if 55296 < c then c - 2048 else c) = c' := ⟨_, rfl⟩
        obtain ⟨x, hx⟩ : ∃ x, rowE 2048 61440 c' z = x := ⟨_, rfl⟩
        have hb1 : 2048 ≤ c' ∧ c' ≤ 63487 := by rw [← hc']; split <;> omega
        have hxb := rowE_bd 2048 61440 c' z (by decide)
        rw [hx] at hxb
        have e : turnE c z = if 55296 ≤ x then x + 2048 else x := by unfold turnE; rw [if_neg a1, if_neg a2, if_neg a3, hc', hx]
        rw [e]
        have T := Lib.hid (fun W => turned3 c' z W hb1.1 hb1.2)
        rw [hx] at T
        clear e hx
        by_cases a4 : 55296 < c
        · rw [if_pos a4] at hc'
          have k4 : decide (55296 < c) = true := by simpa using a4
          obtain rfl := hc'.symm
          have hcc := hc.1
          clear hc
          by_cases a5 : 55296 ≤ x
          · rw [if_pos a5]
            go_enter Tryd.func9, Tryd.ntmps9
            go_wp2_with fail
            refine (H1.out).mono ?_
            rintro e w1 ⟨rfl, hb⟩
            go_wp2_with fail
            refine (T.out w1).mono ?_
            rintro e w2 ⟨rfl, hq⟩
            obtain rfl := hq.symm
            go_wp2
            go_ret2
            exact ⟨rfl, hb⟩
          · rw [if_neg a5]
            go_enter Tryd.func9, Tryd.ntmps9
            go_wp2_with fail
            refine (H1.out).mono ?_
            rintro e w1 ⟨rfl, hb⟩
            go_wp2_with fail
            refine (T.out w1).mono ?_
            rintro e w2 ⟨rfl, hq⟩
            obtain rfl := hq.symm
            go_wp2
            go_ret2
            exact ⟨rfl, hb⟩
        · rw [if_neg a4] at hc'
          have k4 : decide (55296 < c) = false := by simpa using a4
          obtain rfl := hc'
          have hcc := hc.1
          clear hc
          by_cases a5 : 55296 ≤ x
          · rw [if_pos a5]
            go_enter Tryd.func9, Tryd.ntmps9
            go_wp2_with fail
            refine (H1.out).mono ?_
            rintro e w1 ⟨rfl, hb⟩
            go_wp2_with fail
            refine (T.out w1).mono ?_
            rintro e w2 ⟨rfl, hq⟩
            obtain rfl := hq.symm
            go_wp2
            go_ret2
            exact ⟨rfl, hb⟩
          · rw [if_neg a5]
            go_enter Tryd.func9, Tryd.ntmps9
            go_wp2_with fail
            refine (H1.out).mono ?_
            rintro e w1 ⟨rfl, hb⟩
            go_wp2_with fail
            refine (T.out w1).mono ?_
            rintro e w2 ⟨rfl, hq⟩
            obtain rfl := hq.symm
            go_wp2
            go_ret2
            exact ⟨rfl, hb⟩

theorem row_ref1 (w : World) : Calls Tryd.prog 29 #[.int .i64 1] w fun e w' => e = .returned (.tuple #[.int .i64 32, .int .i64 95]) ∧ w' = w := by
  go_enter Tryd.func29, Tryd.ntmps29
  go_wp2
  go_ret2
  exact ⟨rfl, rfl⟩
theorem row_ref2 (w : World) : Calls Tryd.prog 29 #[.int .i64 2] w fun e w' => e = .returned (.tuple #[.int .i64 160, .int .i64 1888]) ∧ w' = w := by
  go_enter Tryd.func29, Tryd.ntmps29
  go_wp2
  go_ret2
  exact ⟨rfl, rfl⟩
theorem row_ref3 (w : World) : Calls Tryd.prog 29 #[.int .i64 3] w fun e w' => e = .returned (.tuple #[.int .i64 2048, .int .i64 61440]) ∧ w' = w := by
  go_enter Tryd.func29, Tryd.ntmps29
  go_wp2
  go_ret2
  exact ⟨rfl, rfl⟩
theorem row_ref4 (w : World) : Calls Tryd.prog 29 #[.int .i64 4] w fun e w' => e = .returned (.tuple #[.int .i64 65536, .int .i64 1048576]) ∧ w' = w := by
  go_enter Tryd.func29, Tryd.ntmps29
  go_wp2
  go_ret2
  exact ⟨rfl, rfl⟩

theorem refmod (i z n : Int) (h1 : 0 ≤ i) (h2 : i < n) : (i + z.tmod n + n).tmod n = (i + z) % n := by
  obtain ⟨b1, b2⟩ := tmod_bd z n (by omega)
  rw [Int.tmod_eq_emod_of_nonneg (by omega), Int.add_emod_right, ← tmod_emod]


set_option maxHeartbeats 1000000 in
theorem refTurn1 (c z : Int) (w : World) (hf : fineC c = true) (h : c ≤ 126) (h0 : 32 ≤ c) : Calls Tryd.prog 12 #[.int .i64 c, .int .i64 z] w fun e w' => e = .returned (.int .i64 (rowE 32 95 c z)) ∧ Below w.heap.size w w' := by
  have hl := enc_len c hf
  have H1 := Lib.hid (refPut c w hf)
  have H2 := Lib.hid (fun W => row_ref1 W)
  have hc := fineC_iff.1.1 hf
  have hl1 : (enc c).length = 1 := by
    rw [if_pos (by omega)] at hl; omega
  obtain ⟨b1, b2⟩ := tmod_bd z 95 (by decide)
  have hm := refmod (c - 32) z 95 (by omega) (by omega)
  have g := rowE_bd 32 95 c z (by decide)
  have hre : rowE 32 95 c z = 32 + (c - 32 + z) % 95 := by unfold rowE; rfl
  rw [hre] at g ⊢
  obtain ⟨r, hr⟩ : ∃ r, z.tmod 95 = r := ⟨_, rfl⟩
  obtain ⟨x, hx⟩ : ∃ x, (c - 32 + z) % 95 = x := ⟨_, rfl⟩
  rw [hr] at b1 b2 hm
  rw [hx] at hm g ⊢
  clear hl hf hx hre
  go_enter Tryd.func12, Tryd.ntmps12
  go_wp2_with fail
  refine (H1.out).mono ?_
  rintro e w1 ⟨v, rfl, ho, hb⟩
  obtain ⟨A, cap, rfl, _, _, _, _⟩ := ho.form
  rw [hl1]
  clear ho
  go_wp2_with fail
  refine (H2.out w1).mono ?_
  rintro e w2 ⟨rfl, hq⟩
  obtain rfl := hq.symm
  go_wp2
  go_ret
  exact ⟨rfl, hb⟩

set_option maxHeartbeats 1000000 in
theorem refTurn2 (c z : Int) (w : World) (hf : fineC c = true) (h : c ≤ 2047) (h0 : 160 ≤ c) : Calls Tryd.prog 12 #[.int .i64 c, .int .i64 z] w fun e w' => e = .returned (.int .i64 (rowE 160 1888 c z)) ∧ Below w.heap.size w w' := by
  have hl := enc_len c hf
  have H1 := Lib.hid (refPut c w hf)
  have H2 := Lib.hid (fun W => row_ref2 W)
  have hc := fineC_iff.1.1 hf
  have hl2 : (enc c).length = 2 := by
    rw [if_neg (by omega), if_pos (by omega)] at hl; omega
  obtain ⟨b1, b2⟩ := tmod_bd z 1888 (by decide)
  have hm := refmod (c - 160) z 1888 (by omega) (by omega)
  have g := rowE_bd 160 1888 c z (by decide)
  have hre : rowE 160 1888 c z = 160 + (c - 160 + z) % 1888 := by unfold rowE; rfl
  rw [hre] at g ⊢
  obtain ⟨r, hr⟩ : ∃ r, z.tmod 1888 = r := ⟨_, rfl⟩
  obtain ⟨x, hx⟩ : ∃ x, (c - 160 + z) % 1888 = x := ⟨_, rfl⟩
  rw [hr] at b1 b2 hm
  rw [hx] at hm g ⊢
  clear hl hf hx hre
  go_enter Tryd.func12, Tryd.ntmps12
  go_wp2_with fail
  refine (H1.out).mono ?_
  rintro e w1 ⟨v, rfl, ho, hb⟩
  obtain ⟨A, cap, rfl, _, _, _, _⟩ := ho.form
  rw [hl2]
  clear ho
  go_wp2_with fail
  refine (H2.out w1).mono ?_
  rintro e w2 ⟨rfl, hq⟩
  obtain rfl := hq.symm
  go_wp2
  go_ret
  exact ⟨rfl, hb⟩

set_option maxHeartbeats 1000000 in
theorem refTurn4 (c z : Int) (w : World) (hf : fineC c = true) (h : 65535 < c) : Calls Tryd.prog 12 #[.int .i64 c, .int .i64 z] w fun e w' => e = .returned (.int .i64 (rowE 65536 1048576 c z)) ∧ Below w.heap.size w w' := by
  have hl := enc_len c hf
  have H1 := Lib.hid (refPut c w hf)
  have H2 := Lib.hid (fun W => row_ref4 W)
  have hc := fineC_iff.1.1 hf
  have hl4 : (enc c).length = 4 := by
    rw [if_neg (by omega), if_neg (by omega), if_neg (by omega)] at hl; omega
  obtain ⟨b1, b2⟩ := tmod_bd z 1048576 (by decide)
  have hm := refmod (c - 65536) z 1048576 (by omega) (by omega)
  have g := rowE_bd 65536 1048576 c z (by decide)
  have hre : rowE 65536 1048576 c z = 65536 + (c - 65536 + z) % 1048576 := by unfold rowE; rfl
  rw [hre] at g ⊢
  obtain ⟨r, hr⟩ : ∃ r, z.tmod 1048576 = r := ⟨_, rfl⟩
  obtain ⟨x, hx⟩ : ∃ x, (c - 65536 + z) % 1048576 = x := ⟨_, rfl⟩
  rw [hr] at b1 b2 hm
  rw [hx] at hm g ⊢
  clear hl hf hx hre
  go_enter Tryd.func12, Tryd.ntmps12
  go_wp2_with fail
  refine (H1.out).mono ?_
  rintro e w1 ⟨v, rfl, ho, hb⟩
  obtain ⟨A, cap, rfl, _, _, _, _⟩ := ho.form
  rw [hl4]
  clear ho
  go_wp2_with fail
  refine (H2.out w1).mono ?_
  rintro e w2 ⟨rfl, hq⟩
  obtain rfl := hq.symm
  go_wp2
  go_ret
  exact ⟨rfl, hb⟩

set_option maxHeartbeats 1000000 in
theorem refTurn3a (c z : Int) (w : World) (hf : fineC c = true) (h : 2047 < c) (h0 : c ≤ 55296) : Calls Tryd.prog 12 #[.int .i64 c, .int .i64 z] w fun e w' => e = .returned (.int .i64 (if 55296 ≤ rowE 2048 61440 c z then rowE 2048 61440 c z + 2048 else rowE 2048 61440 c z)) ∧ Below w.heap.size w w' := by
  have hl := enc_len c hf
  have H1 := Lib.hid (refPut c w hf)
  have H2 := Lib.hid (fun W => row_ref3 W)
  have hc := fineC_iff.1.1 hf
  have hl3 : (enc c).length = 3 := by
    rw [if_neg (by omega), if_neg (by omega), if_pos (by omega)] at hl; omega
  obtain ⟨b1, b2⟩ := tmod_bd z 61440 (by decide)
  have hm := refmod (c - 2048) z 61440 (by omega) (by omega)
  have g := rowE_bd 2048 61440 c z (by decide)
  have hre : rowE 2048 61440 c z = 2048 + (c - 2048 + z) % 61440 := by unfold rowE; rfl
  rw [hre] at g ⊢
  obtain ⟨r, hr⟩ : ∃ r, z.tmod 61440 = r := ⟨_, rfl⟩
  obtain ⟨x, hx⟩ : ∃ x, (c - 2048 + z) % 61440 = x := ⟨_, rfl⟩
  rw [hr] at b1 b2 hm
  rw [hx] at hm g ⊢
  clear hl hf hx hre
  by_cases a5 : 55296 ≤ 2048 + x
  · have a6 : ¬ 2048 + x ≤ 55295 := by omega
    rw [if_pos a5]
    go_enter Tryd.func12, Tryd.ntmps12
    go_wp2_with fail
    refine (H1.out).mono ?_
    rintro e w1 ⟨v, rfl, ho, hb⟩
    obtain ⟨A, cap, rfl, _, _, _, _⟩ := ho.form
    rw [hl3]
    clear ho
    go_wp2_with fail
    refine (H2.out w1).mono ?_
    rintro e w2 ⟨rfl, hq⟩
    obtain rfl := hq.symm
    go_wp2
    go_ret
    exact ⟨rfl, hb⟩
  · have a6 : 2048 + x ≤ 55295 := by omega
    rw [if_neg a5]
    go_enter Tryd.func12, Tryd.ntmps12
    go_wp2_with fail
    refine (H1.out).mono ?_
    rintro e w1 ⟨v, rfl, ho, hb⟩
    obtain ⟨A, cap, rfl, _, _, _, _⟩ := ho.form
    rw [hl3]
    clear ho
    go_wp2_with fail
    refine (H2.out w1).mono ?_
    rintro e w2 ⟨rfl, hq⟩
    obtain rfl := hq.symm
    go_wp2
    go_ret
    exact ⟨rfl, hb⟩

set_option maxHeartbeats 1000000 in
theorem refTurn3b (c z : Int) (w : World) (hf : fineC c = true) (h : 55296 < c) (h0 : c ≤ 65535) : Calls Tryd.prog 12 #[.int .i64 c, .int .i64 z] w fun e w' => e = .returned (.int .i64 (if 55296 ≤ rowE 2048 61440 (c - 2048) z then rowE 2048 61440 (c - 2048) z + 2048 else rowE 2048 61440 (c - 2048) z)) ∧ Below w.heap.size w w' := by
  have hl := enc_len c hf
  have H1 := Lib.hid (refPut c w hf)
  have H2 := Lib.hid (fun W => row_ref3 W)
  have hc := fineC_iff.1.1 hf
  have hl3 : (enc c).length = 3 := by
    rw [if_neg (by omega), if_neg (by omega), if_pos (by omega)] at hl; omega
  obtain ⟨b1, b2⟩ := tmod_bd z 61440 (by decide)
  have hm := refmod (c - 2048 - 2048) z 61440 (by omega) (by omega)
  have g := rowE_bd 2048 61440 (c - 2048) z (by decide)
  have hre : rowE 2048 61440 (c - 2048) z = 2048 + (c - 2048 - 2048 + z) % 61440 := by unfold rowE; rfl
  rw [hre] at g ⊢
  obtain ⟨r, hr⟩ : ∃ r, z.tmod 61440 = r := ⟨_, rfl⟩
  obtain ⟨x, hx⟩ : ∃ x, (c - 2048 - 2048 + z) % 61440 = x := ⟨_, rfl⟩
  rw [hr] at b1 b2 hm
  rw [hx] at hm g ⊢
  clear hl hf hx hre
  by_cases a5 : 55296 ≤ 2048 + x
  · have a6 : ¬ 2048 + x ≤ 55295 := by omega
    rw [if_pos a5]
    go_enter Tryd.func12, Tryd.ntmps12
    go_wp2_with fail
    refine (H1.out).mono ?_
    rintro e w1 ⟨v, rfl, ho, hb⟩
    obtain ⟨A, cap, rfl, _, _, _, _⟩ := ho.form
    rw [hl3]
    clear ho
    go_wp2_with fail
    refine (H2.out w1).mono ?_
    rintro e w2 ⟨rfl, hq⟩
    obtain rfl := hq.symm
    go_wp2
    go_ret
    exact ⟨rfl, hb⟩
  · have a6 : 2048 + x ≤ 55295 := by omega
    rw [if_neg a5]
    go_enter Tryd.func12, Tryd.ntmps12
    go_wp2_with fail
    refine (H1.out).mono ?_
    rintro e w1 ⟨v, rfl, ho, hb⟩
    obtain ⟨A, cap, rfl, _, _, _, _⟩ := ho.form
    rw [hl3]
    clear ho
    go_wp2_with fail
    refine (H2.out w1).mono ?_
    rintro e w2 ⟨rfl, hq⟩
    obtain rfl := hq.symm
    go_wp2
    go_ret
    exact ⟨rfl, hb⟩

theorem refTurn (c z : Int) (w : World) (h : printC c = true) : Calls Tryd.prog 12 #[.int .i64 c, .int .i64 z] w fun e w' => e = .returned (.int .i64 (turnE c z)) ∧ Below w.heap.size w w' := by
  have hf := printC_fine h
  have hc := printC_iff.1 h
  unfold turnE
  by_cases a1 : c ≤ 126
  · rw [if_pos a1]; exact refTurn1 c z w hf a1 (by omega)
  · rw [if_neg a1]
    by_cases a2 : c ≤ 2047
    · rw [if_pos a2]; exact refTurn2 c z w hf a2 (by omega)
    · rw [if_neg a2]
      by_cases a3 : 65535 < c
      · rw [if_pos a3]; exact refTurn4 c z w hf a3
      · rw [if_neg a3]
        by_cases a4 : 55296 < c
        · rw [if_pos a4]; exact refTurn3b c z w hf a4 (by omega)
        · rw [if_neg a4]; exact refTurn3a c z w hf (by omega) (by omega)

end Go.Proofs.YtbflcikfaoojmaaDoor.Edit

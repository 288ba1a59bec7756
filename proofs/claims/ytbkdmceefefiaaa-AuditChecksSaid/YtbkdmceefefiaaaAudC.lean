/- audit.Check, walked: what it tells is what the plain check tells. -/
import Derived.Test.YtbkdmceefefiaaaAudS
import Derived.LoopN
set_option linter.unusedVariables false
namespace Go.Proofs.Ytbkdmceefefiaaa.Aud
open Go.RowKit Go.Lib Mem Byt

def kindErr (e : Eff) : Int := if e.k < 0 ∨ 6 < e.k then 9 else if e.k = 6 then 13 else 0
def roundS (s : Nat) (a : AS) (e : Eff) : Nat × AS × Int :=
  if kindErr e ≠ 0 then (s, a, kindErr e)
  else if (stepS s a e).2.2 ≠ 0 then ((stepS s a e).1, (stepS s a e).2.1, (stepS s a e).2.2)
  else ((stepS s a e).1, countS (stepS s a e).2.1 e, 0)
def zeroS : AS := ⟨0, 0, 0, 0, 0, 0, 0, 0, 0, false, false⟩
def checkS (i : Nat) (s : Nat) (a : AS) : List Eff → AS × Nat × Int
  | [] => if a.ov then (a, i, 0) else (zeroS, i, 7)
  | e :: es => if (roundS s a e).2.2 ≠ 0 then (zeroS, i, (roundS s a e).2.2) else checkS (i + 1) (roundS s a e).1 (roundS s a e).2.1 es

def repC (a : AS) : Array Value := #[.int .i64 a.wr, .int .i64 a.rd, .int .i64 a.sg, .int .i64 a.inn, .int .i64 a.out, .int .i64 a.be, .bool a.rs]

/-- The effects of a slice, in memory. -/
def EffsAt (w : World) (A : Option Addr) (es : List Eff) : Prop :=
  es ≠ [] → ∃ g off, A = some ⟨g, off, none⟩ ∧ g < w.heap.size ∧ ∀ j e, es[j]? = some e → (∀ i v, e.cells[i]? = some v → w.cell? ⟨g, off + j * 7 + i, none⟩ = some v) ∧ BytesAt w e.A e.l

theorem call_fn (s : Nat) : ∀ (args : Array Value) (w : World), (callFunc (fnOf s) args).run Try.prog w = .ok (.enter (fnOf s) args) w :=
  match s with
  | 0 => Try.call12
  | 1 => Try.call16
  | 2 => Try.call24
  | 3 => Try.call27
  | 4 => Try.call29
  | 5 => Try.call23
  | _ + 6 => Try.call15

set_option maxHeartbeats 1000000 in
theorem check (es : List Eff) (A : Option Addr) (cap : Nat) (W0 : World) (hA : EffsAt W0 A es) (hl : es.length ≤ 4611686018427387904) :
    Calls Try.prog 8 #[.slice A es.length cap] W0 fun e w' => e = .returned (.tuple #[.agg (repC (checkS 0 0 zeroS es).1), .int .i64 ((checkS 0 0 zeroS es).2.1 : Int), .int .i64 (checkS 0 0 zeroS es).2.2]) ∧ Below W0.heap.size W0 w' := by
  obtain ⟨R, hR⟩ : ∃ R, checkS 0 0 zeroS es = R := ⟨_, rfl⟩
  rw [hR]
  obtain ⟨B0, hB0⟩ : ∃ B0, B0 = W0.heap.size := ⟨_, rfl⟩
  have HA := Lib.hid hA
  have HR := Lib.hid hR
  have HB0 := Lib.hid hB0
  clear hA hR hB0
  go_enter Try.func8, Try.ntmps8
  go_wp2
  rw [← HB0.out]
  go_loopw [6, 16] (fun now i wr => ∃ (j s : Nat) (a : AS), i = .int .i64 (j : Int) ∧ j ≤ es.length ∧ s ≤ 6 ∧ now = stV (B0 + 1) (fnOf s) ∧ Hid (checkS j s a (es.drop j) = R) ∧ AudS wr (B0 + 1) a ∧ Blk wr B0 (repC zeroS) 26 ∧ Below B0 W0 wr) (fun _ i _ => es.length - (RowKit.intOf i).toNat)
  case atStart =>
    have h1 : Below B0 W0 (W0.alloc (.cells (repC zeroS) 26)) := (Below.refl _ _).alloc (by rw [HB0.out]; omega) _
    refine ⟨0, 0, zeroS, rfl, by omega, by omega, rfl, HR.out, ?_, ?_, ?_⟩
    · have := Blk.new (W0.alloc (.cells (repC zeroS) 26)) (audC 0 0 0 0 0 0 0 0 0 false false) 47
      rw [show (W0.alloc (.cells (repC zeroS) 26)).heap.size = B0 + 1 by rw [HB0.out]; simp] at this
      exact this
    · have := Blk.new W0 (repC zeroS) 26
      rw [← HB0.out] at this
      exact this.alloc _
    · exact h1.alloc (by rw [HB0.out]; simp) _
  case round =>
    obtain ⟨j, s, a, rfl, hj, hs, rfl, hC, haud, hrep, hbw⟩ := hrel
    by_cases hlt : j < es.length
    · have hej : es[j]? = some es[j] := List.getElem?_eq_getElem hlt
      obtain ⟨e, he⟩ : ∃ e, es[j] = e := ⟨_, rfl⟩
      rw [he] at hej
      obtain ⟨g, off, rfl, hg, hcells⟩ := HA.out (by intro h; rw [h] at hlt; simp at hlt)
      obtain ⟨hce, hbe⟩ := hcells j e hej
      have hgB : g < B0 := by rw [HB0.out]; exact hg
      have q : ∀ i v, e.cells[i]? = some v → wr.cell? ⟨g, off + j * 7 + i, none⟩ = some v := fun i v h => by rw [hbw.cell (p := ⟨g, off + j * 7 + i, none⟩) hgB]; exact hce i v h
      have q0 : wr.cell? ⟨g, off + j * 7, none⟩ = some (.int .i64 e.k) := q 0 _ rfl
      have q1 : wr.cell? ⟨g, off + j * 7 + 1, none⟩ = some (.int .u32 e.fl) := q 1 _ rfl
      have q2 : wr.cell? ⟨g, off + j * 7 + 2, none⟩ = some (.int .u8 e.mn) := q 2 _ rfl
      have q3 : wr.cell? ⟨g, off + j * 7 + 3, none⟩ = some (.int .u8 e.tm) := q 3 _ rfl
      have q4 : wr.cell? ⟨g, off + j * 7 + 4, none⟩ = some (.slice e.A e.l.length e.cap) := q 4 _ rfl
      have q5 : wr.cell? ⟨g, off + j * 7 + 5, none⟩ = some (.int .i64 e.n) := q 5 _ rfl
      have q6 : wr.cell? ⟨g, off + j * 7 + 6, none⟩ = some (.bool e.ok) := q 6 _ rfl
      have k0 : (j : Int) < (es.length : Int) := by omega
      obtain ⟨f, hf⟩ : ∃ f, fnOf s = f := ⟨_, rfl⟩
      have hcf := call_fn s
      rw [hf] at hcf ⊢
      unfold stV
      have r0 := hrep.cell (j := 0) (v := .int .i64 0) rfl
      have z0 := hrep.free 0
      have r1 := hrep.cell (j := 1) (v := .int .i64 0) rfl
      have z1 := hrep.free 1
      have r2 := hrep.cell (j := 2) (v := .int .i64 0) rfl
      have z2 := hrep.free 2
      have r3 := hrep.cell (j := 3) (v := .int .i64 0) rfl
      have z3 := hrep.free 3
      have r4 := hrep.cell (j := 4) (v := .int .i64 0) rfl
      have z4 := hrep.free 4
      have r5 := hrep.cell (j := 5) (v := .int .i64 0) rfl
      have z5 := hrep.free 5
      have r6 := hrep.cell (j := 6) (v := .bool false) rfl
      have z6 := hrep.free 6
      have hb1 : BytesAt wr e.A e.l := hbe.below (by rw [← HB0.out]; exact hbw)
      have hbl : ∀ p, e.A = some p → e.l ≠ [] → p.block ≠ B0 + 1 := fun p hp hne => by
        obtain ⟨g', o', h1, h2, _⟩ := hbe hne
        rw [hp] at h1
        obtain rfl := Option.some.inj h1
        have := HB0.out
        show g' ≠ B0 + 1
        omega
      have hsz : B0 + 1 < wr.heap.size := Blk.lt haud
      have HSTEP := Lib.hid (step_c s hs a e (B0 + 1) (wr.alloc (.cells #[.int .i64 e.k, .int .u32 e.fl, .int .u8 e.mn, .int .u8 e.tm, .slice e.A e.l.length e.cap, .int .i64 e.n, .bool e.ok] 44)) (Blk.alloc haud _) (hb1.below ((Below.refl _ _).alloc (Nat.le_refl _) _)))
      rw [hf] at HSTEP
      unfold Eff.cells effC Eff.d at HSTEP
      have hCr : (if (roundS s a e).2.2 ≠ 0 then (zeroS, j, (roundS s a e).2.2) else checkS (j + 1) (roundS s a e).1 (roundS s a e).2.1 (es.drop (j + 1))) = R := by
        have h := hC.out
        rw [List.drop_eq_getElem_cons hlt, he] at h
        exact h
      have hRK : ∀ x : Int, (roundS s a e).2.2 = x → x ≠ 0 → (zeroS, j, x) = R := fun x hx h0 => by
        rw [hx, if_pos h0] at hCr; exact hCr
      have hset : ∀ (x : World) (i : Nat) (v : Value), Below B0 W0 x → Below B0 W0 (x.setCell ⟨B0, i, none⟩ v) := fun x i v h => h.setCell (Nat.le_refl _) v
      have HSET := Lib.hid hset
      have HRK := Lib.hid hRK
      have HCR := Lib.hid hCr
      have HBY := Lib.hid hbe
      have HBL := Lib.hid hbl
      have HREP := Lib.hid hrep
      have HAU := Lib.hid haud
      have HBW := Lib.hid hbw
      have HSZ := Lib.hid hsz
      have hB0lt : B0 < wr.heap.size := by omega
      have hB0ne : B0 ≠ wr.heap.size := by omega
      have hB1ne : B0 + 1 ≠ wr.heap.size := by omega
      have hB01 : B0 ≠ B0 + 1 := by omega
      clear q hce hbe hcells haud hrep hbw hRK hCr hset hb1 hbl
      by_cases hk0 : e.k < 0
      · skip
        have e0 : decide (e.k < 0) = true := by simp; omega
        have HR9 := Lib.hid (show (roundS s a e).2.2 = 9 by unfold roundS kindErr; simp [hk0])
        clear hk0
        go_wp2
        (try simp only [Exit.inBlock, Exit.then])
        refine bodyPost_ret (results_cell3 rfl _ _ B0 26 _ _ rfl (Blk.alloc (Blk.set (Blk.set (Blk.set (Blk.set (Blk.set (Blk.set (Blk.set HREP.out 0 _) 1 _) 2 _) 3 _) 4 _) 5 _) 6 _) _) Try.underlying26 rfl (by kernel_rfl)) rfl ?_
        have h := HRK.out _ HR9.out (by decide)
        rw [← h, ← HB0.out]
        exact ⟨rfl, (HSET.out _ _ _ (HSET.out _ _ _ (HSET.out _ _ _ (HSET.out _ _ _ (HSET.out _ _ _ (HSET.out _ _ _ (HSET.out _ _ _ HBW.out))))))).alloc (by have := HSZ.out; simp [World.setCell]; omega) _⟩
      · by_cases hk7 : 6 < e.k
        · skip
          have e0 : decide (e.k < 0) = false := by simp; omega
          have e7 : decide (6 < e.k) = true := by simp; omega
          have HR9 := Lib.hid (show (roundS s a e).2.2 = 9 by unfold roundS kindErr; simp [hk7])
          clear hk0
          go_wp2
          (try simp only [Exit.inBlock, Exit.then])
          refine bodyPost_ret (results_cell3 rfl _ _ B0 26 _ _ rfl (Blk.alloc (Blk.set (Blk.set (Blk.set (Blk.set (Blk.set (Blk.set (Blk.set HREP.out 0 _) 1 _) 2 _) 3 _) 4 _) 5 _) 6 _) _) Try.underlying26 rfl (by kernel_rfl)) rfl ?_
          have h := HRK.out _ HR9.out (by decide)
          rw [← h, ← HB0.out]
          exact ⟨rfl, (HSET.out _ _ _ (HSET.out _ _ _ (HSET.out _ _ _ (HSET.out _ _ _ (HSET.out _ _ _ (HSET.out _ _ _ (HSET.out _ _ _ HBW.out))))))).alloc (by have := HSZ.out; simp [World.setCell]; omega) _⟩
        · by_cases hk6 : e.k = 6
          · skip
            have e0 : decide (e.k < 0) = false := by simp; omega
            have e7 : decide (6 < e.k) = false := by simp; omega
            have e6 : (e.k == 6) = true := by simp; omega
            have HR9 := Lib.hid (show (roundS s a e).2.2 = 13 by unfold roundS kindErr; simp [hk6])
            clear hk0
            go_wp2
            (try simp only [Exit.inBlock, Exit.then])
            refine bodyPost_ret (results_cell3 rfl _ _ B0 26 _ _ rfl (Blk.alloc (Blk.set (Blk.set (Blk.set (Blk.set (Blk.set (Blk.set (Blk.set HREP.out 0 _) 1 _) 2 _) 3 _) 4 _) 5 _) 6 _) _) Try.underlying26 rfl (by kernel_rfl)) rfl ?_
            have h := HRK.out _ HR9.out (by decide)
            rw [← h, ← HB0.out]
            exact ⟨rfl, (HSET.out _ _ _ (HSET.out _ _ _ (HSET.out _ _ _ (HSET.out _ _ _ (HSET.out _ _ _ (HSET.out _ _ _ (HSET.out _ _ _ HBW.out))))))).alloc (by have := HSZ.out; simp [World.setCell]; omega) _⟩
          · have e0 : decide (e.k < 0) = false := by simp; omega
            have e7 : decide (6 < e.k) = false := by simp; omega
            have e6 : (e.k == 6) = false := by simp; omega
            have HK := Lib.hid (show kindErr e = 0 by unfold kindErr; rw [if_neg (by omega), if_neg hk6])
            clear hk0 hk7 hk6
            go_wp2_with fail
            refine HSTEP.out.mono ?_
            rintro x w2 ⟨v, rfl, hst, hb2⟩
            have HB2 := Lib.hid hb2
            have HST := Lib.hid hst
            clear hst hb2
            have HW2 : Hid (Below B0 W0 w2) := (HBW.out.alloc (by have := hB0lt; omega) _).trans (HB2.out.below (by simp; omega) (by simp))
            have HREP2 : Hid (Blk w2 B0 (repC zeroS) 26) := Blk.but (Blk.alloc HREP.out _) HB2.out (by simp)
            obtain ⟨er, her⟩ : ∃ er, (stepS s a e).2.2 = er := ⟨_, rfl⟩
            have HER := Lib.hid her
            rw [her] at HST ⊢
            clear her
            by_cases h0 : er = 0
            · subst h0
              obtain ⟨rfl, hs2, hau2⟩ := HST.out rfl
              have HS2 := Lib.hid hs2
              have HN2 : Hid (Blk w2 wr.heap.size #[.int .i64 e.k, .int .u32 e.fl, .int .u8 e.mn, .int .u8 e.tm, .slice e.A e.l.length e.cap, .int .i64 e.n, .bool e.ok] 44) := Blk.but (Blk.new wr _ _) HB2.out (by simp; omega)
              have y0 := HN2.out.cell (j := 0) (v := .int .i64 e.k) rfl
              have y1 := HN2.out.cell (j := 1) (v := .int .u32 e.fl) rfl
              have y2 := HN2.out.cell (j := 2) (v := .int .u8 e.mn) rfl
              have y3 := HN2.out.cell (j := 3) (v := .int .u8 e.tm) rfl
              have y4 := HN2.out.cell (j := 4) (v := .slice e.A e.l.length e.cap) rfl
              have y5 := HN2.out.cell (j := 5) (v := .int .i64 e.n) rfl
              have y6 := HN2.out.cell (j := 6) (v := .bool e.ok) rfl
              have HCOUNT := Lib.hid (count_c (stepS s a e).2.1 e (B0 + 1) w2 hau2 (HBY.out.below (by rw [← HB0.out]; exact HW2.out)) HBL.out)
              unfold Eff.cells effC Eff.d at HCOUNT
              clear hs2 hau2
              go_wp2_with (go_at_call 13; refine (HCOUNT.out).mono ?_; rintro x w3 ⟨rfl, hau3, hb3⟩)
              have HAU3 := Lib.hid hau3
              have HB3 := Lib.hid hb3
              clear hau3 hb3
              go_roundw
              case rel =>
                refine ⟨j + 1, (stepS s a e).1, countS (stepS s a e).2.1 e, by go_num, by omega, HS2.out, rfl, ?_, HAU3.out, ?_, ?_⟩
                · have h := HCR.out
                  rw [show roundS s a e = ((stepS s a e).1, countS (stepS s a e).2.1 e, 0) by unfold roundS; rw [HK.out, if_neg (by simp), HER.out, if_neg (by simp)]] at h
                  rw [if_neg (by simp)] at h
                  exact h
                · exact Blk.but HREP2.out HB3.out (by simp)
                · exact HW2.out.trans (HB3.out.below (by have := (Blk.lt HREP2.out); omega) (by simp))
              case measure => simp [RowKit.intOf]; omega
            · have h0' : (er == 0) = false := by simpa using h0
              have r0' := HREP2.out.cell (j := 0) (v := .int .i64 0) rfl
              have z0' := HREP2.out.free 0
              have r1' := HREP2.out.cell (j := 1) (v := .int .i64 0) rfl
              have z1' := HREP2.out.free 1
              have r2' := HREP2.out.cell (j := 2) (v := .int .i64 0) rfl
              have z2' := HREP2.out.free 2
              have r3' := HREP2.out.cell (j := 3) (v := .int .i64 0) rfl
              have z3' := HREP2.out.free 3
              have r4' := HREP2.out.cell (j := 4) (v := .int .i64 0) rfl
              have z4' := HREP2.out.free 4
              have r5' := HREP2.out.cell (j := 5) (v := .int .i64 0) rfl
              have z5' := HREP2.out.free 5
              have r6' := HREP2.out.cell (j := 6) (v := .bool false) rfl
              have z6' := HREP2.out.free 6
              go_wp2
              (try simp only [Exit.inBlock, Exit.then])
              refine bodyPost_ret (results_cell3 rfl _ _ B0 26 _ _ rfl (Blk.set (Blk.set (Blk.set (Blk.set (Blk.set (Blk.set (Blk.set HREP2.out 0 _) 1 _) 2 _) 3 _) 4 _) 5 _) 6 _) Try.underlying26 rfl (by kernel_rfl)) rfl ?_
              have h := HRK.out er (by unfold roundS; rw [HK.out, if_neg (by simp), HER.out, if_pos h0]) h0
              rw [← h, ← HB0.out]
              exact ⟨rfl, HSET.out _ _ _ (HSET.out _ _ _ (HSET.out _ _ _ (HSET.out _ _ _ (HSET.out _ _ _ (HSET.out _ _ _ (HSET.out _ _ _ HW2.out))))))⟩
    · have hge : decide ((j : Int) < (es.length : Int)) = false := by simp; omega
      have hge' : decide (j < es.length) = false := by simp; omega
      have HJ := Lib.hid (show j = es.length by omega)
      have d0 := haud.cA
      have d1 := haud.c3
      have d2 := haud.c4
      have d3 := haud.c5
      have d4 := haud.c6
      have d5 := haud.c7
      have d6 := haud.c8
      have d7 := haud.c9
      have r0 := hrep.cell (j := 0) (v := .int .i64 0) rfl
      have z0 := hrep.free 0
      have r1 := hrep.cell (j := 1) (v := .int .i64 0) rfl
      have z1 := hrep.free 1
      have r2 := hrep.cell (j := 2) (v := .int .i64 0) rfl
      have z2 := hrep.free 2
      have r3 := hrep.cell (j := 3) (v := .int .i64 0) rfl
      have z3 := hrep.free 3
      have r4 := hrep.cell (j := 4) (v := .int .i64 0) rfl
      have z4 := hrep.free 4
      have r5 := hrep.cell (j := 5) (v := .int .i64 0) rfl
      have z5 := hrep.free 5
      have r6 := hrep.cell (j := 6) (v := .bool false) rfl
      have z6 := hrep.free 6
      have HREP := Lib.hid hrep
      have HBW := Lib.hid hbw
      have HAU := Lib.hid haud
      have hnb : B0 ≠ B0 + 1 := by omega
      clear hrep hbw haud
      have hset : ∀ (x : World) (i : Nat) (v : Value), Below B0 W0 x → Below B0 W0 (x.setCell ⟨B0, i, none⟩ v) := fun x i v h => h.setCell (Nat.le_refl _) v
      have HSET := Lib.hid hset
      have hRv : (if a.ov then (a, es.length, (0 : Int)) else (zeroS, es.length, 7)) = R := by
        have h := hC.out
        rw [List.drop_eq_nil_of_le (by omega), HJ.out] at h
        exact h
      have HRV := Lib.hid hRv
      clear hset hRv
      cases hov : a.ov
      · go_wp2
        (try simp only [Exit.inBlock, Exit.then])
        refine bodyPost_ret (results_cell3 rfl _ _ B0 26 _ _ rfl (Blk.set (Blk.set (Blk.set (Blk.set (Blk.set (Blk.set (Blk.set HREP.out 0 _) 1 _) 2 _) 3 _) 4 _) 5 _) 6 _) Try.underlying26 rfl (by kernel_rfl)) rfl ?_
        have h := HRV.out
        rw [hov, if_neg (by simp)] at h
        rw [← h, ← HB0.out]
        exact ⟨rfl, HSET.out _ _ _ (HSET.out _ _ _ (HSET.out _ _ _ (HSET.out _ _ _ (HSET.out _ _ _ (HSET.out _ _ _ (HSET.out _ _ _ HBW.out))))))⟩
      · go_wp2
        (try simp only [Exit.inBlock, Exit.then])
        refine bodyPost_ret (results_cell3 rfl _ _ B0 26 _ _ rfl (Blk.set (Blk.set (Blk.set (Blk.set (Blk.set (Blk.set (Blk.set HREP.out 0 _) 1 _) 2 _) 3 _) 4 _) 5 _) 6 _) Try.underlying26 rfl (by kernel_rfl)) rfl ?_
        have h := HRV.out
        rw [hov, if_pos rfl] at h
        rw [← h, ← HB0.out]
        exact ⟨rfl, HSET.out _ _ _ (HSET.out _ _ _ (HSET.out _ _ _ (HSET.out _ _ _ (HSET.out _ _ _ (HSET.out _ _ _ (HSET.out _ _ _ HBW.out))))))⟩

end Go.Proofs.Ytbkdmceefefiaaa.Aud

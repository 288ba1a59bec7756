/- The document's check of an audit: it is the plain one. -/
import Derived.Test.YtbkdmceefefiaaaAudR3
set_option linter.unusedVariables false
namespace Go.Proofs.Ytbkdmceefefiaaa.Aud
open Go.RowKit Go.Lib Mem Byt

attribute [local go_sem ↓] conv_str
attribute [local go_sem] strOf_toList

def attC (fl mn tm : Int) : Array Value := #[.int .u32 fl, .int .u8 mn, .int .u8 tm]

def RInv (es : List Eff) (R : AS × Nat × Int) (B0 : Nat) (W0 : World) (at' i : Value) (wr : World) : Prop :=
  ∃ (j s : Nat) (a : AS) (sf sm st : Int), i = .int .i64 (j : Int) ∧ j ≤ es.length ∧ s ≤ 6 ∧ at' = .int .i64 (s : Int) ∧ Hid (checkS j s a (es.drop j) = R) ∧ (s = 0 ↔ j = 0) ∧ a.ov = (s == 6) ∧ (s < 6 → a.rs = false) ∧ (1 ≤ s → s ≤ 5 → sf = a.fl ∧ sm = a.mn ∧ st = a.tm) ∧ (0 ≤ sf ∧ sf < 4294967296) ∧
      Blk wr (B0 + 1) (repC a) 30 ∧ Blk wr (B0 + 1 + 1) (attC sf sm st) 41 ∧ Blk wr B0 (repC zeroS) 30 ∧ Below B0 W0 wr

theorem errS_round (s : Nat) (a : AS) (e : Eff) (x : Int) (h : errS s a e = x) (h0 : x ≠ 0) : (roundS s a e).2.2 = x := by
  unfold errS at h
  unfold roundS
  by_cases hk : kindErr e = 0
  · rw [hk, if_neg (by simp)] at h
    rw [hk, if_neg (by simp), h, if_pos h0]
  · rw [if_pos hk] at h
    rw [if_pos hk]; exact h

set_option maxRecDepth 200000 in
set_option maxHeartbeats 4000000 in
theorem rcheck (es : List Eff) (A : Option Addr) (cap : Nat) (W0 : World) (hA : EffsAt W0 A es) (hl : es.length ≤ 4611686018427387904) (hfl : ∀ e ∈ es, 0 ≤ e.fl ∧ e.fl < 4294967296) :
    Calls Try.prog 9 #[.slice A es.length cap] W0 fun e w' => e = .returned (.tuple #[.agg (repC (checkS 0 0 zeroS es).1), .int .i64 ((checkS 0 0 zeroS es).2.1 : Int), .int .i64 (checkS 0 0 zeroS es).2.2]) ∧ Below W0.heap.size W0 w' := by
  obtain ⟨R, hR⟩ : ∃ R, checkS 0 0 zeroS es = R := ⟨_, rfl⟩
  rw [hR]
  obtain ⟨B0, hB0⟩ : ∃ B0, B0 = W0.heap.size := ⟨_, rfl⟩
  have HA := Lib.hid hA
  have HR := Lib.hid hR
  have HB0 := Lib.hid hB0
  have HFL := Lib.hid hfl
  clear hA hR hB0 hfl
  go_enter Try.func9, Try.ntmps9
  go_wp2
  rw [← HB0.out]
  go_loopw [6, 8] (fun at' i wr => RInv es R B0 W0 at' i wr) (fun _ i _ => es.length - (RowKit.intOf i).toNat)
  case atStart =>
    have h1 : Below B0 W0 (W0.alloc (.cells (repC zeroS) 30)) := (Below.refl _ _).alloc (by rw [HB0.out]; omega) _
    have h2 := h1.alloc (by rw [HB0.out]; simp) (.cells (repC zeroS) 30)
    have k0 := Blk.new W0 (repC zeroS) 30
    have k1 := Blk.new (W0.alloc (.cells (repC zeroS) 30)) (repC zeroS) 30
    have k2 := Blk.new ((W0.alloc (.cells (repC zeroS) 30)).alloc (.cells (repC zeroS) 30)) (attC 0 0 0) 41
    rw [← HB0.out] at k0
    rw [show (W0.alloc (.cells (repC zeroS) 30)).heap.size = B0 + 1 by rw [HB0.out]; simp] at k1
    rw [show ((W0.alloc (.cells (repC zeroS) 30)).alloc (.cells (repC zeroS) 30)).heap.size = B0 + 1 + 1 by rw [HB0.out]; simp] at k2
    exact ⟨0, 0, zeroS, 0, 0, 0, rfl, by omega, by omega, rfl, HR.out, by simp, rfl, fun _ => rfl, fun h => by omega, by omega, k1.alloc _, k2, (k0.alloc _).alloc _, h2.alloc (by rw [HB0.out]; simp; omega) _⟩
  case round =>
    obtain ⟨j, s, a, sf, sm, st, rfl, hj, hs, rfl, hC, hsj, hov, hrs, hsv, hsf, hrep, hatt, hz, hbw⟩ := hrel
    by_cases hlt : j < es.length
    · have hej : es[j]? = some es[j] := List.getElem?_eq_getElem hlt
      obtain ⟨e, he⟩ : ∃ e, es[j] = e := ⟨_, rfl⟩
      have hfe : 0 ≤ e.fl ∧ e.fl < 4294967296 := HFL.out e (by rw [← he]; exact List.getElem_mem hlt)
      rw [he] at hej
      obtain ⟨g, off, rfl, hg, hcells⟩ := HA.out (by intro h; rw [h] at hlt; simp at hlt)
      obtain ⟨hce, hbe⟩ := hcells j e hej
      have hgB : g < B0 := by rw [HB0.out]; exact hg
      have q : ∀ i v, e.cells[i]? = some v → wr.cell? ⟨g, off + j * 7 + i, none⟩ = some v := fun i v h => by rw [hbw.cell (p := ⟨g, off + j * 7 + i, none⟩) hgB]; exact hce i v h
      have q0 : wr.cell? ⟨g, off + j * 7, none⟩ = some (.int .i64 e.k) := q 0 _ rfl
      have q1 : wr.cell? ⟨g, off + j * 7 + 1, none⟩ = some (.int .u32 e.fl) := q 1 _ rfl
      have q2 : wr.cell? ⟨g, off + j * 7 + 2, none⟩ = some (.int .u8 e.mn) := q 2 _ rfl
      have q3 : wr.cell? ⟨g, off + j * 7 + 3, none⟩ = some (.int .u8 e.tm) := q 3 _ rfl
      have q4 : wr.cell? ⟨g, off + j * 7 + 4, none⟩ = some (.slice e.A e.l.length e.cap) := q 4 _ rfl
      have q5 : wr.cell? ⟨g, off + j * 7 + 5, none⟩ = some (.int .i64 e.n) := q 5 _ rfl
      have q6 : wr.cell? ⟨g, off + j * 7 + 6, none⟩ = some (.bool e.ok) := q 6 _ rfl
      have k0 : (j : Int) < (es.length : Int) := by omega
      have hCr : (if (roundS s a e).2.2 ≠ 0 then (zeroS, j, (roundS s a e).2.2) else checkS (j + 1) (roundS s a e).1 (roundS s a e).2.1 (es.drop (j + 1))) = R := by
        have h := hC.out
        rw [List.drop_eq_getElem_cons hlt, he] at h
        exact h
      have hRK : ∀ x : Int, errS s a e = x → x ≠ 0 → (zeroS, j, x) = R := fun x hx h0 => by
        rw [errS_round s a e x hx h0, if_pos h0] at hCr; exact hCr
      have hset : ∀ (x : World) (i : Nat) (v : Value), Below B0 W0 x → Below B0 W0 (x.setCell ⟨B0, i, none⟩ v) := fun x i v h => h.setCell (Nat.le_refl _) v
      have HSET := Lib.hid hset
      have HRK := Lib.hid hRK
      have HCR := Lib.hid hCr
      have HBY : Hid (BytesAt wr e.A e.l) := hbe.below (by rw [← HB0.out]; exact hbw)
      have HREP := Lib.hid hrep
      have HATT := Lib.hid hatt
      have HZ := Lib.hid hz
      have HBW := Lib.hid hbw
      have HOV := Lib.hid hov
      have HRS := Lib.hid hrs
      have HS6 := Lib.hid hs
      have HJL := Lib.hid hlt
      have hB2lt : B0 + 1 + 1 < wr.heap.size := hatt.lt
      have hB2ne : B0 + 1 + 1 ≠ wr.heap.size := by omega
      have HN9 : Hid (B0 + 1 + 1 < wr.heap.size) := hB2lt
      obtain ⟨n9, hn9⟩ : ∃ n9, wr.heap.size = n9 := ⟨_, rfl⟩
      have N9 := Lib.hid hn9
      have HBE := Lib.hid hbe
      clear q hce hbe hcells hrep hatt hz hbw hRK hCr hset hov hrs hlt hej he hn9
      by_cases hj0 : j = 0
      · subst hj0
        have hs0 : s = 0 := by omega
        subst hs0
        simp only [Nat.zero_mul, Nat.add_zero] at q0 q1 q2 q3 q4 q5 q6
        clear k0 hj
        have k0 : (0 : Int) < (es.length : Int) := by have := HJL.out; omega
        have s0 := HATT.out.cell (j := 0) (v := .int .u32 sf) rfl
        have sf0 := HATT.out.free 0
        have s1 := HATT.out.cell (j := 1) (v := .int .u8 sm) rfl
        have sf1 := HATT.out.free 1
        have s2 := HATT.out.cell (j := 2) (v := .int .u8 st) rfl
        have sf2 := HATT.out.free 2
        clear hC hs
        go_wp2_with fail
        have hWb : Below B0 W0 (((wr.setCell ⟨B0 + 1 + 1, 0, none⟩ (.int .u32 e.fl)).setCell ⟨B0 + 1 + 1, 1, none⟩ (.int .u8 e.mn)).setCell ⟨B0 + 1 + 1, 2, none⟩ (.int .u8 e.tm)) := ((HBW.out.setCell (by show B0 ≤ B0 + 1 + 1; omega) _).setCell (by show B0 ≤ B0 + 1 + 1; omega) _).setCell (by show B0 ≤ B0 + 1 + 1; omega) _
        have hWa : Below B0 W0 ((((wr.setCell ⟨B0 + 1 + 1, 0, none⟩ (.int .u32 e.fl)).setCell ⟨B0 + 1 + 1, 1, none⟩ (.int .u8 e.mn)).setCell ⟨B0 + 1 + 1, 2, none⟩ (.int .u8 e.tm)).alloc (.cells #[.int .i64 e.k, .int .u32 e.fl, .int .u8 e.mn, .int .u8 e.tm, .slice e.A e.l.length e.cap, .int .i64 e.n, .bool e.ok] 44)) := hWb.alloc (Nat.le_trans (Nat.le_of_eq HB0.out) hWb.size) _
        obtain ⟨v, hv, hstep⟩ := rstep_c 0 HS6.out a e e.fl e.mn e.tm (fun h => by omega) hfe ((((wr.setCell ⟨B0 + 1 + 1, 0, none⟩ (.int .u32 e.fl)).setCell ⟨B0 + 1 + 1, 1, none⟩ (.int .u8 e.mn)).setCell ⟨B0 + 1 + 1, 2, none⟩ (.int .u8 e.tm)).alloc (.cells #[.int .i64 e.k, .int .u32 e.fl, .int .u8 e.mn, .int .u8 e.tm, .slice e.A e.l.length e.cap, .int .i64 e.n, .bool e.ok] 44)) (HBE.out.below (by rw [← HB0.out]; exact hWa))
        unfold Eff.cells effC Eff.d at hstep
        refine hstep.mono ?_
        rintro x w2 ⟨rfl, hb2⟩
        obtain ⟨sx, mx, tx, e1, e2, e3⟩ : ∃ sx mx tx, sx = e.fl ∧ mx = e.mn ∧ tx = e.tm := ⟨_, _, _, rfl, rfl, rfl⟩
        have hsz : (((wr.setCell ⟨B0 + 1 + 1, 0, none⟩ (.int .u32 e.fl)).setCell ⟨B0 + 1 + 1, 1, none⟩ (.int .u8 e.mn)).setCell ⟨B0 + 1 + 1, 2, none⟩ (.int .u8 e.tm)).heap.size = wr.heap.size := by simp [World.setCell]
        have HR2 : Hid (Blk w2 (B0 + 1) (repC a) 30) := Blk.but ((((HREP.out.other (by simp) _).other (by simp) _).other (by simp) _).alloc _) (But.of_below (S := []) hb2) (by simp)
        have HZ2 : Hid (Blk w2 B0 (repC zeroS) 30) := Blk.but ((((HZ.out.other (by simp; omega) _).other (by simp; omega) _).other (by simp; omega) _).alloc _) (But.of_below (S := []) hb2) (by simp)
        have HV2 : Hid (Blk w2 (B0 + 1 + 1) (attC sx mx tx) 41) := by subst e1 e2 e3; exact Blk.but ((((HATT.out.set 0 _).set 1 _).set 2 _).alloc _) (But.of_below (S := []) hb2) (by simp)
        have HN2 : Hid (Blk w2 wr.heap.size #[.int .i64 e.k, .int .u32 e.fl, .int .u8 e.mn, .int .u8 e.tm, .slice e.A e.l.length e.cap, .int .i64 e.n, .bool e.ok] 44) := by rw [← hsz]; exact Blk.but (Blk.new (((wr.setCell ⟨B0 + 1 + 1, 0, none⟩ (.int .u32 e.fl)).setCell ⟨B0 + 1 + 1, 1, none⟩ (.int .u8 e.mn)).setCell ⟨B0 + 1 + 1, 2, none⟩ (.int .u8 e.tm)) _ _) (But.of_below (S := []) hb2) (by simp)
        have HW2 : Hid (Below B0 W0 w2) := hWa.trans (hb2.mono (Nat.le_trans (Nat.le_of_eq HB0.out) hWa.size))
        have HBY2 : Hid (BytesAt w2 e.A e.l) := HBE.out.below (by rw [← HB0.out]; exact HW2.out)
        have HSV2 : Hid (0 ≤ 5 → sx = (if 0 = 0 then e.fl else a.fl) ∧ mx = (if 0 = 0 then e.mn else a.mn) ∧ tx = (if 0 = 0 then e.tm else a.tm)) := fun _ => by rw [if_pos rfl, if_pos rfl, if_pos rfl]; exact ⟨e1, e2, e3⟩
        have HSF2 : Hid (0 ≤ sx ∧ sx < 4294967296) := by rw [e1]; exact hfe
        clear hb2 e1 e2 e3 hWb hWa hsz hsv hsj hsf
        obtain ⟨er, her⟩ : ∃ er, errS 0 a e = er := ⟨_, rfl⟩
        have HER := Lib.hid her
        rw [her] at hv ⊢
        clear her
        by_cases h0 : er = 0
        · subst h0
          obtain rfl := hv rfl
          have HK : Hid (kindErr e = 0) := by
            have h := HER.out
            unfold errS at h
            by_cases hk : kindErr e = 0
            · exact hk
            · rw [if_pos hk] at h; exact h
          have HST : Hid ((stepS 0 a e).2.2 = 0) := by
            have h := HER.out
            unfold errS at h
            rw [HK.out, if_neg (by simp)] at h
            exact h
          have HF := Lib.hid (stepS_facts 0 HS6.out a e HST.out HOV.out HRS.out)
          have HCR2 : Hid (checkS (0 + 1) (stepS 0 a e).1 (countS (stepS 0 a e).2.1 e) (es.drop (0 + 1)) = R) := by
            have h := HCR.out
            rw [show roundS 0 a e = ((stepS 0 a e).1, countS (stepS 0 a e).2.1 e, 0) by unfold roundS; rw [HK.out, if_neg (by simp), HST.out, if_neg (by simp)]] at h
            rw [if_neg (by simp)] at h
            exact h
          obtain ⟨a', ha'⟩ : ∃ a', (stepS 0 a e).2.1 = a' := ⟨_, rfl⟩
          obtain ⟨s', hs'⟩ : ∃ s', (stepS 0 a e).1 = s' := ⟨_, rfl⟩
          rw [ha', hs'] at HCR2 HF
          rw [hs']
          clear ha' hs'
          have r0 := HR2.out.cell (j := 0) (v := .int .i64 a.wr) rfl
          have rf0 := HR2.out.free 0
          have r1 := HR2.out.cell (j := 1) (v := .int .i64 a.rd) rfl
          have rf1 := HR2.out.free 1
          have r2 := HR2.out.cell (j := 2) (v := .int .i64 a.sg) rfl
          have rf2 := HR2.out.free 2
          have r3 := HR2.out.cell (j := 3) (v := .int .i64 a.inn) rfl
          have rf3 := HR2.out.free 3
          have r4 := HR2.out.cell (j := 4) (v := .int .i64 a.out) rfl
          have rf4 := HR2.out.free 4
          have r5 := HR2.out.cell (j := 5) (v := .int .i64 a.be) rfl
          have rf5 := HR2.out.free 5
          have r6 := HR2.out.cell (j := 6) (v := .bool a.rs) rfl
          have rf6 := HR2.out.free 6
          have e0 := HN2.out.cell (j := 0) (v := .int .i64 e.k) rfl
          have e1 := HN2.out.cell (j := 1) (v := .int .u32 e.fl) rfl
          have e2 := HN2.out.cell (j := 2) (v := .int .u8 e.mn) rfl
          have e3 := HN2.out.cell (j := 3) (v := .int .u8 e.tm) rfl
          have e4 := HN2.out.cell (j := 4) (v := .slice e.A e.l.length e.cap) rfl
          have e5 := HN2.out.cell (j := 5) (v := .int .i64 e.n) rfl
          have e6 := HN2.out.cell (j := 6) (v := .bool e.ok) rfl
          have hA2 := HBY2.out
          have FIN : Hid (∀ (w3 : World) (cs : Array Value) (iv av : Value), iv = .int .i64 ((0 + 1 : Nat) : Int) → av = .int .i64 (s' : Int) → cs = repC (countS a' e) → Blk w3 (B0 + 1) cs 30 → But [B0 + 1] w2 w3 → RInv es R B0 W0 av iv w3) := by
            intro w3 cs iv av hiv hav hcs hk3 hb3
            have hf := HF.out
            have hcnt : (countS a' e).ov = a'.ov ∧ (countS a' e).rs = a'.rs ∧ (countS a' e).fl = a'.fl ∧ (countS a' e).mn = a'.mn ∧ (countS a' e).tm = a'.tm := by
              unfold countS
              split
              · exact ⟨rfl, rfl, rfl, rfl, rfl⟩
              · split
                · exact ⟨rfl, rfl, rfl, rfl, rfl⟩
                · split <;> exact ⟨rfl, rfl, rfl, rfl, rfl⟩
            refine ⟨0 + 1, s', countS a' e, sx, mx, tx, hiv, by have := HJL.out; omega, hf.s6, hav, HCR2.out, by have := hf.s1; omega, by rw [hcnt.1]; exact hf.ov, fun h => by rw [hcnt.2.1]; exact hf.rs h, fun h1 h5 => ?_, HSF2.out, by rw [← hcs]; exact hk3, HV2.out.but hb3 (by simp), HZ2.out.but hb3 (by simp), HW2.out.trans (hb3.below (by have := HZ2.out.lt; omega) (by simp))⟩
            have h := hf.sv h5
            rw [hcnt.2.2.1, hcnt.2.2.2.1, hcnt.2.2.2.2, h.1, h.2.1, h.2.2]
            exact HSV2.out hf.s5
          clear HCR2
          have hn91 : B0 + 1 ≠ wr.heap.size := by have := HN9.out; omega
          by_cases k2 : e.k = 2
          · have kb2 : (e.k == 2) = true := by simpa using k2
            have FK : Hid (countS a' e = { a' with wr := wrap64 (a'.wr + 1), out := wrap64 (a'.out + pos e.n), be := if decide (e.l = [7]) then wrap64 (a'.be + 1) else a'.be }) := by
              unfold countS; rw [if_pos kb2]; rfl
            have FR : Hid (a'.rs = a.rs) := HF.out.rsn (by omega)
            clear k2
            by_cases hn : e.n < 0
            · have hnb : decide (e.n < 0) = true := by simpa using hn
              have HP : Hid (wrap64 (a.out + pos e.n) = wrap64 a.out) := by unfold pos; rw [if_neg (by omega), Int.add_zero]; rfl
              clear hn
              have hA3 : BytesAt ((w2.setCell ⟨B0 + 1, 0, none⟩ (.int .i64 (wrap64 (a.wr + 1)))).setCell ⟨B0 + 1, 4, none⟩ (.int .i64 (wrap64 a.out))) e.A e.l := HBE.out.below (by rw [← HB0.out]; exact (HW2.out.setCell (by show B0 ≤ B0 + 1; omega) _).setCell (by show B0 ≤ B0 + 1; omega) _)
              cases q : (e.l == [7])
              · have qd : decide (e.l = [7]) = false := by simpa using q
                go_wp2
                go_roundw
                case rel =>
                  refine FIN.out _ _ _ _ (by go_num) rfl ?_ (Blk.set (Blk.set HR2.out 0 _) 4 _) (But.set (But.set (But.refl _ _) (Or.inl (by simp)) _) (Or.inl (by simp)) _)
                  have hf := HF.out
                  rw [FK.out]
                  unfold repC
                  simp only [hf.wr, hf.rd, hf.sg, hf.inn, hf.out, hf.be, FR.out, HP.out, qd, Bool.false_eq_true, if_false]
                  rfl
                case measure => simp [RowKit.intOf]; omega
              · have qd : decide (e.l = [7]) = true := by simpa using q
                go_wp2
                go_roundw
                case rel =>
                  refine FIN.out _ _ _ _ (by go_num) rfl ?_ (Blk.set (Blk.set (Blk.set HR2.out 0 _) 4 _) 5 _) (But.set (But.set (But.set (But.refl _ _) (Or.inl (by simp)) _) (Or.inl (by simp)) _) (Or.inl (by simp)) _)
                  have hf := HF.out
                  rw [FK.out]
                  unfold repC
                  simp only [hf.wr, hf.rd, hf.sg, hf.inn, hf.out, hf.be, FR.out, HP.out, qd, if_true]
                  rfl
                case measure => simp [RowKit.intOf]; omega
            · have hnb : decide (e.n < 0) = false := by simpa using hn
              have HP : Hid (wrap64 (a.out + pos e.n) = wrap64 (a.out + e.n)) := by
                unfold pos
                by_cases h : 0 < e.n
                · rw [if_pos h]; rfl
                · rw [if_neg h, show e.n = 0 by omega]; rfl
              clear hn
              have hA3 : BytesAt ((w2.setCell ⟨B0 + 1, 0, none⟩ (.int .i64 (wrap64 (a.wr + 1)))).setCell ⟨B0 + 1, 4, none⟩ (.int .i64 (wrap64 (a.out + e.n)))) e.A e.l := HBE.out.below (by rw [← HB0.out]; exact (HW2.out.setCell (by show B0 ≤ B0 + 1; omega) _).setCell (by show B0 ≤ B0 + 1; omega) _)
              cases q : (e.l == [7])
              · have qd : decide (e.l = [7]) = false := by simpa using q
                go_wp2
                go_roundw
                case rel =>
                  refine FIN.out _ _ _ _ (by go_num) rfl ?_ (Blk.set (Blk.set HR2.out 0 _) 4 _) (But.set (But.set (But.refl _ _) (Or.inl (by simp)) _) (Or.inl (by simp)) _)
                  have hf := HF.out
                  rw [FK.out]
                  unfold repC
                  simp only [hf.wr, hf.rd, hf.sg, hf.inn, hf.out, hf.be, FR.out, HP.out, qd, Bool.false_eq_true, if_false]
                  rfl
                case measure => simp [RowKit.intOf]; omega
              · have qd : decide (e.l = [7]) = true := by simpa using q
                go_wp2
                go_roundw
                case rel =>
                  refine FIN.out _ _ _ _ (by go_num) rfl ?_ (Blk.set (Blk.set (Blk.set HR2.out 0 _) 4 _) 5 _) (But.set (But.set (But.set (But.refl _ _) (Or.inl (by simp)) _) (Or.inl (by simp)) _) (Or.inl (by simp)) _)
                  have hf := HF.out
                  rw [FK.out]
                  unfold repC
                  simp only [hf.wr, hf.rd, hf.sg, hf.inn, hf.out, hf.be, FR.out, HP.out, qd, if_true]
                  rfl
                case measure => simp [RowKit.intOf]; omega
          · have kb2 : (e.k == 2) = false := by simpa using k2
            by_cases k3 : e.k = 3
            · have kb3 : (e.k == 3) = true := by simpa using k3
              have FK : Hid (countS a' e = { a' with rd := wrap64 (a'.rd + 1), inn := wrap64 (a'.inn + pos e.n) }) := by
                unfold countS; rw [if_neg (by simp [kb2]), if_pos kb3]; rfl
              have FR : Hid (a'.rs = a.rs) := HF.out.rsn (by omega)
              clear k2 k3
              by_cases hn : e.n < 0
              · have hnb : decide (e.n < 0) = true := by simpa using hn
                have HP : Hid (wrap64 (a.inn + pos e.n) = wrap64 a.inn) := by unfold pos; rw [if_neg (by omega), Int.add_zero]; rfl
                clear hn
                go_wp2
                go_roundw
                case rel =>
                  refine FIN.out _ _ _ _ (by go_num) rfl ?_ (Blk.set (Blk.set HR2.out 1 _) 3 _) (But.set (But.set (But.refl _ _) (Or.inl (by simp)) _) (Or.inl (by simp)) _)
                  have hf := HF.out
                  rw [FK.out]
                  unfold repC
                  simp only [hf.wr, hf.rd, hf.sg, hf.inn, hf.out, hf.be, FR.out, HP.out]
                  rfl
                case measure => simp [RowKit.intOf]; omega
              · have hnb : decide (e.n < 0) = false := by simpa using hn
                have HP : Hid (wrap64 (a.inn + pos e.n) = wrap64 (a.inn + e.n)) := by
                  unfold pos
                  by_cases h : 0 < e.n
                  · rw [if_pos h]; rfl
                  · rw [if_neg h, show e.n = 0 by omega]; rfl
                clear hn
                go_wp2
                go_roundw
                case rel =>
                  refine FIN.out _ _ _ _ (by go_num) rfl ?_ (Blk.set (Blk.set HR2.out 1 _) 3 _) (But.set (But.set (But.refl _ _) (Or.inl (by simp)) _) (Or.inl (by simp)) _)
                  have hf := HF.out
                  rw [FK.out]
                  unfold repC
                  simp only [hf.wr, hf.rd, hf.sg, hf.inn, hf.out, hf.be, FR.out, HP.out]
                  rfl
                case measure => simp [RowKit.intOf]; omega
            · have kb3 : (e.k == 3) = false := by simpa using k3
              by_cases k4 : e.k = 4
              · have kb4 : (e.k == 4) = true := by simpa using k4
                have FK : Hid (countS a' e = { a' with sg := wrap64 (a'.sg + 1) }) := by
                  unfold countS; rw [if_neg (by simp [kb2]), if_neg (by simp [kb3]), if_pos kb4]; rfl
                have FR : Hid (a'.rs = a.rs) := HF.out.rsn (by omega)
                clear k2 k3 k4
                cases hnb : decide (e.n < 0)
                · skip
                  go_wp2
                  go_roundw
                  case rel =>
                    refine FIN.out _ _ _ _ (by go_num) rfl ?_ (Blk.set HR2.out 2 _) (But.set (But.refl _ _) (Or.inl (by simp)) _)
                    have hf := HF.out
                    rw [FK.out]
                    unfold repC
                    simp only [hf.wr, hf.rd, hf.sg, hf.inn, hf.out, hf.be, FR.out]
                    rfl
                  case measure => simp [RowKit.intOf]; omega
                · skip
                  go_wp2
                  go_roundw
                  case rel =>
                    refine FIN.out _ _ _ _ (by go_num) rfl ?_ (Blk.set HR2.out 2 _) (But.set (But.refl _ _) (Or.inl (by simp)) _)
                    have hf := HF.out
                    rw [FK.out]
                    unfold repC
                    simp only [hf.wr, hf.rd, hf.sg, hf.inn, hf.out, hf.be, FR.out]
                    rfl
                  case measure => simp [RowKit.intOf]; omega
              · have kb4 : (e.k == 4) = false := by simpa using k4
                have FK : Hid (countS a' e = a') := by
                  unfold countS; rw [if_neg (by simp [kb2]), if_neg (by simp [kb3]), if_neg (by simp [kb4])]; rfl
                by_cases k1 : e.k = 1
                · have kb1 : (e.k == 1) = true := by simpa using k1
                  have FR0 := Lib.hid (HF.out.rs1 k1)
                  clear k1 k2 k3 k4
                  cases q6 : ((s' : Int) == 6)
                  · have FR : Hid (a'.rs = false) := by rw [FR0.out]; have : (s' == 6) = false := (by simp at q6 ⊢; omega); rw [this]; rfl
                    cases hnb : decide (e.n < 0)
                    · skip
                      go_wp2
                      go_roundw
                      case rel =>
                        refine FIN.out _ _ _ _ (by go_num) rfl ?_ (Blk.set HR2.out 6 _) (But.set (But.refl _ _) (Or.inl (by simp)) _)
                        have hf := HF.out
                        rw [FK.out]
                        unfold repC
                        simp only [hf.wr, hf.rd, hf.sg, hf.inn, hf.out, hf.be, FR.out]
                        rfl
                      case measure => simp [RowKit.intOf]; omega
                    · skip
                      go_wp2
                      go_roundw
                      case rel =>
                        refine FIN.out _ _ _ _ (by go_num) rfl ?_ (Blk.set HR2.out 6 _) (But.set (But.refl _ _) (Or.inl (by simp)) _)
                        have hf := HF.out
                        rw [FK.out]
                        unfold repC
                        simp only [hf.wr, hf.rd, hf.sg, hf.inn, hf.out, hf.be, FR.out]
                        rfl
                      case measure => simp [RowKit.intOf]; omega
                  · have FR : Hid (a'.rs = e.ok) := by rw [FR0.out]; have : (s' == 6) = true := (by simp at q6 ⊢; omega); rw [this]; rfl
                    cases hnb : decide (e.n < 0)
                    · skip
                      go_wp2
                      go_roundw
                      case rel =>
                        refine FIN.out _ _ _ _ (by go_num) rfl ?_ (Blk.set HR2.out 6 _) (But.set (But.refl _ _) (Or.inl (by simp)) _)
                        have hf := HF.out
                        rw [FK.out]
                        unfold repC
                        simp only [hf.wr, hf.rd, hf.sg, hf.inn, hf.out, hf.be, FR.out]
                        rfl
                      case measure => simp [RowKit.intOf]; omega
                    · skip
                      go_wp2
                      go_roundw
                      case rel =>
                        refine FIN.out _ _ _ _ (by go_num) rfl ?_ (Blk.set HR2.out 6 _) (But.set (But.refl _ _) (Or.inl (by simp)) _)
                        have hf := HF.out
                        rw [FK.out]
                        unfold repC
                        simp only [hf.wr, hf.rd, hf.sg, hf.inn, hf.out, hf.be, FR.out]
                        rfl
                      case measure => simp [RowKit.intOf]; omega
                · have kb1 : (e.k == 1) = false := by simpa using k1
                  have FR : Hid (a'.rs = a.rs) := HF.out.rsn k1
                  clear k1 k2 k3 k4
                  cases hnb : decide (e.n < 0)
                  · skip
                    go_wp2
                    go_roundw
                    case rel =>
                      refine FIN.out _ _ _ _ (by go_num) rfl ?_ HR2.out (But.refl _ _)
                      have hf := HF.out
                      rw [FK.out]
                      unfold repC
                      simp only [hf.wr, hf.rd, hf.sg, hf.inn, hf.out, hf.be, FR.out]
                    case measure => simp [RowKit.intOf]; omega
                  · skip
                    go_wp2
                    go_roundw
                    case rel =>
                      refine FIN.out _ _ _ _ (by go_num) rfl ?_ HR2.out (But.refl _ _)
                      have hf := HF.out
                      rw [FK.out]
                      unfold repC
                      simp only [hf.wr, hf.rd, hf.sg, hf.inn, hf.out, hf.be, FR.out]
                    case measure => simp [RowKit.intOf]; omega
        · have h0' : (er == 0) = false := by simpa using h0
          have z0 := HZ2.out.cell (j := 0) (v := .int .i64 0) rfl
          have zf0 := HZ2.out.free 0
          have z1 := HZ2.out.cell (j := 1) (v := .int .i64 0) rfl
          have zf1 := HZ2.out.free 1
          have z2 := HZ2.out.cell (j := 2) (v := .int .i64 0) rfl
          have zf2 := HZ2.out.free 2
          have z3 := HZ2.out.cell (j := 3) (v := .int .i64 0) rfl
          have zf3 := HZ2.out.free 3
          have z4 := HZ2.out.cell (j := 4) (v := .int .i64 0) rfl
          have zf4 := HZ2.out.free 4
          have z5 := HZ2.out.cell (j := 5) (v := .int .i64 0) rfl
          have zf5 := HZ2.out.free 5
          have z6 := HZ2.out.cell (j := 6) (v := .bool false) rfl
          have zf6 := HZ2.out.free 6
          go_wp2
          (try simp only [Exit.inBlock, Exit.then])
          refine bodyPost_ret (results_cell3 rfl _ _ B0 30 _ _ rfl (Blk.set (Blk.set (Blk.set (Blk.set (Blk.set (Blk.set (Blk.set HZ2.out 0 _) 1 _) 2 _) 3 _) 4 _) 5 _) 6 _) Try.underlying30 rfl (by kernel_rfl)) rfl ?_
          have h := HRK.out er HER.out h0
          rw [← h, ← HB0.out]
          exact ⟨rfl, HSET.out _ _ _ (HSET.out _ _ _ (HSET.out _ _ _ (HSET.out _ _ _ (HSET.out _ _ _ (HSET.out _ _ _ (HSET.out _ _ _ HW2.out))))))⟩
      · have hjb : ((j : Int) == 0) = false := by simpa using hj0
        have s0 := HATT.out.cell (j := 0) (v := .int .u32 sf) rfl
        have sf0 := HATT.out.free 0
        have s1 := HATT.out.cell (j := 1) (v := .int .u8 sm) rfl
        have sf1 := HATT.out.free 1
        have s2 := HATT.out.cell (j := 2) (v := .int .u8 st) rfl
        have sf2 := HATT.out.free 2
        clear hC hs
        go_wp2_with fail
        have hWb : Below B0 W0 wr := HBW.out
        have hWa : Below B0 W0 (wr.alloc (.cells #[.int .i64 e.k, .int .u32 e.fl, .int .u8 e.mn, .int .u8 e.tm, .slice e.A e.l.length e.cap, .int .i64 e.n, .bool e.ok] 44)) := hWb.alloc (Nat.le_trans (Nat.le_of_eq HB0.out) hWb.size) _
        obtain ⟨v, hv, hstep⟩ := rstep_c s HS6.out a e sf sm st hsv hsf (wr.alloc (.cells #[.int .i64 e.k, .int .u32 e.fl, .int .u8 e.mn, .int .u8 e.tm, .slice e.A e.l.length e.cap, .int .i64 e.n, .bool e.ok] 44)) (HBE.out.below (by rw [← HB0.out]; exact hWa))
        unfold Eff.cells effC Eff.d at hstep
        refine hstep.mono ?_
        rintro x w2 ⟨rfl, hb2⟩
        obtain ⟨sx, mx, tx, e1, e2, e3⟩ : ∃ sx mx tx, sx = sf ∧ mx = sm ∧ tx = st := ⟨_, _, _, rfl, rfl, rfl⟩
        have hsz : wr.heap.size = wr.heap.size := rfl
        have HR2 : Hid (Blk w2 (B0 + 1) (repC a) 30) := Blk.but ((HREP.out.alloc _)) (But.of_below (S := []) hb2) (by simp)
        have HZ2 : Hid (Blk w2 B0 (repC zeroS) 30) := Blk.but ((HZ.out.alloc _)) (But.of_below (S := []) hb2) (by simp)
        have HV2 : Hid (Blk w2 (B0 + 1 + 1) (attC sx mx tx) 41) := by subst e1 e2 e3; exact Blk.but (HATT.out.alloc _) (But.of_below (S := []) hb2) (by simp)
        have HN2 : Hid (Blk w2 wr.heap.size #[.int .i64 e.k, .int .u32 e.fl, .int .u8 e.mn, .int .u8 e.tm, .slice e.A e.l.length e.cap, .int .i64 e.n, .bool e.ok] 44) := by rw [← hsz]; exact Blk.but (Blk.new wr _ _) (But.of_below (S := []) hb2) (by simp)
        have HW2 : Hid (Below B0 W0 w2) := hWa.trans (hb2.mono (Nat.le_trans (Nat.le_of_eq HB0.out) hWa.size))
        have HBY2 : Hid (BytesAt w2 e.A e.l) := HBE.out.below (by rw [← HB0.out]; exact HW2.out)
        have HSV2 : Hid (s ≤ 5 → sx = (if s = 0 then e.fl else a.fl) ∧ mx = (if s = 0 then e.mn else a.mn) ∧ tx = (if s = 0 then e.tm else a.tm)) := fun h5 => by have h0 : s ≠ 0 := fun h => hj0 (hsj.1 h); rw [if_neg h0, if_neg h0, if_neg h0, e1, e2, e3]; exact hsv (by omega) h5
        have HSF2 : Hid (0 ≤ sx ∧ sx < 4294967296) := by rw [e1]; exact hsf
        clear hb2 e1 e2 e3 hWb hWa hsz hsv hsj hsf
        obtain ⟨er, her⟩ : ∃ er, errS s a e = er := ⟨_, rfl⟩
        have HER := Lib.hid her
        rw [her] at hv ⊢
        clear her
        by_cases h0 : er = 0
        · subst h0
          obtain rfl := hv rfl
          have HK : Hid (kindErr e = 0) := by
            have h := HER.out
            unfold errS at h
            by_cases hk : kindErr e = 0
            · exact hk
            · rw [if_pos hk] at h; exact h
          have HST : Hid ((stepS s a e).2.2 = 0) := by
            have h := HER.out
            unfold errS at h
            rw [HK.out, if_neg (by simp)] at h
            exact h
          have HF := Lib.hid (stepS_facts s HS6.out a e HST.out HOV.out HRS.out)
          have HCR2 : Hid (checkS (j + 1) (stepS s a e).1 (countS (stepS s a e).2.1 e) (es.drop (j + 1)) = R) := by
            have h := HCR.out
            rw [show roundS s a e = ((stepS s a e).1, countS (stepS s a e).2.1 e, 0) by unfold roundS; rw [HK.out, if_neg (by simp), HST.out, if_neg (by simp)]] at h
            rw [if_neg (by simp)] at h
            exact h
          obtain ⟨a', ha'⟩ : ∃ a', (stepS s a e).2.1 = a' := ⟨_, rfl⟩
          obtain ⟨s', hs'⟩ : ∃ s', (stepS s a e).1 = s' := ⟨_, rfl⟩
          rw [ha', hs'] at HCR2 HF
          rw [hs']
          clear ha' hs'
          have r0 := HR2.out.cell (j := 0) (v := .int .i64 a.wr) rfl
          have rf0 := HR2.out.free 0
          have r1 := HR2.out.cell (j := 1) (v := .int .i64 a.rd) rfl
          have rf1 := HR2.out.free 1
          have r2 := HR2.out.cell (j := 2) (v := .int .i64 a.sg) rfl
          have rf2 := HR2.out.free 2
          have r3 := HR2.out.cell (j := 3) (v := .int .i64 a.inn) rfl
          have rf3 := HR2.out.free 3
          have r4 := HR2.out.cell (j := 4) (v := .int .i64 a.out) rfl
          have rf4 := HR2.out.free 4
          have r5 := HR2.out.cell (j := 5) (v := .int .i64 a.be) rfl
          have rf5 := HR2.out.free 5
          have r6 := HR2.out.cell (j := 6) (v := .bool a.rs) rfl
          have rf6 := HR2.out.free 6
          have e0 := HN2.out.cell (j := 0) (v := .int .i64 e.k) rfl
          have e1 := HN2.out.cell (j := 1) (v := .int .u32 e.fl) rfl
          have e2 := HN2.out.cell (j := 2) (v := .int .u8 e.mn) rfl
          have e3 := HN2.out.cell (j := 3) (v := .int .u8 e.tm) rfl
          have e4 := HN2.out.cell (j := 4) (v := .slice e.A e.l.length e.cap) rfl
          have e5 := HN2.out.cell (j := 5) (v := .int .i64 e.n) rfl
          have e6 := HN2.out.cell (j := 6) (v := .bool e.ok) rfl
          have hA2 := HBY2.out
          have FIN : Hid (∀ (w3 : World) (cs : Array Value) (iv av : Value), iv = .int .i64 ((j + 1 : Nat) : Int) → av = .int .i64 (s' : Int) → cs = repC (countS a' e) → Blk w3 (B0 + 1) cs 30 → But [B0 + 1] w2 w3 → RInv es R B0 W0 av iv w3) := by
            intro w3 cs iv av hiv hav hcs hk3 hb3
            have hf := HF.out
            have hcnt : (countS a' e).ov = a'.ov ∧ (countS a' e).rs = a'.rs ∧ (countS a' e).fl = a'.fl ∧ (countS a' e).mn = a'.mn ∧ (countS a' e).tm = a'.tm := by
              unfold countS
              split
              · exact ⟨rfl, rfl, rfl, rfl, rfl⟩
              · split
                · exact ⟨rfl, rfl, rfl, rfl, rfl⟩
                · split <;> exact ⟨rfl, rfl, rfl, rfl, rfl⟩
            refine ⟨j + 1, s', countS a' e, sx, mx, tx, hiv, by have := HJL.out; omega, hf.s6, hav, HCR2.out, by have := hf.s1; omega, by rw [hcnt.1]; exact hf.ov, fun h => by rw [hcnt.2.1]; exact hf.rs h, fun h1 h5 => ?_, HSF2.out, by rw [← hcs]; exact hk3, HV2.out.but hb3 (by simp), HZ2.out.but hb3 (by simp), HW2.out.trans (hb3.below (by have := HZ2.out.lt; omega) (by simp))⟩
            have h := hf.sv h5
            rw [hcnt.2.2.1, hcnt.2.2.2.1, hcnt.2.2.2.2, h.1, h.2.1, h.2.2]
            exact HSV2.out hf.s5
          clear HCR2
          have hn91 : B0 + 1 ≠ wr.heap.size := by have := HN9.out; omega
          by_cases k2 : e.k = 2
          · have kb2 : (e.k == 2) = true := by simpa using k2
            have FK : Hid (countS a' e = { a' with wr := wrap64 (a'.wr + 1), out := wrap64 (a'.out + pos e.n), be := if decide (e.l = [7]) then wrap64 (a'.be + 1) else a'.be }) := by
              unfold countS; rw [if_pos kb2]; rfl
            have FR : Hid (a'.rs = a.rs) := HF.out.rsn (by omega)
            clear k2
            by_cases hn : e.n < 0
            · have hnb : decide (e.n < 0) = true := by simpa using hn
              have HP : Hid (wrap64 (a.out + pos e.n) = wrap64 a.out) := by unfold pos; rw [if_neg (by omega), Int.add_zero]; rfl
              clear hn
              have hA3 : BytesAt ((w2.setCell ⟨B0 + 1, 0, none⟩ (.int .i64 (wrap64 (a.wr + 1)))).setCell ⟨B0 + 1, 4, none⟩ (.int .i64 (wrap64 a.out))) e.A e.l := HBE.out.below (by rw [← HB0.out]; exact (HW2.out.setCell (by show B0 ≤ B0 + 1; omega) _).setCell (by show B0 ≤ B0 + 1; omega) _)
              cases q : (e.l == [7])
              · have qd : decide (e.l = [7]) = false := by simpa using q
                go_wp2
                go_roundw
                case rel =>
                  refine FIN.out _ _ _ _ (by go_num) rfl ?_ (Blk.set (Blk.set HR2.out 0 _) 4 _) (But.set (But.set (But.refl _ _) (Or.inl (by simp)) _) (Or.inl (by simp)) _)
                  have hf := HF.out
                  rw [FK.out]
                  unfold repC
                  simp only [hf.wr, hf.rd, hf.sg, hf.inn, hf.out, hf.be, FR.out, HP.out, qd, Bool.false_eq_true, if_false]
                  rfl
                case measure => simp [RowKit.intOf]; omega
              · have qd : decide (e.l = [7]) = true := by simpa using q
                go_wp2
                go_roundw
                case rel =>
                  refine FIN.out _ _ _ _ (by go_num) rfl ?_ (Blk.set (Blk.set (Blk.set HR2.out 0 _) 4 _) 5 _) (But.set (But.set (But.set (But.refl _ _) (Or.inl (by simp)) _) (Or.inl (by simp)) _) (Or.inl (by simp)) _)
                  have hf := HF.out
                  rw [FK.out]
                  unfold repC
                  simp only [hf.wr, hf.rd, hf.sg, hf.inn, hf.out, hf.be, FR.out, HP.out, qd, if_true]
                  rfl
                case measure => simp [RowKit.intOf]; omega
            · have hnb : decide (e.n < 0) = false := by simpa using hn
              have HP : Hid (wrap64 (a.out + pos e.n) = wrap64 (a.out + e.n)) := by
                unfold pos
                by_cases h : 0 < e.n
                · rw [if_pos h]; rfl
                · rw [if_neg h, show e.n = 0 by omega]; rfl
              clear hn
              have hA3 : BytesAt ((w2.setCell ⟨B0 + 1, 0, none⟩ (.int .i64 (wrap64 (a.wr + 1)))).setCell ⟨B0 + 1, 4, none⟩ (.int .i64 (wrap64 (a.out + e.n)))) e.A e.l := HBE.out.below (by rw [← HB0.out]; exact (HW2.out.setCell (by show B0 ≤ B0 + 1; omega) _).setCell (by show B0 ≤ B0 + 1; omega) _)
              cases q : (e.l == [7])
              · have qd : decide (e.l = [7]) = false := by simpa using q
                go_wp2
                go_roundw
                case rel =>
                  refine FIN.out _ _ _ _ (by go_num) rfl ?_ (Blk.set (Blk.set HR2.out 0 _) 4 _) (But.set (But.set (But.refl _ _) (Or.inl (by simp)) _) (Or.inl (by simp)) _)
                  have hf := HF.out
                  rw [FK.out]
                  unfold repC
                  simp only [hf.wr, hf.rd, hf.sg, hf.inn, hf.out, hf.be, FR.out, HP.out, qd, Bool.false_eq_true, if_false]
                  rfl
                case measure => simp [RowKit.intOf]; omega
              · have qd : decide (e.l = [7]) = true := by simpa using q
                go_wp2
                go_roundw
                case rel =>
                  refine FIN.out _ _ _ _ (by go_num) rfl ?_ (Blk.set (Blk.set (Blk.set HR2.out 0 _) 4 _) 5 _) (But.set (But.set (But.set (But.refl _ _) (Or.inl (by simp)) _) (Or.inl (by simp)) _) (Or.inl (by simp)) _)
                  have hf := HF.out
                  rw [FK.out]
                  unfold repC
                  simp only [hf.wr, hf.rd, hf.sg, hf.inn, hf.out, hf.be, FR.out, HP.out, qd, if_true]
                  rfl
                case measure => simp [RowKit.intOf]; omega
          · have kb2 : (e.k == 2) = false := by simpa using k2
            by_cases k3 : e.k = 3
            · have kb3 : (e.k == 3) = true := by simpa using k3
              have FK : Hid (countS a' e = { a' with rd := wrap64 (a'.rd + 1), inn := wrap64 (a'.inn + pos e.n) }) := by
                unfold countS; rw [if_neg (by simp [kb2]), if_pos kb3]; rfl
              have FR : Hid (a'.rs = a.rs) := HF.out.rsn (by omega)
              clear k2 k3
              by_cases hn : e.n < 0
              · have hnb : decide (e.n < 0) = true := by simpa using hn
                have HP : Hid (wrap64 (a.inn + pos e.n) = wrap64 a.inn) := by unfold pos; rw [if_neg (by omega), Int.add_zero]; rfl
                clear hn
                go_wp2
                go_roundw
                case rel =>
                  refine FIN.out _ _ _ _ (by go_num) rfl ?_ (Blk.set (Blk.set HR2.out 1 _) 3 _) (But.set (But.set (But.refl _ _) (Or.inl (by simp)) _) (Or.inl (by simp)) _)
                  have hf := HF.out
                  rw [FK.out]
                  unfold repC
                  simp only [hf.wr, hf.rd, hf.sg, hf.inn, hf.out, hf.be, FR.out, HP.out]
                  rfl
                case measure => simp [RowKit.intOf]; omega
              · have hnb : decide (e.n < 0) = false := by simpa using hn
                have HP : Hid (wrap64 (a.inn + pos e.n) = wrap64 (a.inn + e.n)) := by
                  unfold pos
                  by_cases h : 0 < e.n
                  · rw [if_pos h]; rfl
                  · rw [if_neg h, show e.n = 0 by omega]; rfl
                clear hn
                go_wp2
                go_roundw
                case rel =>
                  refine FIN.out _ _ _ _ (by go_num) rfl ?_ (Blk.set (Blk.set HR2.out 1 _) 3 _) (But.set (But.set (But.refl _ _) (Or.inl (by simp)) _) (Or.inl (by simp)) _)
                  have hf := HF.out
                  rw [FK.out]
                  unfold repC
                  simp only [hf.wr, hf.rd, hf.sg, hf.inn, hf.out, hf.be, FR.out, HP.out]
                  rfl
                case measure => simp [RowKit.intOf]; omega
            · have kb3 : (e.k == 3) = false := by simpa using k3
              by_cases k4 : e.k = 4
              · have kb4 : (e.k == 4) = true := by simpa using k4
                have FK : Hid (countS a' e = { a' with sg := wrap64 (a'.sg + 1) }) := by
                  unfold countS; rw [if_neg (by simp [kb2]), if_neg (by simp [kb3]), if_pos kb4]; rfl
                have FR : Hid (a'.rs = a.rs) := HF.out.rsn (by omega)
                clear k2 k3 k4
                cases hnb : decide (e.n < 0)
                · skip
                  go_wp2
                  go_roundw
                  case rel =>
                    refine FIN.out _ _ _ _ (by go_num) rfl ?_ (Blk.set HR2.out 2 _) (But.set (But.refl _ _) (Or.inl (by simp)) _)
                    have hf := HF.out
                    rw [FK.out]
                    unfold repC
                    simp only [hf.wr, hf.rd, hf.sg, hf.inn, hf.out, hf.be, FR.out]
                    rfl
                  case measure => simp [RowKit.intOf]; omega
                · skip
                  go_wp2
                  go_roundw
                  case rel =>
                    refine FIN.out _ _ _ _ (by go_num) rfl ?_ (Blk.set HR2.out 2 _) (But.set (But.refl _ _) (Or.inl (by simp)) _)
                    have hf := HF.out
                    rw [FK.out]
                    unfold repC
                    simp only [hf.wr, hf.rd, hf.sg, hf.inn, hf.out, hf.be, FR.out]
                    rfl
                  case measure => simp [RowKit.intOf]; omega
              · have kb4 : (e.k == 4) = false := by simpa using k4
                have FK : Hid (countS a' e = a') := by
                  unfold countS; rw [if_neg (by simp [kb2]), if_neg (by simp [kb3]), if_neg (by simp [kb4])]; rfl
                by_cases k1 : e.k = 1
                · have kb1 : (e.k == 1) = true := by simpa using k1
                  have FR0 := Lib.hid (HF.out.rs1 k1)
                  clear k1 k2 k3 k4
                  cases q6 : ((s' : Int) == 6)
                  · have FR : Hid (a'.rs = false) := by rw [FR0.out]; have : (s' == 6) = false := (by simp at q6 ⊢; omega); rw [this]; rfl
                    cases hnb : decide (e.n < 0)
                    · skip
                      go_wp2
                      go_roundw
                      case rel =>
                        refine FIN.out _ _ _ _ (by go_num) rfl ?_ (Blk.set HR2.out 6 _) (But.set (But.refl _ _) (Or.inl (by simp)) _)
                        have hf := HF.out
                        rw [FK.out]
                        unfold repC
                        simp only [hf.wr, hf.rd, hf.sg, hf.inn, hf.out, hf.be, FR.out]
                        rfl
                      case measure => simp [RowKit.intOf]; omega
                    · skip
                      go_wp2
                      go_roundw
                      case rel =>
                        refine FIN.out _ _ _ _ (by go_num) rfl ?_ (Blk.set HR2.out 6 _) (But.set (But.refl _ _) (Or.inl (by simp)) _)
                        have hf := HF.out
                        rw [FK.out]
                        unfold repC
                        simp only [hf.wr, hf.rd, hf.sg, hf.inn, hf.out, hf.be, FR.out]
                        rfl
                      case measure => simp [RowKit.intOf]; omega
                  · have FR : Hid (a'.rs = e.ok) := by rw [FR0.out]; have : (s' == 6) = true := (by simp at q6 ⊢; omega); rw [this]; rfl
                    cases hnb : decide (e.n < 0)
                    · skip
                      go_wp2
                      go_roundw
                      case rel =>
                        refine FIN.out _ _ _ _ (by go_num) rfl ?_ (Blk.set HR2.out 6 _) (But.set (But.refl _ _) (Or.inl (by simp)) _)
                        have hf := HF.out
                        rw [FK.out]
                        unfold repC
                        simp only [hf.wr, hf.rd, hf.sg, hf.inn, hf.out, hf.be, FR.out]
                        rfl
                      case measure => simp [RowKit.intOf]; omega
                    · skip
                      go_wp2
                      go_roundw
                      case rel =>
                        refine FIN.out _ _ _ _ (by go_num) rfl ?_ (Blk.set HR2.out 6 _) (But.set (But.refl _ _) (Or.inl (by simp)) _)
                        have hf := HF.out
                        rw [FK.out]
                        unfold repC
                        simp only [hf.wr, hf.rd, hf.sg, hf.inn, hf.out, hf.be, FR.out]
                        rfl
                      case measure => simp [RowKit.intOf]; omega
                · have kb1 : (e.k == 1) = false := by simpa using k1
                  have FR : Hid (a'.rs = a.rs) := HF.out.rsn k1
                  clear k1 k2 k3 k4
                  cases hnb : decide (e.n < 0)
                  · skip
                    go_wp2
                    go_roundw
                    case rel =>
                      refine FIN.out _ _ _ _ (by go_num) rfl ?_ HR2.out (But.refl _ _)
                      have hf := HF.out
                      rw [FK.out]
                      unfold repC
                      simp only [hf.wr, hf.rd, hf.sg, hf.inn, hf.out, hf.be, FR.out]
                    case measure => simp [RowKit.intOf]; omega
                  · skip
                    go_wp2
                    go_roundw
                    case rel =>
                      refine FIN.out _ _ _ _ (by go_num) rfl ?_ HR2.out (But.refl _ _)
                      have hf := HF.out
                      rw [FK.out]
                      unfold repC
                      simp only [hf.wr, hf.rd, hf.sg, hf.inn, hf.out, hf.be, FR.out]
                    case measure => simp [RowKit.intOf]; omega
        · have h0' : (er == 0) = false := by simpa using h0
          have z0 := HZ2.out.cell (j := 0) (v := .int .i64 0) rfl
          have zf0 := HZ2.out.free 0
          have z1 := HZ2.out.cell (j := 1) (v := .int .i64 0) rfl
          have zf1 := HZ2.out.free 1
          have z2 := HZ2.out.cell (j := 2) (v := .int .i64 0) rfl
          have zf2 := HZ2.out.free 2
          have z3 := HZ2.out.cell (j := 3) (v := .int .i64 0) rfl
          have zf3 := HZ2.out.free 3
          have z4 := HZ2.out.cell (j := 4) (v := .int .i64 0) rfl
          have zf4 := HZ2.out.free 4
          have z5 := HZ2.out.cell (j := 5) (v := .int .i64 0) rfl
          have zf5 := HZ2.out.free 5
          have z6 := HZ2.out.cell (j := 6) (v := .bool false) rfl
          have zf6 := HZ2.out.free 6
          go_wp2
          (try simp only [Exit.inBlock, Exit.then])
          refine bodyPost_ret (results_cell3 rfl _ _ B0 30 _ _ rfl (Blk.set (Blk.set (Blk.set (Blk.set (Blk.set (Blk.set (Blk.set HZ2.out 0 _) 1 _) 2 _) 3 _) 4 _) 5 _) 6 _) Try.underlying30 rfl (by kernel_rfl)) rfl ?_
          have h := HRK.out er HER.out h0
          rw [← h, ← HB0.out]
          exact ⟨rfl, HSET.out _ _ _ (HSET.out _ _ _ (HSET.out _ _ _ (HSET.out _ _ _ (HSET.out _ _ _ (HSET.out _ _ _ (HSET.out _ _ _ HW2.out))))))⟩
    · have hge : decide ((j : Int) < (es.length : Int)) = false := by simp; omega
      have HJ := Lib.hid (show j = es.length by omega)
      have hRv : (if a.ov then (a, es.length, (0 : Int)) else (zeroS, es.length, 7)) = R := by
        have h := hC.out
        rw [List.drop_eq_nil_of_le (by omega), HJ.out] at h
        exact h
      have HRV := Lib.hid hRv
      have HREP := Lib.hid hrep
      have HZ := Lib.hid hz
      have HBW := Lib.hid hbw
      have HOV := Lib.hid hov
      have hset : ∀ (x : World) (i : Nat) (v : Value), Below B0 W0 x → Below B0 W0 (x.setCell ⟨B0, i, none⟩ v) := fun x i v h => h.setCell (Nat.le_refl _) v
      have HSET := Lib.hid hset
      have hnb : B0 ≠ B0 + 1 := by omega
      have r0 := hrep.cell (j := 0) (v := .int .i64 a.wr) rfl
      have rf0 := hrep.free 0
      have r1 := hrep.cell (j := 1) (v := .int .i64 a.rd) rfl
      have rf1 := hrep.free 1
      have r2 := hrep.cell (j := 2) (v := .int .i64 a.sg) rfl
      have rf2 := hrep.free 2
      have r3 := hrep.cell (j := 3) (v := .int .i64 a.inn) rfl
      have rf3 := hrep.free 3
      have r4 := hrep.cell (j := 4) (v := .int .i64 a.out) rfl
      have rf4 := hrep.free 4
      have r5 := hrep.cell (j := 5) (v := .int .i64 a.be) rfl
      have rf5 := hrep.free 5
      have r6 := hrep.cell (j := 6) (v := .bool a.rs) rfl
      have rf6 := hrep.free 6
      have z0 := hz.cell (j := 0) (v := .int .i64 0) rfl
      have zf0 := hz.free 0
      have z1 := hz.cell (j := 1) (v := .int .i64 0) rfl
      have zf1 := hz.free 1
      have z2 := hz.cell (j := 2) (v := .int .i64 0) rfl
      have zf2 := hz.free 2
      have z3 := hz.cell (j := 3) (v := .int .i64 0) rfl
      have zf3 := hz.free 3
      have z4 := hz.cell (j := 4) (v := .int .i64 0) rfl
      have zf4 := hz.free 4
      have z5 := hz.cell (j := 5) (v := .int .i64 0) rfl
      have zf5 := hz.free 5
      have z6 := hz.cell (j := 6) (v := .bool false) rfl
      have zf6 := hz.free 6
      clear hrep hatt hz hbw hRv hset hov hrs hsv hsj hsf
      cases q6 : ((s : Int) == 6)
      · have ho : a.ov = false := by rw [HOV.out]; simp at q6 ⊢; omega
        go_wp2
        (try simp only [Exit.inBlock, Exit.then])
        refine bodyPost_ret (results_cell3 rfl _ _ B0 30 _ _ rfl (Blk.set (Blk.set (Blk.set (Blk.set (Blk.set (Blk.set (Blk.set HZ.out 0 _) 1 _) 2 _) 3 _) 4 _) 5 _) 6 _) Try.underlying30 rfl (by kernel_rfl)) rfl ?_
        have h := HRV.out
        rw [ho, if_neg (by simp)] at h
        rw [← h, ← HB0.out]
        exact ⟨rfl, HSET.out _ _ _ (HSET.out _ _ _ (HSET.out _ _ _ (HSET.out _ _ _ (HSET.out _ _ _ (HSET.out _ _ _ (HSET.out _ _ _ HBW.out))))))⟩
      · have ho : a.ov = true := by rw [HOV.out]; simp at q6 ⊢; omega
        go_wp2
        (try simp only [Exit.inBlock, Exit.then])
        refine bodyPost_ret (results_cell3 rfl _ _ B0 30 _ _ rfl (Blk.set (Blk.set (Blk.set (Blk.set (Blk.set (Blk.set (Blk.set HZ.out 0 _) 1 _) 2 _) 3 _) 4 _) 5 _) 6 _) Try.underlying30 rfl (by kernel_rfl)) rfl ?_
        have h := HRV.out
        rw [ho, if_pos rfl] at h
        rw [← h, ← HB0.out]
        exact ⟨rfl, HSET.out _ _ _ (HSET.out _ _ _ (HSET.out _ _ _ (HSET.out _ _ _ (HSET.out _ _ _ (HSET.out _ _ _ (HSET.out _ _ _ HBW.out))))))⟩

end Go.Proofs.Ytbkdmceefefiaaa.Aud

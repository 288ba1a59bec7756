/- The document's stage: where it lies, what its calls answer. -/
import Derived.Test.YtbkpnffgihjikaaDoorGH
import Derived.BigQuiet
import Derived.Test.YtbkpnffgihjikaaDoorGP
set_option linter.unusedVariables false
set_option linter.unusedSimpArgs false
namespace Go.Proofs.YtbkpnffgihjikaaDoor.Edit
open Go.RowKit Go.Lib Go.Shelf ChangeShapes Mem Utf UtfP Def

/-- the document's stage at block q -/
structure RSt (w : World) (S : List Nat) (q N : Nat) (L : List Int) (bg ov : Bool) : Prop where
  ex : ∃ p c, Blk w q #[.slice p L.length c, .int .i64 (N : Int), .bool bg, .bool ov] 85 ∧ Row w S p c L
  lt : ∀ s ∈ S, s < w.heap.size
  qS : q ∈ S

section
variable {S T : List Nat} {q N : Nat} {L : List Int} {bg ov : Bool}

theorem RSt.but {w w' : World} (h : RSt w S q N L bg ov) (hb : But T w w') (hs : ∀ k ∈ T, k ∈ S) (hq : q ∉ T) : RSt w' S q N L bg ov := by
  obtain ⟨p, c, h1, h2⟩ := h.ex
  exact ⟨⟨p, c, h1.but hb hq, h2.but hb hs⟩, fun s hs => Nat.lt_of_lt_of_le (h.lt s hs) hb.size, h.qS⟩
theorem RSt.below {w w' : World} (h : RSt w S q N L bg ov) (hb : Below w.heap.size w w') : RSt w' S q N L bg ov := h.but (But.of_below (S := []) hb) (by simp) (by simp)
theorem butQ (w : World) (q j : Nat) (v : Value) : But [q] w (w.setCell ⟨q, j, none⟩ v) := (But.refl _ _).set (Or.inl (by simp)) _
theorem RSt.setL {w : World} {L' : List Int} (h : RSt w S q N L bg ov) {p : Option Addr} {c : Nat} (hr : Row w S p c L') : RSt (w.setCell ⟨q, 0, none⟩ (.slice p L'.length c)) S q N L' bg ov := by
  obtain ⟨pa, ca, h1, h2⟩ := h.ex
  have hb := butQ w q 0 (.slice p L'.length c)
  exact ⟨⟨p, c, h1.set 0 _, hr.but hb (by simp; exact h.qS)⟩, fun s hs => Nat.lt_of_lt_of_le (h.lt s hs) hb.size, h.qS⟩
theorem RSt.setB {w : World} (h : RSt w S q N L bg ov) (y : Bool) : RSt (w.setCell ⟨q, 2, none⟩ (.bool y)) S q N L y ov := by
  obtain ⟨pa, ca, h1, h2⟩ := h.ex
  have hb := butQ w q 2 (.bool y)
  exact ⟨⟨pa, ca, h1.set 2 _, h2.but hb (by simp; exact h.qS)⟩, fun s hs => Nat.lt_of_lt_of_le (h.lt s hs) hb.size, h.qS⟩
theorem RSt.setO {w : World} (h : RSt w S q N L bg ov) (y : Bool) : RSt (w.setCell ⟨q, 3, none⟩ (.bool y)) S q N L bg y := by
  obtain ⟨pa, ca, h1, h2⟩ := h.ex
  have hb := butQ w q 3 (.bool y)
  exact ⟨⟨pa, ca, h1.set 3 _, h2.but hb (by simp; exact h.qS)⟩, fun s hs => Nat.lt_of_lt_of_le (h.lt s hs) hb.size, h.qS⟩

theorem refStart (w : World) (h : RSt w S q N L bg ov) :
    Calls Tryd.prog 56 #[.pointer (some ⟨q, 0, none⟩)] w fun e w' => e = .returned (.int .i64 (if bg then 11 else 0)) ∧ RSt w' S q N L true ov ∧ But [q] w w' := by
  obtain ⟨pa, ca, h1, h2⟩ := h.ex
  have c2 := h1.cell (j := 2) (v := .bool bg) rfl
  have f2 := h1.free 2
  have H := Lib.hid h
  clear h h1 h2
  cases bg
  · go_enter Tryd.func56, Tryd.ntmps56
    go_wp2
    go_ret
    exact ⟨rfl, H.out.setB true, butQ _ _ _ _⟩
  · go_enter Tryd.func56, Tryd.ntmps56
    go_wp2
    go_ret
    exact ⟨rfl, H.out, But.refl _ _⟩

set_option maxRecDepth 100000 in
set_option maxHeartbeats 1000000 in
theorem refAddS (x : Int) (w : World) (h : RSt w S q N L bg ov) (hp : AllPrint L) (hL : L.length ≤ 17592186044) :
    Calls Tryd.prog 57 #[.pointer (some ⟨q, 0, none⟩), .int .i64 x] w fun e w' => e = .returned (.int .i64 (addE N x L bg ov).1) ∧ RSt w' S q N (addE N x L bg ov).2.1 bg (addE N x L bg ov).2.2 ∧ But [q] w w' := by
  obtain ⟨pa, ca, h1, h2⟩ := h.ex
  have c0 := h1.cell (j := 0) (v := .slice pa L.length ca) rfl
  have c1 := h1.cell (j := 1) (v := .int .i64 (N : Int)) rfl
  have c2 := h1.cell (j := 2) (v := .bool bg) rfl
  have c3 := h1.cell (j := 3) (v := .bool ov) rfl
  have f3 := h1.free 3
  have hlt := h1.lt
  have H := Lib.hid h
  have HROW := Lib.hid h2
  have H1 := Lib.hid (refPrintable x w)
  clear h h1 h2
  cases bg
  · have HR : Hid (addE N x L false ov = (11, L, ov)) := rfl
    go_enter Tryd.func57, Tryd.ntmps57
    rw [HR.out]
    go_wp2
    go_ret
    exact ⟨rfl, H.out, But.refl _ _⟩
  · cases hx : printC x
    · rw [hx] at H1
      have HR : Hid (addE N x L true ov = (2, L, ov)) := by unfold Hid addE; rw [hx]; rfl
      clear hx
      go_enter Tryd.func57, Tryd.ntmps57
      rw [HR.out]
      go_wp2_with (go_at_call 68; refine (H1.out).mono ?_; rintro e w1 ⟨rfl, hq⟩; obtain rfl := hq)
      go_ret
      exact ⟨rfl, H.out, But.refl _ _⟩
    · rw [hx] at H1
      obtain ⟨n1, hn1⟩ : ∃ n, (encs L).length = n := ⟨_, rfl⟩
      obtain ⟨n2, hn2⟩ : ∃ n, (enc x).length = n := ⟨_, rfl⟩
      have hb1 : n1 ≤ 8796093022208 := by
        have := flatMap_le L
        rw [← hn1]
        unfold encs
        omega
      have hb2 : n2 ≤ 4 := by
        have := flatMap_le [x]
        rw [← hn2]
        simpa using this
      have HS : Hid (∀ W, Below w.heap.size w W → Below w.heap.size w W ∧ W.cell? ⟨q, 3, none⟩ = some (.bool ov) ∧ W.cell? ⟨q, 0, none⟩ = some (.slice pa L.length ca) ∧ W.cell? ⟨q, 1, none⟩ = some (.int .i64 (N : Int))) := fun W hW => ⟨hW, by rw [hW.cell (p := ⟨q, 3, none⟩) hlt]; exact c3, by rw [hW.cell (p := ⟨q, 0, none⟩) hlt]; exact c0, by rw [hW.cell (p := ⟨q, 1, none⟩) hlt]; exact c1⟩
      have HL1 : Hid (∀ W, Below w.heap.size w W → Calls Tryd.prog 54 #[.slice pa L.length ca] W fun e w' => ∃ Av cap, e = .returned (.slice Av n1 cap) ∧ Below w.heap.size w w') := fun W hW => (refBytes L pa ca W (CellsAt.below HROW.out.at' hW) (by omega) (fun c hc => AllPrint.fine hp c hc)).mono fun e w' ⟨v, he, ho, hb⟩ => by
        obtain ⟨Av, n, cap, rfl, hn, _, _⟩ := ho.form'
        refine ⟨Av, cap, ?_, hW.trans (hb.mono hW.size)⟩
        rw [he, ← hn1, ← hn]
        rfl
      have HP1 : Hid (∀ W, Below w.heap.size w W → Calls Tryd.prog 28 #[.int .i64 x] W fun e w' => ∃ Av cap, e = .returned (.slice Av n2 cap) ∧ Below w.heap.size w w') := fun W hW => (refPut_s x W hx).mono fun e w' ⟨Av, cap, he, _, hb⟩ => ⟨Av, cap, by rw [he, hn2], hW.trans (hb.mono hW.size)⟩
      have hd0 : Below w.heap.size w w.drew := (Below.refl _ _).drew
      have hsum : IntKind.i64.wrap ((n1 : Int) + (n2 : Int)) = (n1 : Int) + (n2 : Int) := IntWalk.i64_in _ (by omega)
      have HLL := Lib.hid hL
      cases ov
      · by_cases hfit : n1 + n2 ≤ N
        · have t1 : decide ((N : Int) < (n1 : Int) + (n2 : Int)) = false := by simp; omega
          have t2 : decide (N < n1 + n2) = false := by simp; omega
          have HR : Hid (addE N x L true false = (0, L ++ [x], false)) := by unfold Hid addE; rw [hx, hn1, hn2, if_pos rfl, if_pos rfl, if_neg (by simp), if_pos hfit]
          clear hn1 hn2 hfit hx hp hL c0 c1 c3 f3 hb1 hb2
          go_enter Tryd.func57, Tryd.ntmps57
          go_wp2_with (go_at_call 68; refine (H1.out).mono ?_; rintro e w1 ⟨rfl, hq⟩; obtain rfl := hq)
          go_region_held_law (fun W => Below w.heap.size w W ∧ W.cell? ⟨q, 3, none⟩ = some (.bool false) ∧ W.cell? ⟨q, 0, none⟩ = some (.slice pa L.length ca) ∧ W.cell? ⟨q, 1, none⟩ = some (.int .i64 (N : Int)))
            (first | with_reducible exact HS.out _ hbb | with_reducible exact HS.out _ hba | with_reducible exact HS.out _ hd0) (first
            | (go_at_call 54; (with_reducible refine (HL1.out _ ?_).mono ?_); (go_split_ands; assumption); rintro e wa ⟨va, capa, rfl, hba⟩)
            | (go_at_call 28; (with_reducible refine (HP1.out _ ?_).mono ?_); (go_split_ands; assumption); rintro e wb ⟨vb, capb, rfl, hbb⟩))
          have HB3 := Lib.hid (H.out.below hbb)
          have HW3 := Lib.hid hbb
          clear hba hbb hd0 hsum
          obtain ⟨pa, ca, h1, h2⟩ := HB3.out.ex
          have HH1 := Lib.hid h1
          have e0 := h1.cell (j := 0) (v := .slice pa L.length ca) rfl
          have hal : Below wb.heap.size wb (wb.alloc (.cells #[] 3)) := (Below.refl _ _).alloc (Nat.le_refl _) _
          have HAL := Lib.hid hal
          have hbase : wb.heap.size ≤ (wb.alloc (.cells #[] 3)).heap.size := hal.size
          have e0' : (wb.alloc (.cells #[] 3)).cell? ⟨q, 0, none⟩ = some (.slice pa L.length ca) := by rw [hal.cell (p := ⟨q, 0, none⟩) h1.lt]; exact e0
          have HSRC := Lib.hid (CellsAt.below h2.at' hal)
          clear h1 h2 hal
          go_wp2_with (at_builtin; (refine wpList_append_ints (B := wb.heap.size) (l := []) (src := L) rfl (.tmp 38) (.tmp 42) rfl rfl (OwnI.new wb wb.heap.size #[] [] rfl (Nat.le_refl _) (by decide)) rfl rfl HSRC.out (by have := HLL.out; simp; omega) hbase ?_))
          intro v4 w4 hown4 hg4
          have hb4 : Below wb.heap.size wb w4 := HAL.out.grown hg4 hbase (fun k hk => by simp [Value.ownBlock] at hk; omega)
          have HOWN4 := Lib.hid hown4
          have hal4 : Below w4.heap.size w4 (w4.alloc (.cells #[.int .i64 x] 3)) := (Below.refl _ _).alloc (Nat.le_refl _) _
          have HOWN5 := Lib.hid (hown4.below hal4)
          have HB4 : Hid (Below wb.heap.size wb (w4.alloc (.cells #[.int .i64 x] 3))) := hb4.trans (hal4.mono hb4.size)
          have hbase4 : wb.heap.size ≤ (w4.alloc (.cells #[.int .i64 x] 3)).heap.size := HB4.out.size
          clear hown4 hg4 hb4 e0 e0' hal4
          go_wp2_with (at_builtin; (refine wpList_append_ints (B := wb.heap.size) (l := L) (src := [x]) rfl (.tmp 43) (.tmp 45) rfl rfl HOWN5.out rfl rfl (CellsAt.new w4 #[.int .i64 x] 3 _ rfl) (by have := HLL.out; simp; omega) hbase4 ?_))
          intro v5 w5 hown5 hg5
          have hb5 : Below wb.heap.size wb w5 := HB4.out.grown hg5 hbase4 (fun k hk => (HOWN4.out.lt hk).1)
          obtain ⟨p5, c5, rfl, hrow⟩ := Row.own (S := S) hown5 HB3.out.lt
          have HROW5 := Lib.hid hrow
          have HB5 := Lib.hid (HB3.out.below hb5)
          have hbk := HH1.out.but (But.of_below (S := []) hb5) (by simp)
          have g0 := hbk.cell (j := 0) (v := .slice pa L.length ca) rfl
          have gf := hbk.free 0
          have HW5 : Hid (But [q] w w5) := But.of_below (HW3.out.trans (hb5.mono HW3.out.size))
          obtain ⟨n, hn⟩ : ∃ n, (L ++ [x]).length = n := ⟨_, rfl⟩
          rw [hn]
          have HN := Lib.hid hn
          clear hown5 hg5 hb5 hrow hbk hn
          go_wp2
          go_ret
          rw [HR.out, ← HN.out]
          exact ⟨rfl, HB5.out.setL HROW5.out, HW5.out.set (Or.inl (by simp)) _⟩
        · have t1 : decide ((N : Int) < (n1 : Int) + (n2 : Int)) = true := by simp; omega
          have t2 : decide (N < n1 + n2) = true := by simp; omega
          have HR : Hid (addE N x L true false = (4, L, true)) := by unfold Hid addE; rw [hx, hn1, hn2, if_pos rfl, if_pos rfl, if_neg (by simp), if_neg hfit]
          clear hn1 hn2 hfit hx hp hL c0 c1 c3 f3 hb1 hb2
          go_enter Tryd.func57, Tryd.ntmps57
          go_wp2_with (go_at_call 68; refine (H1.out).mono ?_; rintro e w1 ⟨rfl, hq⟩; obtain rfl := hq)
          go_region_held_law (fun W => Below w.heap.size w W ∧ W.cell? ⟨q, 3, none⟩ = some (.bool false) ∧ W.cell? ⟨q, 0, none⟩ = some (.slice pa L.length ca) ∧ W.cell? ⟨q, 1, none⟩ = some (.int .i64 (N : Int)))
            (first | with_reducible exact HS.out _ hbb | with_reducible exact HS.out _ hba | with_reducible exact HS.out _ hd0) (first
            | (go_at_call 54; (with_reducible refine (HL1.out _ ?_).mono ?_); (go_split_ands; assumption); rintro e wa ⟨va, capa, rfl, hba⟩)
            | (go_at_call 28; (with_reducible refine (HP1.out _ ?_).mono ?_); (go_split_ands; assumption); rintro e wb ⟨vb, capb, rfl, hbb⟩))
          have HB3 := Lib.hid (H.out.below hbb)
          have HW3 := Lib.hid hbb
          clear hba hbb hd0 hsum
          obtain ⟨pa, ca, h1, h2⟩ := HB3.out.ex
          have e3 := h1.cell (j := 3) (v := .bool false) rfl
          have ef := h1.free 3
          clear h1 h2
          go_wp2
          go_ret
          rw [HR.out]
          exact ⟨rfl, HB3.out.setO true, (But.of_below HW3.out).set (Or.inl (by simp)) _⟩
      · have HR : Hid (addE N x L true true = (4, L, true)) := by unfold Hid addE; rw [hx]; rfl
        clear hx hp hL hn1 hn2 hb1 hb2 hsum c0 c1
        go_enter Tryd.func57, Tryd.ntmps57
        rw [HR.out]
        go_wp2_with (go_at_call 68; refine (H1.out).mono ?_; rintro e w1 ⟨rfl, hq⟩; obtain rfl := hq)
        go_quiet (fail)
        go_wp2
        go_ret
        exact ⟨rfl, (H.out.but (But.drewN (S := []) w _) (by simp) (by simp)).setO true, (But.drewN (S := [q]) w _).trans (butQ _ _ _ _)⟩

theorem refDrop (w : World) (h : RSt w S q N L bg ov) :
    Calls Tryd.prog 59 #[.pointer (some ⟨q, 0, none⟩)] w fun e w' => e = .returned (.tuple #[]) ∧ RSt w' S q N [] false false ∧ But [q] w w' := by
  obtain ⟨pa, ca, h1, h2⟩ := h.ex
  have f0 := h1.free 0
  have f2 := h1.free 2
  have f3 := h1.free 3
  have c0 := h1.cell (j := 0) (v := .slice pa L.length ca) rfl
  have c2 := h1.cell (j := 2) (v := .bool bg) rfl
  have c3 := h1.cell (j := 3) (v := .bool ov) rfl
  have H := Lib.hid h
  clear h h1 h2
  go_enter Tryd.func59, Tryd.ntmps59
  go_wp2
  go_end0
  exact ⟨rfl, ((H.out.setL (L' := []) (Row.nil _ _ none 0)).setB false).setO false, ((butQ _ _ _ _).trans (butQ _ _ _ _)).trans (butQ _ _ _ _)⟩

set_option maxRecDepth 100000 in
set_option maxHeartbeats 1000000 in
theorem refEnd {r N2 : Nat} {A B : List Int} (w : World) (hr : q ∉ [r]) (hq : r ∉ [q]) (h : RSt w S q N L bg ov) (hp : AllPrint L) (hL : L.length ≤ 17592186044) (hrb : RB w S r N2 A B) (hA : A.length ≤ 1099511627776) (hB : B.length ≤ 1099511627776) (hN : N2 ≤ 4096) (hpp : AllPrint (A ++ B)) :
    Calls Tryd.prog 58 #[.pointer (some ⟨q, 0, none⟩), .pointer (some ⟨r, 0, none⟩)] w fun e w' => e = .returned (.int .i64 (endE N2 L bg ov A B).1) ∧
      RSt w' S q N (if bg then [] else L) false (if bg then false else ov) ∧ RB w' S r N2 (endE N2 L bg ov A B).2 B ∧ But [q, r] w w' := by
  obtain ⟨pa, ca, h1, h2⟩ := h.ex
  have c0 := h1.cell (j := 0) (v := .slice pa L.length ca) rfl
  have c2 := h1.cell (j := 2) (v := .bool bg) rfl
  have c3 := h1.cell (j := 3) (v := .bool ov) rfl
  have HD := Lib.hid (refDrop w h)
  have H := Lib.hid h
  have HRB := Lib.hid hrb
  have HROW := Lib.hid h2
  have HP := Lib.hid (And.intro hp hpp)
  have HAB := Lib.hid (And.intro hA hB)
  have HQR := Lib.hid (And.intro hr hq)
  have HQS := Lib.hid h.qS
  clear h h1 h2 hrb hp hpp hA hB hr hq
  cases bg
  · have HR : Hid (endE N2 L false ov A B = (11, A)) := rfl
    go_enter Tryd.func58, Tryd.ntmps58
    go_wp2
    go_ret
    rw [HR.out]
    exact ⟨rfl, H.out, HRB.out, But.refl _ _⟩
  · cases ov
    · have HR : Hid (endE N2 L true false A B = insE N2 (encs L) A B) := by
        unfold Hid endE insE layE
        rw [fine_encs L HP.out.1, charsOf_encs HP.out.1, if_pos rfl, if_neg (by simp), if_pos rfl]
      go_enter Tryd.func58, Tryd.ntmps58
      rw [HR.out]
      go_wp2_with fail
      refine (HD.out).mono ?_
      rintro e w1 ⟨rfl, hst1, hb1⟩
      have HST1 := Lib.hid hst1
      have HB1 := Lib.hid hb1
      have HRB1 : Hid (RB w1 S r N2 A B) := HRB.out.but hb1 (by have := HQS.out; simp; exact this) HQR.out.2
      have HROW1 : Hid (Row w1 S pa ca L) := HROW.out.but hb1 (by have := HQS.out; simp; exact this)
      clear hst1 hb1 c0 c2 c3
      go_wp2_with fail
      refine (refBytes L pa ca w1 HROW1.out.at' (by omega) (fun c hc => AllPrint.fine HP.out.1 c hc)).mono ?_
      rintro e w2 ⟨v, rfl, hown, hb2⟩
      obtain ⟨Av, n, capv, rfl, hn, hlc, hby⟩ := hown.form'
      have hel : (encs L).length ≤ 4 * L.length := flatMap_le L
      have hn' : (encs L).length = n := hn
      have hi := refInsB (encs L) Av capv w2 (HRB1.out.below hb2) HAB.out.1 HAB.out.2 hN HP.out.2 hby (by omega) (by omega)
      rw [hn'] at hi
      have HI := Lib.hid hi
      clear hi hn hn'
      have HST2 : Hid (RSt w2 S q N [] false false) := HST1.out.below hb2
      have HB2 : Hid (But [q] w w2) := HB1.out.trans ((But.of_below (S := [q]) hb2))
      clear hown hlc hby hb2 hel
      go_wp2_with fail
      refine (HI.out).mono ?_
      rintro e w3 ⟨rfl, hrb3, hb3⟩
      have HRB3 := Lib.hid hrb3
      have HST3 : Hid (RSt w3 S q N [] false false) := HST2.out.but hb3 (by have := HRB1.out.rS; simp; exact this) HQR.out.1
      have HB3 : Hid (But [q, r] w w3) := (HB2.out.mono (by simp)).trans (hb3.mono (by simp))
      clear hrb3 hb3
      go_wp2
      go_ret
      exact ⟨rfl, HST3.out, HRB3.out, HB3.out⟩
    · have HR : Hid (endE N2 L true true A B = (4, A)) := rfl
      go_enter Tryd.func58, Tryd.ntmps58
      rw [HR.out]
      go_wp2_with fail
      refine (HD.out).mono ?_
      rintro e w1 ⟨rfl, hst1, hb1⟩
      have HST1 := Lib.hid hst1
      have HB1 := Lib.hid hb1
      have HRB1 : Hid (RB w1 S r N2 A B) := HRB.out.but hb1 (by have := HQS.out; simp; exact this) HQR.out.2
      clear hst1 hb1 c0 c2 c3
      go_wp2
      go_ret
      exact ⟨rfl, HST1.out, HRB1.out, HB1.out.mono (by simp)⟩
end

end Go.Proofs.YtbkpnffgihjikaaDoor.Edit

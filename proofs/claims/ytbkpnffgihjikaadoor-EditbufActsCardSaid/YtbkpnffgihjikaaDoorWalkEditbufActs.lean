/- EditbufActs, the walk: of any calls each answer is the document's, the bytes, how many characters there are, and where the place is. -/
import Derived.Test.YtbkpnffgihjikaaDoorGA
import Derived.Test.YtbkpnffgihjikaaDoorGG
import Derived.Test.YtbkpnffgihjikaaDoorGH
import Derived.Deep.CutBlock
import Derived.Deep.DeepCutAuto
set_option linter.unusedVariables false
set_option linter.unusedSimpArgs false
namespace Go.Proofs.YtbkpnffgihjikaaDoor.EditbufActs
open Go.RowKit Go.Lib Go.Shelf ChangeShapes Mem Utf UtfP Edit Law

attribute [local go_sem] strOf_toList strOf_append strOf_size

/-- both buffers -/
structure Two (w : World) (b a c r N : Nat) (A B : List Int) : Prop where
  ed : Ed w b a c N A B
  rb : RB w [b, a, c, r] r N A B
def RV (w : World) (b a c r N n : Nat) (i : Value) (wr : World) : Prop :=
  ∃ (j : Nat) (A B : List Int), i = .int .i64 (j : Int) ∧ j ≤ n ∧ Two wr b a c r N A B ∧ Below w.heap.size w wr
/-- behind a call -/
def RC (w : World) (b a c r N j : Nat) (i : Value) (wr : World) : Prop :=
  ∃ (A B : List Int), i = .int .i64 (j : Int) ∧ Two wr b a c r N A B ∧ Below w.heap.size w wr

/-- the blocks lie apart -/
def Far (b a c r : Nat) : Prop := r ≠ b ∧ r ≠ a ∧ r ≠ c

theorem Two.below {w w' : World} {b a c r N : Nat} {A B : List Int} (h : Two w b a c r N A B) (hb : Below w.heap.size w w') : Two w' b a c r N A B :=
  ⟨h.ed.but (But.of_below (S := []) hb) (by simp) (by simp) (by simp), h.rb.below hb⟩
theorem Two.drewN {w : World} {b a c r N : Nat} {A B : List Int} (h : Two w b a c r N A B) (n : Nat) : Two (w.drewN n) b a c r N A B :=
  ⟨h.ed.but (But.drewN (S := []) w n) (by simp) (by simp) (by simp), h.rb.but (But.drewN (S := []) w n) (by simp) (by simp)⟩
/-- the one, then the other -/
theorem Two.both {w1 w2 : World} {b a c r N : Nat} {A' B' : List Int} (hf : Far b a c r) (h1 : Ed w1 b a c N A' B') (hb : But [r] w1 w2) (h2 : RB w2 [b, a, c, r] r N A' B') : Two w2 b a c r N A' B' :=
  ⟨h1.but hb (by have := hf.1; simp; omega) (by have := hf.2.1; simp; omega) (by have := hf.2.2; simp; omega), h2⟩
theorem RB.past {w w1 : World} {b a c r N : Nat} {A B : List Int} (hf : Far b a c r) (h : RB w [b, a, c, r] r N A B) (hb : But [b, a, c] w w1) : RB w1 [b, a, c, r] r N A B :=
  h.but hb (by simp) (by have := hf; unfold Far at this; simp; omega)
theorem But.both {w w1 w2 : World} {b a c r : Nat} (h1 : But [b, a, c] w w1) (h2 : But [r] w1 w2) : But [b, a, c, r] w w2 := (h1.mono (by simp)).trans (h2.mono (by simp))
theorem Two.lens {w : World} {b a c r N : Nat} {A B : List Int} (h : Two w b a c r N A B) : A.length + B.length ≤ N := by
  have h1 := encs_len A
  have h2 := encs_len B
  have h3 := h.ed.buf.ar.fit
  rw [List.length_append] at h3
  omega

set_option maxRecDepth 200000 in
set_option maxHeartbeats 4000000 in
theorem walk (x : Int) (rs : List ActRow) (Q : Option Addr) (cap : Nat) (w : World) (hT : Tabs w) (_ : (Lit.int .i64 x).wf = true) (hA : RowsAt w 4 ActRow.cells Q rs) (hcap : rs.length ≤ cap) (hm : 48 * rs.length ≤ 140737488355328) (hgood : ∀ r ∈ rs, r.b.Fits w) :
    Calls Tryd.prog 7 #[.int .i64 x, .slice Q rs.length cap] w fun e w' => e = .returned (.bool true) ∧ Below w.heap.size w w' := by
  have HT := Lib.hid hT
  have HA := Lib.hid hA
  have HG := Lib.hid hgood
  clear hT hA hgood
  have hN := szE_bd (m := 200) x (by decide) (by decide)
  have HSZ := Lib.hid (fun W => size_c x W)
  generalize szE 200 x = N at *
  go_enter Tryd.func7, Tryd.ntmps7
  go_wp2_with (go_at_call 37; refine (HSZ.out _).mono ?_; rintro e w0 ⟨rfl, hq⟩; obtain rfl := hq.symm)
  refine (begin_c N hN.1 hN.2 w).mono ?_
  rintro e w1 ⟨b, a, c, rfl, hlb, hla, hlc, hed, hb1⟩
  have HL := Lib.hid (show w.heap.size ≤ b ∧ w.heap.size ≤ a ∧ w.heap.size ≤ c from ⟨hlb, hla, hlc⟩)
  have HW1 := Lib.hid hb1
  have HED1 := Lib.hid hed
  clear hlb hla hlc hed hb1
  go_wp2_with fail
  refine (Edit.alive _).mono ?_
  rintro e w3 ⟨rfl, hb3⟩
  have HED3 : Hid (Ed w3 b a c N [] []) := HED1.out.but (But.of_below (S := []) hb3) (by simp) (by simp) (by simp)
  have HW3 : Hid (Below w.heap.size w w3) := HW1.out.trans (hb3.mono HW1.out.size)
  clear hb3
  go_wp2_with fail
  refine (great_c rs Q cap w3 (HA.out.below HW3.out) (by omega) (fun r hr => (HG.out r hr).2.1) (fun r hr => (HG.out r hr).2.2)).mono ?_
  rintro e w4 ⟨gr, rfl, hgr, hb4⟩
  have HGR := Lib.hid hgr
  clear hgr
  have HED4 : Hid (Ed w4 b a c N [] []) := HED3.out.but (But.of_below (S := []) hb4) (by simp) (by simp) (by simp)
  have HW4 : Hid (Below w.heap.size w w4) := HW3.out.trans (hb4.mono HW3.out.size)
  clear hb4
  cases gr
  · obtain ⟨r, hr⟩ : ∃ r, r = w4.heap.size := ⟨_, rfl⟩
    have HF : Hid (Far b a c r ∧ w.heap.size ≤ r) := by
      have h1 := HED4.out.buf.head.lt
      have h2 := HED4.out.buf.ar.head.lt
      have h3 := HED4.out.buf.ar.body.lt
      have h4 := HW4.out.size
      unfold Hid Far
      omega
    have HR := Lib.hid hr
    clear hr
    go_wp2_with (go_at_call 37; refine (HSZ.out _).mono ?_; rintro e w0 ⟨rfl, hq⟩; obtain rfl := hq.symm)
    rw [← HR.out]
    go_loopw [38] (fun i wr => RV w b a c r N rs.length i wr) (fun i _ => rs.length - (RowKit.intOf i).toNat)
    case atStart =>
      have hal : Below w4.heap.size w4 (w4.alloc (.cells #[.slice none 0 0, .slice none 0 0, .int .i64 (N : Int)] 60)) := (Below.refl _ _).alloc (Nat.le_refl _) _
      refine ⟨0, [], [], rfl, by omega, ⟨HED4.out.but (But.of_below (S := []) hal) (by simp) (by simp) (by simp), ⟨⟨none, 0, none, 0, ?_, Row.nil _ _ _ _, Row.nil _ _ _ _⟩, ?_, by simp⟩⟩, HW4.out.trans (hal.mono HW4.out.size)⟩
      · rw [HR.out]; exact Blk.new _ _ _
      · intro s hs
        have h1 := HED4.out.buf.head.lt
        have h2 := HED4.out.buf.ar.head.lt
        have h3 := HED4.out.buf.ar.body.lt
        have h4 := HR.out
        simp at hs
        simp
        omega
    case round =>
      obtain ⟨j, A, B, rfl, hj, htwo, hbw⟩ := hrel
      have HTW := Lib.hid htwo
      have HBW := Lib.hid hbw
      clear htwo hbw
      by_cases hlt : j < rs.length
      · have k0 : (j : Int) < (rs.length : Int) := by omega
        obtain ⟨r', hr'⟩ : ∃ r, rs[j]? = some r := ⟨_, List.getElem?_eq_getElem hlt⟩
        obtain ⟨g, off, rfl, hgl, hcell⟩ := HA.out (List.length_pos_iff.1 (by omega : 0 < rs.length))
        obtain ⟨hby, hrc, hrm⟩ := HG.out r' (List.mem_of_getElem? hr')
        obtain ⟨q0, q1, q2, q3⟩ := act_cells hcell hr'
        have e0 : wr.cell? ⟨g, off + j * 4, none⟩ = some (.int .i64 r'.k) := by rw [HBW.out.cell hgl]; exact q0
        have e1 : wr.cell? ⟨g, off + j * 4 + 1, none⟩ = some (.int .i64 r'.kk) := by rw [HBW.out.cell hgl]; exact q1
        have e2 : wr.cell? ⟨g, off + j * 4 + 2, none⟩ = some (.int .i64 r'.kc) := by rw [HBW.out.cell hgl]; exact q2
        have e3 : wr.cell? ⟨g, off + j * 4 + 3, none⟩ = some (.slice r'.b.A r'.b.l.length r'.b.cap) := by rw [HBW.out.cell hgl]; exact q3
        have hl3 := HGR.out (by first | rfl | trivial) r' (List.mem_of_getElem? hr')
        obtain ⟨k, kk, kc, ⟨A0, l, cap0⟩⟩ := r'
        simp only at hl3
        simp only at e0 e1 e2 e3 hby hrc hrm
        have HBY := Lib.hid hby
        clear q0 q1 q2 q3 hcell hgl hr' hby
        obtain ⟨o, ho⟩ : ∃ o : Obj, o = .cells #[.int .i64 k, .int .i64 kk, .int .i64 kc, .slice A0 l.length cap0] 62 := ⟨_, rfl⟩
        have hwo : Below wr.heap.size wr (wr.alloc o) := (Below.refl _ _).alloc (Nat.le_refl _) _
        have HWO : Hid (Below w.heap.size w (wr.alloc o)) := HBW.out.trans (hwo.mono HBW.out.size)
        have HTO : Hid (Two (wr.alloc o) b a c r N A B) := HTW.out.below hwo
        have hbo : Blk (wr.alloc o) wr.heap.size #[.int .i64 k, .int .i64 kk, .int .i64 kc, .slice A0 l.length cap0] 62 := by rw [ho]; exact Blk.new _ _ _
        have HO := Lib.hid ho
        have HBO := Lib.hid hbo
        have hlens := HTW.out.lens
        have hA4 : A.length ≤ 1099511627776 := by have := hN.2; omega
        have hB4 : B.length ≤ 1099511627776 := by have := hN.2; omega
        have HL4 := Lib.hid (And.intro hA4 hB4)
        have hxb : wr.heap.size ≠ b ∧ wr.heap.size ≠ a ∧ wr.heap.size ≠ c ∧ wr.heap.size ≠ r := by
          have h1 := HTW.out.ed.buf.head.lt
          have h2 := HTW.out.ed.buf.ar.head.lt
          have h3 := HTW.out.ed.buf.ar.body.lt
          have h4 := HTW.out.rb.lt r (by simp)
          omega
        have HXB := Lib.hid hxb
        clear ho hwo hbo hlens hA4 hB4 hxb
        go_upto_block 2 with fail
        rw [← HO.out]
        obtain ⟨wo, hwo⟩ : ∃ wo, wr.alloc o = wo := ⟨_, rfl⟩
        rw [hwo] at HWO HTO HBO ⊢
        obtain ⟨xb, hxb⟩ : ∃ xb, wr.heap.size = xb := ⟨_, rfl⟩
        rw [hxb] at HBO HXB ⊢
        clear hwo hxb
        go_cut [38] from 38 to 154 (fun i wx => RC w b a c r N j i wx)
        case first =>
          have d0 := HBO.out.cell (j := 0) (v := .int .i64 k) rfl
          have d1 := HBO.out.cell (j := 1) (v := .int .i64 kk) rfl
          have d2 := HBO.out.cell (j := 2) (v := .int .i64 kc) rfl
          have d3 := HBO.out.cell (j := 3) (v := .slice A0 l.length cap0) rfl
          have hmeet : ∀ (W : World) (A' B' : List Int), Two W b a c r N A' B' → But [b, a, c, r] wo W → RC w b a c r N j (.int .i64 (j : Int)) W := fun W A' B' h hb => ⟨A', B', rfl, h, HWO.out.trans (hb.below HWO.out.size (by have := HL.out; have := HF.out.2; simp; omega))⟩
          have HMEET := Lib.hid hmeet
          have HXC : Hid (∀ W, But [b, a, c, r] wo W → (W.cell? ⟨xb, 0, none⟩ = some (.int .i64 k) ∧ W.cell? ⟨xb, 1, none⟩ = some (.int .i64 kk)) ∧ (W.cell? ⟨xb, 2, none⟩ = some (.int .i64 kc) ∧ W.cell? ⟨xb, 3, none⟩ = some (.slice A0 l.length cap0))) := fun W hW => by
            have hb := HBO.out.but hW (by have := HXB.out; simp; omega)
            exact ⟨⟨hb.cell rfl, hb.cell rfl⟩, hb.cell rfl, hb.cell rfl⟩
          clear hmeet
          by_cases c0 : k = 0
          · subst c0
            have HD := Lib.hid (do_any kk kc wo HTO.out.ed)
            have HD2 : Hid (∀ W, But [b, a, c] wo W → Calls Tryd.prog 39 #[.pointer (some ⟨r, 0, none⟩), .agg #[.int .i64 kk, .int .i64 kc]] W fun e w' => e = .returned (.tuple #[.bool (doE N kk kc A B).2.2.1, .int .i64 (doE N kk kc A B).2.2.2]) ∧ RB w' [b, a, c, r] r N (doE N kk kc A B).1 (doE N kk kc A B).2.1 ∧ But [r] W w') := fun W hW => refDo_any kk kc W (RB.past HF.out.1 HTO.out.rb hW) HL4.out.1 HL4.out.2 hN.2 HTO.out.ed.pr
            obtain ⟨A', hA'⟩ : ∃ A', (doE N kk kc A B).1 = A' := ⟨_, rfl⟩
            obtain ⟨B', hB'⟩ : ∃ B', (doE N kk kc A B).2.1 = B' := ⟨_, rfl⟩
            obtain ⟨z, hz⟩ : ∃ z, (doE N kk kc A B).2.2.1 = z := ⟨_, rfl⟩
            obtain ⟨er, her⟩ : ∃ er, (doE N kk kc A B).2.2.2 = er := ⟨_, rfl⟩
            rw [hA', hB', hz, her] at HD HD2
            have t1 : (er != er) = false := by simp
            clear hA' hB' hz her
            go_wp2_with fail
            refine (HD.out).mono ?_
            rintro e w5 ⟨rfl, hed5, hbt5⟩
            have HED5 := Lib.hid hed5
            have HBT5 := Lib.hid hbt5
            obtain ⟨⟨x0, x1⟩, x2, x3⟩ := HXC.out w5 (hbt5.mono (by simp))
            clear hed5 hbt5 d0 d1 d2 d3
            cases z
            all_goals
              go_wp2_with (go_at_call 39; refine (HD2.out _ HBT5.out).mono ?_; rintro e w6 ⟨rfl, hrb6, hbt6⟩; have HRB6 := Lib.hid hrb6; have HBT6 := Lib.hid hbt6; clear hrb6 hbt6)
              go_meet
              exact HMEET.out _ _ _ (Two.both HF.out.1 HED5.out HBT6.out HRB6.out) (But.both HBT5.out HBT6.out)
          · have c0' : (k == 0) = false := by simpa using c0
            by_cases c1 : k = 1
            · subst c1
              have HP1 := Lib.hid (put_any kc wo.drew (⟨⟨HTO.out.ed.buf.head, Ar.drew HTO.out.ed.buf.ar, HTO.out.ed.buf.ba, HTO.out.ed.buf.bc, HTO.out.ed.buf.le⟩, HTO.out.ed.pr⟩))
              have HP2 : Hid (∀ W, But [b, a, c] wo.drew W → Calls Tryd.prog 41 #[.pointer (some ⟨r, 0, none⟩), .int .i64 kc] W fun e w' => e = .returned (.int .i64 (runeE N kc A B).1) ∧ RB w' [b, a, c, r] r N (runeE N kc A B).2 B ∧ But [r] W w') := fun W hW => refPutB kc W (RB.past HF.out.1 HTO.out.rb ((But.refl _ _).drew.trans hW)) HL4.out.1 HL4.out.2 hN.2 HTO.out.ed.pr
              obtain ⟨A', hA'⟩ : ∃ A', (runeE N kc A B).2 = A' := ⟨_, rfl⟩
              obtain ⟨er, her⟩ : ∃ er, (runeE N kc A B).1 = er := ⟨_, rfl⟩
              rw [hA', her] at HP1 HP2
              have t1 : (er != er) = false := by simp
              have hd0 : But [b, a, c, r] wo wo.drew := (But.refl _ _).drew
              clear hA' her d0 d1 d2 d3
              obtain ⟨⟨x0, x1⟩, x2, x3⟩ := HXC.out wo (But.refl _ _)
              go_wp2
              go_region_held_law (fun W => But [b, a, c, r] wo W ∧ W.cell? ⟨xb, 2, none⟩ = some (.int .i64 kc))
                (first | with_reducible exact ⟨HBT6.out, (HXC.out _ HBT6.out).2.1⟩ | with_reducible exact ⟨HBT5.out, (HXC.out _ HBT5.out).2.1⟩ | with_reducible exact ⟨hd0, (HXC.out _ hd0).2.1⟩) (first
                | (go_at_call 40; (with_reducible refine (HP1.out).mono ?_); rintro e w5 ⟨rfl, hed5, hbt5⟩; have HED5 := Lib.hid hed5; have HBD5 := Lib.hid hbt5; have HBT5 : Hid (But [b, a, c, r] wo w5) := hd0.trans (hbt5.mono (by simp)); clear hed5 hbt5)
                | (go_at_call 41; (with_reducible refine (HP2.out _ HBD5.out).mono ?_); rintro e w6 ⟨rfl, hrb6, hbt6⟩; have HRB6 := Lib.hid hrb6; have HBD6 := Lib.hid hbt6; have HBT6 : Hid (But [b, a, c, r] wo w6) := HBT5.out.trans (hbt6.mono (by simp)); clear hrb6 hbt6))
              go_wp2
              go_meet
              exact HMEET.out _ _ _ (Two.both HF.out.1 HED5.out HBD6.out HRB6.out) HBT6.out
            · have c1' : (k == 1) = false := by simpa using c1
              by_cases c2 : k = 2
              · subst c2
                have HP1 := Lib.hid (ins_e' A0 l cap0 wo.drew (HT.out.below (HWO.out.drew)) (⟨⟨HTO.out.ed.buf.head, Ar.drew HTO.out.ed.buf.ar, HTO.out.ed.buf.ba, HTO.out.ed.buf.bc, HTO.out.ed.buf.le⟩, HTO.out.ed.pr⟩) (HBY.out.below HWO.out.drew) hrc (by omega) (fun ad h h' => by
                  obtain ⟨g, off, e, hlt, _⟩ := HBY.out h'
                  rw [e] at h
                  injection h with h
                  have := HL.out
                  subst h
                  show g ≠ _
                  omega))
                have HP2 : Hid (∀ W, But [b, a, c] wo.drew W → Calls Tryd.prog 42 #[.pointer (some ⟨r, 0, none⟩), .slice A0 l.length cap0] W fun e w' => e = .returned (.int .i64 (insE N l A B).1) ∧ RB w' [b, a, c, r] r N (insE N l A B).2 B ∧ But [r] W w') := fun W hW => refInsB l A0 cap0 W (RB.past HF.out.1 HTO.out.rb ((But.refl _ _).drew.trans hW)) HL4.out.1 HL4.out.2 hN.2 HTO.out.ed.pr (HBY.out.below (HWO.out.trans (((But.refl _ _).drew.trans hW).below HWO.out.size (by have := HL.out; simp; omega)))) hrc (by omega)
                obtain ⟨A', hA'⟩ : ∃ A', (insE N l A B).2 = A' := ⟨_, rfl⟩
                obtain ⟨er, her⟩ : ∃ er, (insE N l A B).1 = er := ⟨_, rfl⟩
                rw [hA', her] at HP1 HP2
                have t1 : (er != er) = false := by simp
                have hd0 : But [b, a, c, r] wo wo.drew := (But.refl _ _).drew
                clear hA' her d0 d1 d2 d3
                obtain ⟨⟨x0, x1⟩, x2, x3⟩ := HXC.out wo (But.refl _ _)
                go_wp2
                go_region_held_law (fun W => But [b, a, c, r] wo W ∧ W.cell? ⟨xb, 3, none⟩ = some (.slice A0 l.length cap0))
                  (first | with_reducible exact ⟨HBT6.out, (HXC.out _ HBT6.out).2.2⟩ | with_reducible exact ⟨HBT5.out, (HXC.out _ HBT5.out).2.2⟩ | with_reducible exact ⟨hd0, (HXC.out _ hd0).2.2⟩) (first
                  | (go_at_call 32; (with_reducible refine (HP1.out).mono ?_); rintro e w5 ⟨rfl, hed5, hbt5⟩; have HED5 := Lib.hid hed5; have HBD5 := Lib.hid hbt5; have HBT5 : Hid (But [b, a, c, r] wo w5) := hd0.trans (hbt5.mono (by simp)); clear hed5 hbt5)
                  | (go_at_call 42; (with_reducible refine (HP2.out _ HBD5.out).mono ?_); rintro e w6 ⟨rfl, hrb6, hbt6⟩; have HRB6 := Lib.hid hrb6; have HBD6 := Lib.hid hbt6; have HBT6 : Hid (But [b, a, c, r] wo w6) := HBT5.out.trans (hbt6.mono (by simp)); clear hrb6 hbt6))
                go_wp2
                go_meet
                exact HMEET.out _ _ _ (Two.both HF.out.1 HED5.out HBD6.out HRB6.out) HBT6.out
              · have c2' : (k == 2) = false := by simpa using c2
                by_cases c3 : k = 3
                · subst c3
                  have HC := Lib.hid (clearB wo HTO.out.ed.buf)
                  go_wp2_with fail
                  refine (HC.out).mono ?_
                  rintro e w5 ⟨rfl, hbuf5, hbt5⟩
                  have hed5 : Ed w5 b a c N [] [] := ⟨hbuf5, by intro y hy; simp at hy⟩
                  have hrb5 := RB.past HF.out.1 HTO.out.rb hbt5
                  obtain ⟨pa, ca, pb, cb, g1, g2, g3⟩ := hrb5.ex
                  have x0 := g1.cell (j := 0) (v := .slice pa A.length ca) rfl
                  have x1 := g1.cell (j := 1) (v := .slice pb B.length cb) rfl
                  have y0 := g1.free 0
                  have y1 := g1.free 1
                  have HED5 := Lib.hid hed5
                  have HRB5 := Lib.hid hrb5
                  have HBT5 := Lib.hid hbt5
                  clear g1 g2 g3 hed5 hrb5 hbt5 hbuf5 d0 d1 d2 d3
                  go_wp2
                  go_meet
                  have hrb6 := (HRB5.out.setA (A' := []) (Row.nil _ _ none 0)).setB (B' := []) (Row.nil _ _ none 0)
                  exact HMEET.out _ _ _ (Two.both HF.out.1 HED5.out (((But.refl _ _).set (Or.inl (by simp)) _).set (Or.inl (by simp)) _) hrb6) (But.both HBT5.out (((But.refl _ _).set (Or.inl (by simp)) _).set (Or.inl (by simp)) _))
                · have c3' : (k == 3) = false := by simpa using c3
                  go_wp2
                  go_meet
                  exact HMEET.out _ _ _ HTO.out (But.refl _ _)
        case rest =>
          obtain ⟨A', B', rfl, htwo, hbw⟩ := hcut
          have HT5 := Lib.hid htwo
          have HBW5 := Lib.hid hbw
          clear htwo hbw
          obtain ⟨t, ht⟩ : ∃ t, encs A' ++ encs B' = t := ⟨_, rfl⟩
          obtain ⟨p, hp⟩ : ∃ p, A'.length = p := ⟨_, rfl⟩
          obtain ⟨q, hq⟩ : ∃ q, B'.length = q := ⟨_, rfl⟩
          have hlens := HT5.out.lens
          have hpq : p + q ≤ 4096 := by have := hN.2; omega
          have hTR : Calls Tryd.prog 44 #[.pointer (some ⟨r, 0, none⟩)] wc fun e w' => ∃ Av cap, e = .returned (.slice Av t.length cap) ∧ BytesAt w' Av t ∧ Below wc.heap.size wc w' := (refTextB wc HT5.out.rb (by omega) (by omega) HT5.out.ed.pr).mono fun e w' ⟨v, he, ho, hb⟩ => by
            rw [ht] at ho
            obtain ⟨Av, cap, rfl, _, hby, _⟩ := ho.form
            exact ⟨Av, cap, he, hby, hb⟩
          have HTR := Lib.hid hTR
          have HTT := Lib.hid ht
          have HPP := Lib.hid hp
          have HQQ := Lib.hid hq
          clear hTR ht hp hq hlens
          go_wp2_with fail
          refine (HTR.out).mono ?_
          rintro e w6 ⟨Av, capv, rfl, hby6, hb6⟩
          have HT6 : Hid (Two w6 b a c r N A' B') := HT5.out.below hb6
          have HW6 : Hid (Below w.heap.size w w6) := HBW5.out.trans (hb6.mono HBW5.out.size)
          have hcv := conv_str (cap := capv) hby6
          clear hby6 hb6
          obtain ⟨pa, ca, pb, cb, g1, g2, g3⟩ := HT6.out.rb.ex
          have x0 := g1.cell (j := 0) (v := .slice pa A'.length ca) rfl
          have x1 := g1.cell (j := 1) (v := .slice pb B'.length cb) rfl
          rw [HPP.out] at x0
          rw [HQQ.out] at x1
          have hrlt := g1.lt
          have HS : Hid (∀ W, Below w6.heap.size w6 W → Below w6.heap.size w6 W ∧ W.cell? ⟨r, 0, none⟩ = some (.slice pa p ca) ∧ W.cell? ⟨r, 1, none⟩ = some (.slice pb q cb)) := fun W hW => ⟨hW, (hW.cell (p := ⟨r, 0, none⟩) hrlt).trans x0, (hW.cell (p := ⟨r, 1, none⟩) hrlt).trans x1⟩
          have hbuf6 := HT6.out.ed.buf
          rw [HTT.out] at hbuf6
          have hB : ∀ W, Below w6.heap.size w6 W → Buf W b a c N t (encs A').length := fun W hW => hbuf6.but (But.of_below (S := []) hW) (by simp) (by simp) (by simp)
          have hE : ∀ W, Below w6.heap.size w6 W → Ed W b a c N A' B' := fun W hW => HT6.out.ed.but (But.of_below (S := []) hW) (by simp) (by simp) (by simp)
          have K1 : Hid (∀ W, Below w6.heap.size w6 W → Calls Tryd.prog 35 #[.pointer (some ⟨b, 0, none⟩)] W fun e w' => e = .returned (.string (strOf t)) ∧ Below w6.heap.size w6 w') := fun W hW => (text_c W (hB W hW)).mono fun e w' ⟨he, hb⟩ => ⟨he, hW.trans (hb.mono hW.size)⟩
          have K2 : Hid (∀ W, Below w6.heap.size w6 W → Calls Tryd.prog 27 #[.pointer (some ⟨b, 0, none⟩)] W fun e w' => e = .returned (.int .i64 (t.length : Int)) ∧ Below w6.heap.size w6 w') := fun W hW => (lenB W (hB W hW)).mono fun e w' ⟨he, hb⟩ => ⟨he, by rw [hb]; exact hW⟩
          have K3 : Hid (∀ W, Below w6.heap.size w6 W → Calls Tryd.prog 33 #[.pointer (some ⟨b, 0, none⟩)] W fun e w' => e = .returned (.int .i64 ((p : Int) + (q : Int))) ∧ Below w6.heap.size w6 w') := fun W hW => (count_e W (hE W hW)).mono fun e w' ⟨he, hb⟩ => ⟨by rw [he, HPP.out, HQQ.out]; simp, by rw [hb]; exact hW⟩
          have K4 : Hid (∀ W, Below w6.heap.size w6 W → Calls Tryd.prog 36 #[.pointer (some ⟨b, 0, none⟩)] W fun e w' => e = .returned (.int .i64 (p : Int)) ∧ Below w6.heap.size w6 w') := fun W hW => (at_e W (hE W hW)).mono fun e w' ⟨he, hb⟩ => ⟨by rw [he, HPP.out], by rw [hb]; exact hW⟩
          have K5 : Hid (∀ W, Below w6.heap.size w6 W → Calls Tryd.prog 45 #[.pointer (some ⟨a, 0, none⟩)] W fun e w' => e = .returned (.int .i64 (t.length : Int)) ∧ Below w6.heap.size w6 w') := fun W hW => (len W (hB W hW).ar).mono fun e w' ⟨he, hb⟩ => ⟨he, by rw [hb]; exact hW⟩
          have K6 : Hid (∀ W, Below w6.heap.size w6 W → Calls Tryd.prog 46 #[.pointer (some ⟨a, 0, none⟩)] W fun e w' => e = .returned (.bool true) ∧ Below w6.heap.size w6 w') := fun W hW => (cleanA W (hB W hW).ar).mono fun e w' ⟨he, n, hb⟩ => ⟨he, by rw [hb]; exact Utf.below_drewN hW n⟩
          have hd0 : Below w6.heap.size w6 w6.drew := (Below.refl _ _).drew
          have hsum : IntKind.i64.wrap ((p : Int) + (q : Int)) = (p : Int) + (q : Int) := IntWalk.i64_in _ (by omega)
          have t2 : ((t.length : Int) != (t.length : Int)) = false := by simp
          have t3 : ((p : Int) + (q : Int) != (p : Int) + (q : Int)) = false := by simp
          have t4 : ((p : Int) != (p : Int)) = false := by simp
          clear g1 g2 g3 hbuf6 hB hE x0 x1 hrlt
          go_wp2_with fail
          go_region_held_law (fun W => Below w6.heap.size w6 W ∧ W.cell? ⟨r, 0, none⟩ = some (.slice pa p ca) ∧ W.cell? ⟨r, 1, none⟩ = some (.slice pb q cb))
            (exact HS.out _ (by assumption)) (first
            | (go_at_call 35; (with_reducible refine (K1.out _ ?_).mono ?_); (go_split_ands; assumption); rintro e w7 ⟨rfl, hb7⟩)
            | (go_at_call 27; (with_reducible refine (K2.out _ ?_).mono ?_); (go_split_ands; assumption); rintro e w8 ⟨rfl, hb8⟩)
            | (go_at_call 33; (with_reducible refine (K3.out _ ?_).mono ?_); (go_split_ands; assumption); rintro e w9 ⟨rfl, hb9⟩)
            | (go_at_call 36; (with_reducible refine (K4.out _ ?_).mono ?_); (go_split_ands; assumption); rintro e w10 ⟨rfl, hb10⟩)
            | (go_at_call 45; (with_reducible refine (K5.out _ ?_).mono ?_); (go_split_ands; assumption); rintro e w11 ⟨rfl, hb11⟩)
            | (go_at_call 46; (with_reducible refine (K6.out _ ?_).mono ?_); (go_split_ands; assumption); rintro e w12 ⟨rfl, hb12⟩))
          all_goals
            have HT12 : Hid (Two w12 b a c r N A' B') := HT6.out.below hb12
            have HW12 : Hid (Below w.heap.size w w12) := HW6.out.trans (hb12.mono HW6.out.size)
            clear hb12
            go_wp2
            go_roundw
            case rel => exact ⟨j + 1, A', B', by go_num, by omega, HT12.out, HW12.out⟩
            case measure => simp [RowKit.intOf]; omega
      · have hge : decide ((j : Int) < (rs.length : Int)) = false := by simp; omega
        have hge' : decide (j < rs.length) = false := by simp; omega
        clear hlt
        go_wp2
        go_ret
        exact ⟨rfl, HBW.out⟩
  · go_wp2_with fail
    refine (Edit.alive _).mono ?_
    rintro e w5 ⟨rfl, hb5⟩
    go_wp2
    go_ret
    exact ⟨rfl, HW4.out.trans (hb5.mono HW4.out.size)⟩

end Go.Proofs.YtbkpnffgihjikaaDoor.EditbufActs

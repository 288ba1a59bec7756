/- PasteActs, the walk: of any calls each answer is the document's, whether a paste is begun, and over, how much waits, and the buffer. -/
import Derived.Test.YtbkpnffgihjikaaDoorGA
import Derived.Test.YtbkpnffgihjikaaDoorGP
import Derived.Test.YtbkpnffgihjikaaDoorHPActIn
import Derived.Test.YtbkpnffgihjikaaDoorHRS
import Derived.Deep.CutBlock
import Derived.Deep.DeepCutAuto
set_option linter.unusedVariables false
set_option linter.unusedSimpArgs false
namespace Go.Proofs.YtbkpnffgihjikaaDoor.PasteActs
open Go.RowKit Go.Lib Go.Shelf ChangeShapes Mem Utf UtfP Edit Law

attribute [local go_sem] strOf_toList strOf_append strOf_size
attribute [local go_sem ↓] conv_str

abbrev S8 (s a c b a2 c2 r q : Nat) : List Nat := [s, a, c, b, a2, c2, r, q]
structure Far (s a c b a2 c2 r q : Nat) : Prop where
  r' : r ≠ s ∧ r ≠ a ∧ r ≠ c ∧ r ≠ b ∧ r ≠ a2 ∧ r ≠ c2
  q' : q ≠ s ∧ q ≠ a ∧ q ≠ c ∧ q ≠ b ∧ q ≠ a2 ∧ q ≠ c2
  qr : q ≠ r

/-- the stage and the buffer, and the document's -/
structure Tri (w : World) (s a c b a2 c2 r q N M : Nat) (L : List Int) (bg ov : Bool) (A B : List Int) : Prop where
  pb : Pb w s a c N L bg ov b a2 c2 M A B
  rb : RB w (S8 s a c b a2 c2 r q) r M A B
  rs : RSt w (S8 s a c b a2 c2 r q) q N L bg ov
  fa : Far s a c b a2 c2 r q

section
variable {w w0 w1 w2 : World} {s a c b a2 c2 r q N M : Nat} {L L' A B A' B' : List Int} {bg ov bg' ov' : Bool}
theorem Pb.past {T : List Nat} (h : Pb w1 s a c N L bg ov b a2 c2 M A B) (hb : But T w1 w2) (hT : ∀ k ∈ [s, a, c, b, a2, c2], k ∉ T) : Pb w2 s a c N L bg ov b a2 c2 M A B :=
  ⟨h.sg.but hb (hT _ (by simp)) (hT _ (by simp)) (hT _ (by simp)), h.ed.but hb (hT _ (by simp)) (hT _ (by simp)) (hT _ (by simp)), h.ap⟩
theorem Tri.below (h : Tri w1 s a c b a2 c2 r q N M L bg ov A B) (hb : Below w1.heap.size w1 w2) : Tri w2 s a c b a2 c2 r q N M L bg ov A B :=
  ⟨h.pb.below hb, h.rb.below hb, h.rs.below hb, h.fa⟩
theorem Tri.drewN (h : Tri w1 s a c b a2 c2 r q N M L bg ov A B) (n : Nat) : Tri (w1.drewN n) s a c b a2 c2 r q N M L bg ov A B :=
  ⟨Pb.past h.pb (But.drewN (S := []) w1 n) (by simp), h.rb.but (But.drewN (S := []) w1 n) (by simp) (by simp), h.rs.but (But.drewN (S := []) w1 n) (by simp) (by simp), h.fa⟩
theorem Tri.drew (h : Tri w1 s a c b a2 c2 r q N M L bg ov A B) : Tri w1.drew s a c b a2 c2 r q N M L bg ov A B := h.drewN 1
theorem Tri.st1 (h : Tri w0 s a c b a2 c2 r q N M L bg ov A B) (hb : But [s, a, c] w0 w1) : RSt w1 (S8 s a c b a2 c2 r q) q N L bg ov :=
  h.rs.but hb (by simp [S8]) (by have := h.fa.q'; simp; omega)
theorem Tri.rb1 (h : Tri w0 s a c b a2 c2 r q N M L bg ov A B) (hb : But [b, a2, c2] w0 w1) : RB w1 (S8 s a c b a2 c2 r q) r M A B :=
  h.rb.but hb (by simp [S8]) (by have := h.fa.r'; simp; omega)
theorem Tri.stage (h : Tri w0 s a c b a2 c2 r q N M L bg ov A B) (hs : Stg w1 s a c N L' bg' ov') (hb1 : But [s, a, c] w0 w1) (hrs : RSt w2 (S8 s a c b a2 c2 r q) q N L' bg' ov') (hb2 : But [q] w1 w2) :
    Tri w2 s a c b a2 c2 r q N M L' bg' ov' A B ∧ But (S8 s a c b a2 c2 r q) w0 w2 := by
  have hq := h.fa.q'
  have hr := h.fa.r'
  have hqr := h.fa.qr
  exact ⟨⟨Pb.past (h.pb.stage hs hb1) hb2 (by simp; omega), (h.rb.but hb1 (by simp [S8]) (by simp; omega)).but hb2 (by simp [S8]) (by simp; omega), hrs, h.fa⟩, (hb1.mono (by simp [S8])).trans (hb2.mono (by simp [S8]))⟩
theorem Tri.buf (h : Tri w0 s a c b a2 c2 r q N M L bg ov A B) (he : Ed w1 b a2 c2 M A' B') (hb1 : But [b, a2, c2] w0 w1) (hrb : RB w2 (S8 s a c b a2 c2 r q) r M A' B') (hb2 : But [r] w1 w2) :
    Tri w2 s a c b a2 c2 r q N M L bg ov A' B' ∧ But (S8 s a c b a2 c2 r q) w0 w2 := by
  have hq := h.fa.q'
  have hr := h.fa.r'
  have hqr := h.fa.qr
  exact ⟨⟨Pb.past (h.pb.buffer he hb1) hb2 (by simp; omega), hrb, (h.rs.but hb1 (by simp [S8]) (by simp; omega)).but hb2 (by simp [S8]) (by simp; omega), h.fa⟩, (hb1.mono (by simp [S8])).trans (hb2.mono (by simp [S8]))⟩
theorem Tri.fin (h : Tri w0 s a c b a2 c2 r q N M L bg ov A B) (hp : Pb w1 s a c N L' bg' ov' b a2 c2 M A' B') (hb1 : But [s, a, c, b, a2, c2] w0 w1) (hrs : RSt w2 (S8 s a c b a2 c2 r q) q N L' bg' ov') (hrb : RB w2 (S8 s a c b a2 c2 r q) r M A' B') (hb2 : But [q, r] w1 w2) :
    Tri w2 s a c b a2 c2 r q N M L' bg' ov' A' B' ∧ But (S8 s a c b a2 c2 r q) w0 w2 := by
  have hq := h.fa.q'
  have hr := h.fa.r'
  have hqr := h.fa.qr
  exact ⟨⟨Pb.past hp hb2 (by simp; omega), hrb, hrs, h.fa⟩, (hb1.mono (by simp [S8])).trans (hb2.mono (by simp [S8]))⟩
theorem Tri.lens (h : Tri w0 s a c b a2 c2 r q N M L bg ov A B) : A.length + B.length ≤ M ∧ L.length ≤ N := by
  have h1 := encs_len A
  have h2 := encs_len B
  have h3 := h.pb.ed.buf.ar.fit
  have h4 := encs_len L
  have h5 := h.pb.sg.st.ar.fit
  rw [List.length_append] at h3
  omega
end

def RV (w : World) (s a c b a2 c2 r q N M n : Nat) (i : Value) (wr : World) : Prop :=
  ∃ (j : Nat) (L : List Int) (bg ov : Bool) (A B : List Int), i = .int .i64 (j : Int) ∧ j ≤ n ∧ Tri wr s a c b a2 c2 r q N M L bg ov A B ∧ Below w.heap.size w wr
/-- behind a call -/
def RC (w : World) (s a c b a2 c2 r q N M j : Nat) (e f i : Value) (wr : World) : Prop :=
  ∃ (er : Int) (L : List Int) (bg ov : Bool) (A B : List Int), e = .int .i64 er ∧ f = .int .i64 er ∧ i = .int .i64 (j : Int) ∧ Tri wr s a c b a2 c2 r q N M L bg ov A B ∧ Below w.heap.size w wr

theorem pact_cells {w : World} {g off : Nat} {rs : List PRow} (h : ∀ j r, rs[j]? = some r → ∀ i v, (PRow.cells r)[i]? = some v → w.cell? ⟨g, off + j * 2 + i, none⟩ = some v) {j : Nat} {r : PRow} (hr : rs[j]? = some r) :
    w.cell? ⟨g, off + j * 2, none⟩ = some (.int .i64 r.k) ∧ w.cell? ⟨g, off + j * 2 + 1, none⟩ = some (.int .i64 r.c) :=
  ⟨h j r hr 0 _ rfl, h j r hr 1 _ rfl⟩

set_option maxRecDepth 200000 in
set_option maxHeartbeats 4000000 in
theorem walk (x y : Int) (rs : List PRow) (Q : Option Addr) (cap : Nat) (w : World) (hT : Tabs w) (_ : (Lit.int .i64 x).wf = true) (_ : (Lit.int .i64 y).wf = true) (hA : RowsAt w 2 PRow.cells Q rs) (hcap : rs.length ≤ cap) (hm : rs.length ≤ 17592186044416) (hwf : ∀ r ∈ rs, (Lit.int .i64 r.k).wf = true ∧ (Lit.int .i64 r.c).wf = true) :
    Calls Tryd.prog 13 #[.int .i64 x, .int .i64 y, .slice Q rs.length cap] w fun e w' => e = .returned (.bool true) ∧ Below w.heap.size w w' := by
  have HT := Lib.hid hT
  have HA := Lib.hid hA
  clear hT hA hwf
  have hN := szE_bd (m := 100) x (by decide) (by decide)
  have hM := szE_bd (m := 100) y (by decide) (by decide)
  have HSX := Lib.hid (fun W => sizeP_c x W)
  have HSY := Lib.hid (fun W => sizeP_c y W)
  generalize szE 100 x = N at *
  generalize szE 100 y = M at *
  go_enter Tryd.func13, Tryd.ntmps13
  go_wp2_with (first
    | (go_at_call 52; (with_reducible refine (HSX.out _).mono ?_); rintro e w0 ⟨rfl, hq⟩; obtain rfl := hq.symm)
    | (go_at_call 52; (with_reducible refine (HSY.out _).mono ?_); rintro e w0 ⟨rfl, hq⟩; obtain rfl := hq.symm)
    | fail)
  refine (beginP_c N M hN.1 hN.2 hM.1 hM.2 w).mono ?_
  rintro e w1 ⟨s, a, c, b, a2, c2, rfl, hl, hpb, hb1⟩
  have HL := Lib.hid hl
  have HW1 := Lib.hid hb1
  have HP1 := Lib.hid hpb
  clear hl hpb hb1
  go_wp2_with fail
  refine (Edit.aliveP _ (HT.out.below HW1.out)).mono ?_
  rintro e w3 ⟨rfl, hb3⟩
  have HP3 : Hid (Pb w3 s a c N [] false false b a2 c2 M [] []) := HP1.out.below hb3
  have HW3 : Hid (Below w.heap.size w w3) := HW1.out.trans (hb3.mono HW1.out.size)
  clear hb3
  by_cases hgr : rs.length ≤ 300
  · have k1 : decide (300 < (rs.length : Int)) = false := by simp; omega
    have hlt6 := And.intro (And.intro HP3.out.sg.st.head.lt HP3.out.sg.st.ar.head.lt) (And.intro (And.intro HP3.out.sg.st.ar.body.lt HP3.out.ed.buf.head.lt) (And.intro HP3.out.ed.buf.ar.head.lt HP3.out.ed.buf.ar.body.lt))
    have HLT := Lib.hid hlt6
    obtain ⟨q, hq⟩ : ∃ q, q = w3.heap.size := ⟨_, rfl⟩
    obtain ⟨o1, ho1⟩ : ∃ o : Obj, o = .cells #[.slice none 0 0, .int .i64 (N : Int), .bool false, .bool false] 85 := ⟨_, rfl⟩
    obtain ⟨r, hr⟩ : ∃ r, r = (w3.alloc o1).heap.size := ⟨_, rfl⟩
    have hr1 : r = w3.heap.size + 1 := by rw [hr]; first | exact Array.size_push _ | simp only [World.alloc, Array.size_push]
    have HQ := Lib.hid hq
    have HO1 := Lib.hid ho1
    have HR := Lib.hid hr
    have HR1 := Lib.hid hr1
    clear hlt6 hq ho1 hr hr1
    go_wp2_with (first
      | (go_at_call 52; (with_reducible refine (HSX.out _).mono ?_); rintro e w0 ⟨rfl, hq⟩; obtain rfl := hq.symm)
      | (go_at_call 52; (with_reducible refine (HSY.out _).mono ?_); rintro e w0 ⟨rfl, hq⟩; obtain rfl := hq.symm)
      | fail)
    rw [← HO1.out, ← HR1.out, ← HQ.out]
    go_loopw [52] (fun i wr => RV w s a c b a2 c2 r q N M rs.length i wr) (fun i _ => rs.length - (RowKit.intOf i).toNat)
    case atStart =>
      have hal : Below w3.heap.size w3 (w3.alloc o1) := (Below.refl _ _).alloc (Nat.le_refl _) _
      have hal2 : Below (w3.alloc o1).heap.size (w3.alloc o1) ((w3.alloc o1).alloc (.cells #[.slice none 0 0, .slice none 0 0, .int .i64 (M : Int)] 60)) := (Below.refl _ _).alloc (Nat.le_refl _) _
      have hal3 : Below w3.heap.size w3 ((w3.alloc o1).alloc (.cells #[.slice none 0 0, .slice none 0 0, .int .i64 (M : Int)] 60)) := hal.trans (hal2.mono hal.size)
      have hq := HQ.out
      have hr := HR.out
      have hr1 := HR1.out
      have hsz : ((w3.alloc o1).alloc (.cells #[.slice none 0 0, .slice none 0 0, .int .i64 (M : Int)] 60)).heap.size = r + 1 := by rw [hr]; exact Array.size_push _
      have h6 := HLT.out
      refine ⟨0, [], false, false, [], [], rfl, by omega, ⟨HP3.out.below hal3, ⟨⟨none, 0, none, 0, ?_, Row.nil _ _ _ _, Row.nil _ _ _ _⟩, ?_, by simp [S8]⟩, ⟨⟨none, 0, ?_, Row.nil _ _ _ _⟩, ?_, by simp [S8]⟩, ⟨by omega, by omega, by omega⟩⟩, HW3.out.trans (hal3.mono HW3.out.size)⟩
      · rw [hr]; exact Blk.new _ _ _
      · intro k hk
        rw [hsz]
        simp [S8] at hk
        omega
      · have hb0 : Blk (w3.alloc o1) q #[.slice none 0 0, .int .i64 (N : Int), .bool false, .bool false] 85 := by rw [hq, HO1.out]; exact Blk.new _ _ _
        exact hb0.alloc _
      · intro k hk
        rw [hsz]
        simp [S8] at hk
        omega
    case round =>
      obtain ⟨j, L, bg, ov, A, B, rfl, hj, htri, hbw⟩ := hrel
      have HTR := Lib.hid htri
      have HBW := Lib.hid hbw
      clear htri hbw
      by_cases hlt : j < rs.length
      · have k0 : (j : Int) < (rs.length : Int) := by omega
        obtain ⟨r', hr'⟩ : ∃ r, rs[j]? = some r := ⟨_, List.getElem?_eq_getElem hlt⟩
        obtain ⟨g, off, rfl, hgl, hcell⟩ := HA.out (List.length_pos_iff.1 (by omega : 0 < rs.length))
        obtain ⟨q0, q1⟩ := pact_cells hcell hr'
        have e0 : wr.cell? ⟨g, off + j * 2, none⟩ = some (.int .i64 r'.k) := by rw [HBW.out.cell hgl]; exact q0
        have e1 : wr.cell? ⟨g, off + j * 2 + 1, none⟩ = some (.int .i64 r'.c) := by rw [HBW.out.cell hgl]; exact q1
        obtain ⟨k, kc⟩ := r'
        simp only at e0 e1
        clear q0 q1 hcell hgl hr'
        obtain ⟨o, ho⟩ : ∃ o : Obj, o = .cells #[.int .i64 k, .int .i64 kc] 86 := ⟨_, rfl⟩
        have hwo : Below wr.heap.size wr (wr.alloc o) := (Below.refl _ _).alloc (Nat.le_refl _) _
        have HWO : Hid (Below w.heap.size w (wr.alloc o)) := HBW.out.trans (hwo.mono HBW.out.size)
        have HTO : Hid (Tri (wr.alloc o) s a c b a2 c2 r q N M L bg ov A B) := HTR.out.below hwo
        have hbo : Blk (wr.alloc o) wr.heap.size #[.int .i64 k, .int .i64 kc] 86 := by rw [ho]; exact Blk.new _ _ _
        have HO := Lib.hid ho
        have HBO := Lib.hid hbo
        have hlens := HTR.out.lens
        have hA4 : A.length ≤ 1099511627776 := by have := hM.2; omega
        have hB4 : B.length ≤ 1099511627776 := by have := hM.2; omega
        have hL4 : L.length ≤ 17592186044 := by have := hN.2; omega
        have HL4 := Lib.hid (And.intro hL4 (And.intro hA4 hB4))
        have hxb : wr.heap.size ∉ S8 s a c b a2 c2 r q := fun h => Nat.lt_irrefl _ (HTR.out.rb.lt _ h)
        have HXB := Lib.hid hxb
        clear ho hwo hbo hlens hA4 hB4 hL4 hxb
        go_upto_block 2 with fail
        rw [← HO.out]
        obtain ⟨wo, hwo⟩ : ∃ wo, wr.alloc o = wo := ⟨_, rfl⟩
        rw [hwo] at HWO HTO HBO ⊢
        obtain ⟨xb, hxb⟩ : ∃ xb, wr.heap.size = xb := ⟨_, rfl⟩
        rw [hxb] at HBO HXB ⊢
        clear hwo hxb
        go_cut [14, 15, 52] from 52 to 168 (fun e f i wx => RC w s a c b a2 c2 r q N M j e f i wx)
        case first =>
          have d0 := HBO.out.cell (j := 0) (v := .int .i64 k) rfl
          have d1 := HBO.out.cell (j := 1) (v := .int .i64 kc) rfl
          have HMEET : Hid (∀ (W : World) (er : Int) (L' : List Int) (bg' ov' : Bool) (A' B' : List Int), Tri W s a c b a2 c2 r q N M L' bg' ov' A' B' ∧ But (S8 s a c b a2 c2 r q) wo W → RC w s a c b a2 c2 r q N M j (.int .i64 er) (.int .i64 er) (.int .i64 (j : Int)) W) := fun W er L' bg' ov' A' B' h => ⟨er, L', bg', ov', A', B', rfl, rfl, rfl, h.1, HWO.out.trans (h.2.below HWO.out.size (by have := HL.out; have := HW3.out.size; have := HQ.out; have := HR1.out; simp [S8]; omega))⟩
          have HXC : Hid (∀ W, But (S8 s a c b a2 c2 r q) wo W → W.cell? ⟨xb, 0, none⟩ = some (.int .i64 k) ∧ W.cell? ⟨xb, 1, none⟩ = some (.int .i64 kc)) := fun W hW => by
            have hb := HBO.out.but hW HXB.out
            exact ⟨hb.cell rfl, hb.cell rfl⟩
          by_cases c0 : k = 0
          · subst c0
            have H1 := Lib.hid (start_any wo HTO.out.pb.sg)
            obtain ⟨er, her⟩ : ∃ er : Int, (if bg = true then (11 : Int) else 0) = er := ⟨_, rfl⟩
            have H2 : Hid (∀ W, But [s, a, c] wo W → Calls Tryd.prog 56 #[.pointer (some ⟨q, 0, none⟩)] W fun e w' => e = .returned (.int .i64 er) ∧ RSt w' (S8 s a c b a2 c2 r q) q N L true ov ∧ But [q] W w') := fun W hW => by
              have := refStart W (HTO.out.st1 hW)
              rwa [her] at this
            rw [her] at H1
            clear her d0 d1
            go_wp2_with fail
            refine (H1.out).mono ?_
            rintro e w5 ⟨rfl, hst5, hbt5⟩
            have HST5 := Lib.hid hst5
            have HBT5 := Lib.hid hbt5
            clear hst5 hbt5
            go_wp2_with fail
            refine (H2.out _ HBT5.out).mono ?_
            rintro e w6 ⟨rfl, hrs6, hbt6⟩
            have HRS6 := Lib.hid hrs6
            have HBT6 := Lib.hid hbt6
            clear hrs6 hbt6
            go_wp2
            go_meet
            exact HMEET.out _ _ _ _ _ _ _ (HTO.out.stage HST5.out HBT5.out HRS6.out HBT6.out)
          · have c0' : (k == 0) = false := by simpa using c0
            by_cases c1 : k = 1
            · subst c1
              have H1 := Lib.hid (add_any kc wo.drew (HTO.out.drew.pb.sg))
              obtain ⟨er, her⟩ : ∃ er, (addE N kc L bg ov).1 = er := ⟨_, rfl⟩
              obtain ⟨L', hL'⟩ : ∃ L', (addE N kc L bg ov).2.1 = L' := ⟨_, rfl⟩
              obtain ⟨o', ho'⟩ : ∃ o', (addE N kc L bg ov).2.2 = o' := ⟨_, rfl⟩
              have H2 : Hid (∀ W, But [s, a, c] wo.drew W → Calls Tryd.prog 57 #[.pointer (some ⟨q, 0, none⟩), .int .i64 kc] W fun e w' => e = .returned (.int .i64 er) ∧ RSt w' (S8 s a c b a2 c2 r q) q N L' bg o' ∧ But [q] W w') := fun W hW => by
                have := refAddS kc W (HTO.out.drew.st1 hW) HTO.out.pb.sg.pr HL4.out.1
                rwa [her, hL', ho'] at this
              rw [her, hL', ho'] at H1
              have hd0 : But (S8 s a c b a2 c2 r q) wo wo.drew := (But.refl _ _).drew
              clear her hL' ho' d0 d1
              have x0 := (HXC.out wo (But.refl _ _)).1
              go_wp2
              go_region_held_law (fun W => But (S8 s a c b a2 c2 r q) wo W ∧ W.cell? ⟨xb, 1, none⟩ = some (.int .i64 kc))
                (first | with_reducible exact ⟨HBT6.out, (HXC.out _ HBT6.out).2⟩ | with_reducible exact ⟨HBT5.out, (HXC.out _ HBT5.out).2⟩ | with_reducible exact ⟨hd0, (HXC.out _ hd0).2⟩) (first
                | (go_at_call 16; (with_reducible refine (H1.out).mono ?_); rintro e w5 ⟨rfl, hst5, hbt5⟩; have HST5 := Lib.hid hst5; have HBD5 := Lib.hid hbt5; have HBT5 : Hid (But (S8 s a c b a2 c2 r q) wo w5) := hd0.trans (hbt5.mono (by simp [S8])); clear hst5 hbt5)
                | (go_at_call 57; (with_reducible refine (H2.out _ HBD5.out).mono ?_); rintro e w6 ⟨rfl, hrs6, hbt6⟩; have HRS6 := Lib.hid hrs6; have HBD6 := Lib.hid hbt6; have HBT6 : Hid (But (S8 s a c b a2 c2 r q) wo w6) := HBT5.out.trans (hbt6.mono (by simp [S8])); clear hrs6 hbt6))
              go_wp2
              go_meet
              exact HMEET.out _ _ _ _ _ _ _ ⟨(HTO.out.drew.stage HST5.out HBD5.out HRS6.out HBD6.out).1, HBT6.out⟩
            · have c1' : (k == 1) = false := by simpa using c1
              by_cases c2' : k = 2
              · subst c2'
                have H1 := Lib.hid (end_any wo (HT.out.below HWO.out) HTO.out.pb)
                obtain ⟨er, her⟩ : ∃ er, (endE M L bg ov A B).1 = er := ⟨_, rfl⟩
                obtain ⟨A', hA'⟩ : ∃ A', (endE M L bg ov A B).2 = A' := ⟨_, rfl⟩
                obtain ⟨L', hL'⟩ : ∃ L', (if bg = true then [] else L) = L' := ⟨_, rfl⟩
                obtain ⟨o', ho'⟩ : ∃ o', (if bg = true then false else ov) = o' := ⟨_, rfl⟩
                have H2 : Hid (∀ W, But [s, a, c, b, a2, c2] wo W → Calls Tryd.prog 58 #[.pointer (some ⟨q, 0, none⟩), .pointer (some ⟨r, 0, none⟩)] W fun e w' => e = .returned (.int .i64 er) ∧ RSt w' (S8 s a c b a2 c2 r q) q N L' false o' ∧ RB w' (S8 s a c b a2 c2 r q) r M A' B ∧ But [q, r] W w') := fun W hW => by
                  have := refEnd W (by have := HTO.out.fa.qr; simp; exact this) (by have := HTO.out.fa.qr; simp; omega) (HTO.out.rs.but hW (by simp [S8]) (by have := HTO.out.fa.q'; simp; omega)) HTO.out.pb.sg.pr HL4.out.1 (HTO.out.rb.but hW (by simp [S8]) (by have := HTO.out.fa.r'; simp; omega)) HL4.out.2.1 HL4.out.2.2 hM.2 HTO.out.pb.ed.pr
                  rwa [her, hA', hL', ho'] at this
                rw [her, hA', hL', ho'] at H1
                clear her hA' hL' ho' d0 d1
                go_wp2_with fail
                refine (H1.out).mono ?_
                rintro e w5 ⟨rfl, hpb5, hbt5⟩
                have HPB5 := Lib.hid hpb5
                have HBT5 := Lib.hid hbt5
                clear hpb5 hbt5
                go_wp2_with fail
                refine (H2.out _ HBT5.out).mono ?_
                rintro e w6 ⟨rfl, hrs6, hrb6, hbt6⟩
                have HRS6 := Lib.hid hrs6
                have HRB6 := Lib.hid hrb6
                have HBT6 := Lib.hid hbt6
                clear hrs6 hrb6 hbt6
                go_wp2
                go_meet
                exact HMEET.out _ _ _ _ _ _ _ (HTO.out.fin HPB5.out HBT5.out HRS6.out HRB6.out HBT6.out)
              · have c2'' : (k == 2) = false := by simpa using c2'
                by_cases c3 : k = 3
                · subst c3
                  have H1 := Lib.hid (drop_any wo HTO.out.pb.sg)
                  have H2 : Hid (∀ W, But [s, a, c] wo W → Calls Tryd.prog 59 #[.pointer (some ⟨q, 0, none⟩)] W fun e w' => e = .returned (.tuple #[]) ∧ RSt w' (S8 s a c b a2 c2 r q) q N [] false false ∧ But [q] W w') := fun W hW => refDrop W (HTO.out.st1 hW)
                  clear d0 d1
                  go_wp2_with fail
                  refine (H1.out).mono ?_
                  rintro e w5 ⟨rfl, hst5, hbt5⟩
                  have HST5 := Lib.hid hst5
                  have HBT5 := Lib.hid hbt5
                  clear hst5 hbt5
                  go_wp2_with fail
                  refine (H2.out _ HBT5.out).mono ?_
                  rintro e w6 ⟨rfl, hrs6, hbt6⟩
                  have HRS6 := Lib.hid hrs6
                  have HBT6 := Lib.hid hbt6
                  clear hrs6 hbt6
                  go_wp2
                  go_meet
                  exact HMEET.out _ _ _ _ _ _ _ (HTO.out.stage HST5.out HBT5.out HRS6.out HBT6.out)
                · have c3' : (k == 3) = false := by simpa using c3
                  by_cases c4 : k = 4
                  · subst c4
                    have H1 := Lib.hid (put_any kc wo.drew (HTO.out.drew.pb.ed))
                    obtain ⟨A', hA'⟩ : ∃ A', (runeE M kc A B).2 = A' := ⟨_, rfl⟩
                    obtain ⟨er, her⟩ : ∃ er, (runeE M kc A B).1 = er := ⟨_, rfl⟩
                    have H2 : Hid (∀ W, But [b, a2, c2] wo.drew W → Calls Tryd.prog 41 #[.pointer (some ⟨r, 0, none⟩), .int .i64 kc] W fun e w' => e = .returned (.int .i64 er) ∧ RB w' (S8 s a c b a2 c2 r q) r M A' B ∧ But [r] W w') := fun W hW => by
                      have := refPutB kc W (HTO.out.drew.rb1 hW) HL4.out.2.1 HL4.out.2.2 hM.2 HTO.out.pb.ed.pr
                      rwa [hA', her] at this
                    rw [hA', her] at H1
                    have hd0 : But (S8 s a c b a2 c2 r q) wo wo.drew := (But.refl _ _).drew
                    clear hA' her d0 d1
                    have x0 := (HXC.out wo (But.refl _ _)).1
                    go_wp2
                    go_region_held_law (fun W => But (S8 s a c b a2 c2 r q) wo W ∧ W.cell? ⟨xb, 1, none⟩ = some (.int .i64 kc))
                      (first | with_reducible exact ⟨HBT6.out, (HXC.out _ HBT6.out).2⟩ | with_reducible exact ⟨HBT5.out, (HXC.out _ HBT5.out).2⟩ | with_reducible exact ⟨hd0, (HXC.out _ hd0).2⟩) (first
                      | (go_at_call 40; (with_reducible refine (H1.out).mono ?_); rintro e w5 ⟨rfl, hed5, hbt5⟩; have HED5 := Lib.hid hed5; have HBD5 := Lib.hid hbt5; have HBT5 : Hid (But (S8 s a c b a2 c2 r q) wo w5) := hd0.trans (hbt5.mono (by simp [S8])); clear hed5 hbt5)
                      | (go_at_call 41; (with_reducible refine (H2.out _ HBD5.out).mono ?_); rintro e w6 ⟨rfl, hrb6, hbt6⟩; have HRB6 := Lib.hid hrb6; have HBD6 := Lib.hid hbt6; have HBT6 : Hid (But (S8 s a c b a2 c2 r q) wo w6) := HBT5.out.trans (hbt6.mono (by simp [S8])); clear hrb6 hbt6))
                    go_wp2
                    go_meet
                    exact HMEET.out _ _ _ _ _ _ _ ⟨(HTO.out.drew.buf HED5.out HBD5.out HRB6.out HBD6.out).1, HBT6.out⟩
                  · have c4' : (k == 4) = false := by simpa using c4
                    by_cases c5 : k = 5
                    · subst c5
                      have H1 := Lib.hid (do_any 4 0 wo HTO.out.pb.ed)
                      have H2 : Hid (∀ W, But [b, a2, c2] wo W → Calls Tryd.prog 39 #[.pointer (some ⟨r, 0, none⟩), .agg #[.int .i64 4, .int .i64 0]] W fun e w' => e = .returned (.tuple #[.bool (doE M 4 0 A B).2.2.1, .int .i64 (doE M 4 0 A B).2.2.2]) ∧ RB w' (S8 s a c b a2 c2 r q) r M (doE M 4 0 A B).1 (doE M 4 0 A B).2.1 ∧ But [r] W w') := fun W hW => refDo_any 4 0 W (HTO.out.rb1 hW) HL4.out.2.1 HL4.out.2.2 hM.2 HTO.out.pb.ed.pr
                      obtain ⟨A', hA'⟩ : ∃ A', (doE M 4 0 A B).1 = A' := ⟨_, rfl⟩
                      obtain ⟨B', hB'⟩ : ∃ B', (doE M 4 0 A B).2.1 = B' := ⟨_, rfl⟩
                      obtain ⟨z, hz⟩ : ∃ z, (doE M 4 0 A B).2.2.1 = z := ⟨_, rfl⟩
                      obtain ⟨er, her⟩ : ∃ er, (doE M 4 0 A B).2.2.2 = er := ⟨_, rfl⟩
                      rw [hA', hB', hz, her] at H1 H2
                      clear hA' hB' hz her d0 d1
                      go_wp2_with fail
                      refine (H1.out).mono ?_
                      rintro e w5 ⟨rfl, hed5, hbt5⟩
                      have HED5 := Lib.hid hed5
                      have HBT5 := Lib.hid hbt5
                      clear hed5 hbt5
                      go_wp2_with fail
                      refine (H2.out _ HBT5.out).mono ?_
                      rintro e w6 ⟨rfl, hrb6, hbt6⟩
                      have HRB6 := Lib.hid hrb6
                      have HBT6 := Lib.hid hbt6
                      clear hrb6 hbt6
                      go_wp2
                      go_meet
                      exact HMEET.out _ _ _ _ _ _ _ (HTO.out.buf HED5.out HBT5.out HRB6.out HBT6.out)
                    · have c5' : (k == 5) = false := by simpa using c5
                      go_wp2
                      go_meet
                      exact HMEET.out _ _ _ _ _ _ _ ⟨HTO.out, But.refl _ _⟩
        case rest =>
          obtain ⟨er, L', bg', ov', A', B', rfl, rfl, rfl, htri, hbw⟩ := hcut
          have HT5 := Lib.hid htri
          have HBW5 := Lib.hid hbw
          clear htri hbw
          obtain ⟨t, ht⟩ : ∃ t, encs A' ++ encs B' = t := ⟨_, rfl⟩
          obtain ⟨p, hp⟩ : ∃ p, A'.length = p := ⟨_, rfl⟩
          obtain ⟨nl, hnl⟩ : ∃ n, (encs L').length = n := ⟨_, rfl⟩
          have hlens := HT5.out.lens
          have hA4' : A'.length ≤ 1099511627776 := by have := hM.2; omega
          have hB4' : B'.length ≤ 1099511627776 := by have := hM.2; omega
          have hL4' : L'.length ≤ 1099511627776 := by have := hN.2; omega
          have hrb := HT5.out.rs.ex
          obtain ⟨pl, cl, hq1, hq2⟩ := hrb
          have c0 := hq1.cell (j := 0) (v := .slice pl L'.length cl) rfl
          have hBY : Calls Tryd.prog 54 #[.slice pl L'.length cl] wc fun e w' => ∃ Av cap, e = .returned (.slice Av nl cap) ∧ Below wc.heap.size wc w' := (refBytes L' pl cl wc hq2.at' hL4' (fun c hc => AllPrint.fine HT5.out.pb.sg.pr c hc)).mono fun e w' ⟨v, he, ho, hb⟩ => by
            obtain ⟨Av, n, cap, rfl, hn, _, _⟩ := ho.form'
            refine ⟨Av, cap, ?_, hb⟩
            rw [he, ← hnl, ← hn]
            rfl
          have HBY := Lib.hid hBY
          have HTT := Lib.hid ht
          have HPP := Lib.hid hp
          have HNL := Lib.hid hnl
          have HA4' := Lib.hid (And.intro hA4' hB4')
          clear hq1 hq2 hBY ht hp hnl hlens hA4' hB4' hL4'
          go_wp2_with fail
          refine (HBY.out).mono ?_
          rintro e w6 ⟨Ab, capb, rfl, hb6⟩
          have HT6 : Hid (Tri w6 s a c b a2 c2 r q N M L' bg' ov' A' B') := HT5.out.below hb6
          have HW6 : Hid (Below w.heap.size w w6) := HBW5.out.trans (hb6.mono HBW5.out.size)
          clear hb6 c0
          obtain ⟨pl, cl, g1, g2⟩ := HT6.out.rs.ex
          obtain ⟨pa, ca, pb, cb, f1, f2, f3⟩ := HT6.out.rb.ex
          have x2 := g1.cell (j := 2) (v := .bool bg') rfl
          have x3 := g1.cell (j := 3) (v := .bool ov') rfl
          have y0 := f1.cell (j := 0) (v := .slice pa A'.length ca) rfl
          rw [HPP.out] at y0
          have hqlt := g1.lt
          have hrlt := f1.lt
          have HS : Hid (∀ W, Below w6.heap.size w6 W → Below w6.heap.size w6 W ∧ W.cell? ⟨q, 2, none⟩ = some (.bool bg') ∧ W.cell? ⟨q, 3, none⟩ = some (.bool ov') ∧ W.cell? ⟨r, 0, none⟩ = some (.slice pa p ca)) := fun W hW => ⟨hW, (hW.cell (p := ⟨q, 2, none⟩) hqlt).trans x2, (hW.cell (p := ⟨q, 3, none⟩) hqlt).trans x3, (hW.cell (p := ⟨r, 0, none⟩) hrlt).trans y0⟩
          have hst : ∀ W, Below w6.heap.size w6 W → St W s a c N (encs L') bg' ov' := fun W hW => (HT6.out.below hW).pb.sg.st
          have hed : ∀ W, Below w6.heap.size w6 W → Ed W b a2 c2 M A' B' := fun W hW => (HT6.out.below hW).pb.ed
          have K1 : Hid (∀ W, Below w6.heap.size w6 W → Calls Tryd.prog 29 #[.pointer (some ⟨b, 0, none⟩)] W fun e w' => e = .returned (.string (strOf t)) ∧ Below w6.heap.size w6 w' ∧ Below W.heap.size W w') := fun W hW => by
            have := (hed W hW).buf
            rw [HTT.out] at this
            exact (textP_c W this).mono fun e w' ⟨he, hb⟩ => ⟨he, hW.trans (hb.mono hW.size), hb⟩
          have K2 : Hid (∀ W, Below w6.heap.size w6 W → Calls Tryd.prog 44 #[.pointer (some ⟨r, 0, none⟩)] W fun e w' => ∃ Av cap, e = .returned (.slice Av t.length cap) ∧ BytesAt w' Av t ∧ Below w6.heap.size w6 w') := fun W hW => (refTextB W (HT6.out.below hW).rb HA4'.out.1 HA4'.out.2 HT6.out.pb.ed.pr).mono fun e w' ⟨v, he, ho, hb⟩ => by
            rw [HTT.out] at ho
            obtain ⟨Av, cap, rfl, _, hby, _⟩ := ho.form
            exact ⟨Av, cap, he, hby, hW.trans (hb.mono hW.size)⟩
          have K3 : Hid (∀ W, Below w6.heap.size w6 W → Calls Tryd.prog 18 #[.pointer (some ⟨s, 0, none⟩)] W fun e w' => e = .returned (.bool bg') ∧ Below w6.heap.size w6 w') := fun W hW => (begun_c W (hst W hW)).mono fun e w' ⟨he, hb⟩ => ⟨he, by rw [hb]; exact hW⟩
          have K4 : Hid (∀ W, Below w6.heap.size w6 W → Calls Tryd.prog 19 #[.pointer (some ⟨s, 0, none⟩)] W fun e w' => e = .returned (.bool ov') ∧ Below w6.heap.size w6 w') := fun W hW => (over_c W (hst W hW)).mono fun e w' ⟨he, hb⟩ => ⟨he, by rw [hb]; exact hW⟩
          have K5 : Hid (∀ W, Below w6.heap.size w6 W → Calls Tryd.prog 20 #[.pointer (some ⟨s, 0, none⟩)] W fun e w' => e = .returned (.int .i64 (nl : Int)) ∧ Below w6.heap.size w6 w') := fun W hW => (lenP W (hst W hW)).mono fun e w' ⟨he, hb⟩ => ⟨by rw [he, HNL.out], by rw [hb]; exact hW⟩
          have K6 : Hid (∀ W, Below w6.heap.size w6 W → Calls Tryd.prog 45 #[.pointer (some ⟨a, 0, none⟩)] W fun e w' => e = .returned (.int .i64 (nl : Int)) ∧ Below w6.heap.size w6 w') := fun W hW => (len W (hst W hW).ar).mono fun e w' ⟨he, hb⟩ => ⟨by rw [he, HNL.out], by rw [hb]; exact hW⟩
          have K7 : Hid (∀ W, Below w6.heap.size w6 W → Calls Tryd.prog 36 #[.pointer (some ⟨b, 0, none⟩)] W fun e w' => e = .returned (.int .i64 (p : Int)) ∧ Below w6.heap.size w6 w') := fun W hW => (at_e W (hed W hW)).mono fun e w' ⟨he, hb⟩ => ⟨by rw [he, HPP.out], by rw [hb]; exact hW⟩
          have K8 : Hid (∀ W, Below w6.heap.size w6 W → Calls Tryd.prog 46 #[.pointer (some ⟨a, 0, none⟩)] W fun e w' => e = .returned (.bool true) ∧ Below w6.heap.size w6 w') := fun W hW => (cleanA W (hst W hW).ar).mono fun e w' ⟨he, n, hb⟩ => ⟨he, by rw [hb]; exact Utf.below_drewN hW n⟩
          have hd0 : Below w6.heap.size w6 w6.drew := (Below.refl _ _).drew
          have t1 : (er != er) = false := by simp
          have t2 : ((nl : Int) != (nl : Int)) = false := by simp
          have t4 : ((p : Int) != (p : Int)) = false := by simp
          have t5 : (bg' != bg') = false := by simp
          have t6 : (ov' != ov') = false := by simp
          obtain ⟨_, z2, z3, z0⟩ := HS.out _ hd0
          clear g1 g2 f1 f2 f3 hst hed x2 x3 y0 hrlt hqlt
          go_wp2_with fail
          go_region_held_law (fun W => Below w6.heap.size w6 W ∧ W.cell? ⟨q, 2, none⟩ = some (.bool bg') ∧ W.cell? ⟨q, 3, none⟩ = some (.bool ov') ∧ W.cell? ⟨r, 0, none⟩ = some (.slice pa p ca))
            (exact HS.out _ (by assumption)) (first
            | (go_at_call 29; (with_reducible refine (K1.out _ ?_).mono ?_); (go_split_ands; assumption); rintro e w7 ⟨rfl, hb7, hl7⟩)
            | (go_at_call 44; (with_reducible refine (K2.out _ ?_).mono ?_); (go_split_ands; assumption); rintro e w8 ⟨Av, capv, rfl, hby8, hb8⟩)
            | (go_at_call 18; (with_reducible refine (K3.out _ ?_).mono ?_); (go_split_ands; assumption); rintro e w9 ⟨rfl, hb9⟩)
            | (go_at_call 19; (with_reducible refine (K4.out _ ?_).mono ?_); (go_split_ands; assumption); rintro e w10 ⟨rfl, hb10⟩)
            | (go_at_call 20; (with_reducible refine (K5.out _ ?_).mono ?_); (go_split_ands; assumption); rintro e w11 ⟨rfl, hb11⟩)
            | (go_at_call 45; (with_reducible refine (K6.out _ ?_).mono ?_); (go_split_ands; assumption); rintro e w13 ⟨rfl, hb13⟩)
            | (go_at_call 36; (with_reducible refine (K7.out _ ?_).mono ?_); (go_split_ands; assumption); rintro e w14 ⟨rfl, hb14⟩)
            | (go_at_call 46; (with_reducible refine (K8.out _ ?_).mono ?_); (go_split_ands; assumption); rintro e w12 ⟨rfl, hb12⟩))
          all_goals
            have HT12 : Hid (Tri w12 s a c b a2 c2 r q N M L' bg' ov' A' B') := HT6.out.below hb12
            have HW12 : Hid (Below w.heap.size w w12) := HW6.out.trans (hb12.mono HW6.out.size)
            clear hb12
            go_wp2
            go_roundw
            case rel => exact ⟨j + 1, L', bg', ov', A', B', by go_num, by omega, HT12.out, HW12.out⟩
            case measure => simp [RowKit.intOf]; omega
      · have hge : decide ((j : Int) < (rs.length : Int)) = false := by simp; omega
        have hge' : decide (j < rs.length) = false := by simp; omega
        clear hlt
        go_wp2
        go_ret
        exact ⟨rfl, HBW.out⟩
  · have k1 : decide (300 < (rs.length : Int)) = true := by simp; omega
    go_wp2_with fail
    refine (Edit.aliveP _ (HT.out.below HW3.out)).mono ?_
    rintro e w5 ⟨rfl, hb5⟩
    go_wp2
    go_ret
    exact ⟨rfl, HW3.out.trans (hb5.mono HW3.out.size)⟩

end Go.Proofs.YtbkpnffgihjikaaDoor.PasteActs

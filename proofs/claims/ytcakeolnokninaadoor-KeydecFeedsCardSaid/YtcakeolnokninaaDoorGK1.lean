/- Texts joined: Kd1; Kd2; Kd3; Kd5; Kd6. -/
import Derived.Test.YtcakeolnokninaaDoorGD
import Derived.Deep.QuietTactic
import Derived.BigQuiet
import Derived.Deep.RegionHeldLaw
import Derived.Deep.CutBlock
import Derived.MapKept
/- A decoder of keys, walked: New, Reset, Held, Pastes, Finish, sequence. -/
set_option linter.unusedVariables false
set_option linter.unusedSimpArgs false
namespace Go.Proofs.YtcakeolnokninaaDoor.Edit
open Go.RowKit Go.Lib Go.Shelf ChangeShapes Mem Utf UtfP

theorem Ar.but {S : List Nat} {w w' : World} {a c N : Nat} {t : List UInt8} (h : Ar w a c N t) (hb : But S w w') (ha : a ∉ S) (hc : c ∉ S) : Ar w' a c N t :=
  ⟨h.head.but hb ha, h.body.but hb hc, h.ne, h.fit, h.pos, h.max⟩

/-- A decoder at block d over the arena (a, c, N): the bytes that are held, whether a paste is begun. -/
structure Dc (w : World) (d a c N : Nat) (t : List UInt8) (ps : Bool) : Prop where
  head : Blk w d #[.pointer (some ⟨a, 0, none⟩), .bool ps] 79
  ar : Ar w a c N t
  da : d ≠ a
  dc : d ≠ c

theorem Dc.but {S : List Nat} {w w' : World} {d a c N : Nat} {t : List UInt8} {ps : Bool} (h : Dc w d a c N t ps) (hb : But S w w') (h1 : d ∉ S) (h2 : a ∉ S) (h3 : c ∉ S) : Dc w' d a c N t ps :=
  ⟨h.head.but hb h1, Ar.but h.ar hb h2 h3, h.da, h.dc⟩
theorem Dc.below {w w' : World} {d a c N : Nat} {t : List UInt8} {ps : Bool} (h : Dc w d a c N t ps) (hb : Below w.heap.size w w') : Dc w' d a c N t ps := h.but (But.of_below (S := []) hb) (by simp) (by simp) (by simp)

section
variable {d a c N : Nat} {t : List UInt8} {ps : Bool}

theorem Dc.flag {w : World} (h : Dc w d a c N t ps) (y : Bool) : Dc (w.setCell ⟨d, 1, none⟩ (.bool y)) d a c N t y :=
  ⟨Blk.set h.head 1 _, Ar.but h.ar (But.set (S := [d]) (But.refl _ _) (Or.inl (by simp)) _) (by simp; exact fun e => h.da e.symm) (by simp; exact fun e => h.dc e.symm), h.da, h.dc⟩

theorem capA (w : World) (h : Ar w a c N t) : Calls Tryd.prog 57 #[.pointer (some ⟨a, 0, none⟩)] w fun e w' => e = .returned (.int .i64 (N : Int)) ∧ w' = w := by
  have c0 := h.head.cell (j := 0) (v := .slice (some ⟨c, 0, none⟩) N N) rfl
  clear h
  go_enter Tryd.func57, Tryd.ntmps57
  go_wp2
  go_ret
  exact ⟨rfl, rfl⟩

theorem newD_nil (w : World) : Calls Tryd.prog 37 #[.pointer none] w fun e w' => e = .returned (.tuple #[.pointer none, .int .i64 1]) ∧ w' = w := by
  go_enter Tryd.func37, Tryd.ntmps37
  go_wp2
  go_ret2
  exact ⟨rfl, rfl⟩

theorem newD_small (w : World) (h : Ar w a c N t) (hN : N < 36) :
    Calls Tryd.prog 37 #[.pointer (some ⟨a, 0, none⟩)] w fun e w' => e = .returned (.tuple #[.pointer none, .int .i64 12]) ∧ w' = w := by
  have H1 := Lib.hid (capA w h)
  have k1 : decide ((N : Int) < 36) = true := by simp; omega
  clear h hN
  go_enter Tryd.func37, Tryd.ntmps37
  go_wp2_with (go_at_call 57; refine (H1.out).mono ?_; rintro e w1 ⟨rfl, hq⟩; obtain rfl := hq.symm)
  go_ret2
  exact ⟨rfl, rfl⟩

theorem newD (w : World) (h : Ar w a c N t) (hN : 36 ≤ N) :
    Calls Tryd.prog 37 #[.pointer (some ⟨a, 0, none⟩)] w fun e w' => ∃ d, e = .returned (.tuple #[.pointer (some ⟨d, 0, none⟩), .int .i64 0]) ∧ w.heap.size ≤ d ∧ Dc w' d a c N [] false ∧ But [a, c] w w' := by
  have H := Lib.hid h
  have H0 := Lib.hid (capA w h)
  have H1 := Lib.hid (wipe w h)
  have k1 : decide ((N : Int) < 36) = false := by simp; omega
  clear h hN
  go_enter Tryd.func37, Tryd.ntmps37
  go_wp2_with (first
    | (go_at_call 57; refine (H0.out).mono ?_; rintro e w1 ⟨rfl, hq⟩; obtain rfl := hq.symm)
    | (go_at_call 47; refine (H1.out).mono ?_; rintro e w1 ⟨rfl, har, hb1⟩))
  go_ret2
  have hs := hb1.size
  have h1 := H.out.head.lt
  have h2 := H.out.body.lt
  refine ⟨_, rfl, hs, ⟨Blk.new _ _ _, Ar.but har (But.of_below (S := []) ((Below.refl _ _).alloc (Nat.le_refl _) _)) (by simp) (by simp), by omega, by omega⟩, hb1.alloc _⟩

theorem heldD_nil (w : World) : Calls Tryd.prog 25 #[.pointer none] w fun e w' => e = .returned (.int .i64 0) ∧ w' = w := by
  go_enter Tryd.func25, Tryd.ntmps25
  go_wp2
  go_ret
  exact ⟨rfl, rfl⟩

theorem heldD (w : World) (h : Dc w d a c N t ps) : Calls Tryd.prog 25 #[.pointer (some ⟨d, 0, none⟩)] w fun e w' => e = .returned (.int .i64 (t.length : Int)) ∧ w' = w := by
  have c0 := h.head.cell (j := 0) (v := .pointer (some ⟨a, 0, none⟩)) rfl
  have H1 := Lib.hid (len w h.ar)
  clear h
  go_enter Tryd.func25, Tryd.ntmps25
  go_wp2_with (go_at_call 31; refine (H1.out).mono ?_; rintro e w1 ⟨rfl, hq⟩; obtain rfl := hq.symm)
  go_ret
  exact ⟨rfl, rfl⟩

theorem pastes_nil (w : World) : Calls Tryd.prog 24 #[.pointer none] w fun e w' => e = .returned (.bool false) ∧ w' = w := by
  go_enter Tryd.func24, Tryd.ntmps24
  go_wp2
  go_ret
  exact ⟨rfl, rfl⟩

theorem pastes_c (w : World) (h : Dc w d a c N t ps) : Calls Tryd.prog 24 #[.pointer (some ⟨d, 0, none⟩)] w fun e w' => e = .returned (.bool ps) ∧ w' = w := by
  have c1 := h.head.cell (j := 1) (v := .bool ps) rfl
  clear h
  go_enter Tryd.func24, Tryd.ntmps24
  go_wp2
  go_ret
  exact ⟨rfl, rfl⟩

theorem reset_nil (w : World) : Calls Tryd.prog 26 #[.pointer none] w fun e w' => e = .returned (.tuple #[]) ∧ w' = w := by
  go_enter Tryd.func26, Tryd.ntmps26
  go_wp2
  go_end0
  exact ⟨rfl, rfl⟩

theorem reset_c (w : World) (h : Dc w d a c N t ps) :
    Calls Tryd.prog 26 #[.pointer (some ⟨d, 0, none⟩)] w fun e w' => e = .returned (.tuple #[]) ∧ Dc w' d a c N [] false ∧ But [d, a, c] w w' := by
  have H := Lib.hid h
  have c0 := h.head.cell (j := 0) (v := .pointer (some ⟨a, 0, none⟩)) rfl
  have H1 := Lib.hid (wipe w h.ar)
  clear h
  go_enter Tryd.func26, Tryd.ntmps26
  go_wp2_with (go_at_call 47; refine (H1.out).mono ?_; rintro e w1 ⟨rfl, har, hb1⟩; have hh1 := H.out.head.but hb1 (by simp; exact ⟨H.out.da, H.out.dc⟩); have g1 := hh1.cell (j := 1) (v := .bool ps) rfl; have gf := hh1.free 1; have HH1 := Lib.hid hh1; have HAR := Lib.hid har; have HB1 := Lib.hid hb1; clear hh1 har hb1)
  go_end0
  have hd : Dc w1 d a c N [] ps := ⟨HH1.out, HAR.out, H.out.da, H.out.dc⟩
  exact ⟨rfl, hd.flag false, (HB1.out.mono (by simp)).set (Or.inl (by simp)) _⟩

theorem finish_nil (w : World) : Calls Tryd.prog 28 #[.pointer none] w fun e w' => e = .returned (.tuple #[.slice none 0 0, .int .i64 1]) ∧ w' = w := by
  go_enter Tryd.func28, Tryd.ntmps28
  go_wp2
  go_ret2
  exact ⟨rfl, rfl⟩
end

end Go.Proofs.YtcakeolnokninaaDoor.Edit

/- A decoder of keys, walked: Finish, sequence. -/
set_option linter.unusedVariables false
set_option linter.unusedSimpArgs false
namespace Go.Proofs.YtcakeolnokninaaDoor.Edit
open Go.RowKit Go.Lib Go.Shelf ChangeShapes Mem Utf UtfP

section
variable {d a c N : Nat} {t : List UInt8} {ps : Bool}

theorem finish_none (w : World) (h : Dc w d a c N [] ps) :
    Calls Tryd.prog 28 #[.pointer (some ⟨d, 0, none⟩)] w fun e w' => e = .returned (.tuple #[.slice none 0 0, .int .i64 0]) ∧ w' = w := by
  have c0 := h.head.cell (j := 0) (v := .pointer (some ⟨a, 0, none⟩)) rfl
  have H1 := Lib.hid (at_out 0 w h.ar (by simp))
  clear h
  go_enter Tryd.func28, Tryd.ntmps28
  go_wp2_with (go_at_call 49; refine (H1.out).mono ?_; rintro e w1 ⟨rfl, hq⟩; obtain rfl := hq.symm)
  go_ret2
  exact ⟨rfl, rfl⟩

/-- the key of what is left -/
def lastK (x : Int) : Int × Int := if x = 27 then (15, 0) else (0, 65533)

theorem finish_some (w : World) (h : Dc w d a c N t ps) (ht : 0 < t.length) :
    Calls Tryd.prog 28 #[.pointer (some ⟨d, 0, none⟩)] w fun e w' => ∃ g, e = .returned (.tuple #[.slice (some ⟨g, 0, none⟩) 1 1, .int .i64 0]) ∧ w.heap.size ≤ g ∧
      Blk w' g #[.int .i64 (lastK (bt t 0 : Int)).1, .int .i64 (lastK (bt t 0 : Int)).2] 54 ∧ Dc w' d a c N [] ps ∧ But [a, c] w w' := by
  have H := Lib.hid h
  have c0 := h.head.cell (j := 0) (v := .pointer (some ⟨a, 0, none⟩)) rfl
  have H1 := Lib.hid (at_in 0 w h.ar ht)
  have H2 := Lib.hid (wipe w h.ar)
  obtain ⟨x, hx⟩ : ∃ x, bt t 0 = x := ⟨_, rfl⟩
  rw [hx] at H1 ⊢
  clear h hx ht
  have hda : d ∉ [a, c] := by have := H.out.da; have := H.out.dc; simp; omega
  have h1 := H.out.head.lt
  by_cases hk : x = 27
  · subst hk
    have hl : lastK ((27 : Nat) : Int) = (15, 0) := rfl
    rw [hl]
    go_enter Tryd.func28, Tryd.ntmps28
    go_wp2_with (first
      | (go_at_call 49; refine (H1.out).mono ?_; rintro e w1 ⟨rfl, hq⟩; obtain rfl := hq.symm)
      | (go_at_call 47; refine (H2.out).mono ?_; rintro e w1 ⟨rfl, har, hb1⟩))
    go_ret2
    exact ⟨_, rfl, hb1.size, Blk.new _ _ _, (⟨H.out.head.but hb1 hda, har, H.out.da, H.out.dc⟩ : Dc w1 d a c N [] ps).below ((Below.refl _ _).alloc (Nat.le_refl _) _), hb1.alloc _⟩
  · have hk1 : ((x : Int) == 27) = false := by simp; omega
    have hl : lastK (x : Int) = (0, 65533) := by unfold lastK; rw [if_neg (by omega)]
    rw [hl]
    go_enter Tryd.func28, Tryd.ntmps28
    go_wp2_with (first
      | (go_at_call 49; refine (H1.out).mono ?_; rintro e w1 ⟨rfl, hq⟩; obtain rfl := hq.symm)
      | (go_at_call 47; refine (H2.out).mono ?_; rintro e w1 ⟨rfl, har, hb1⟩))
    go_ret2
    exact ⟨_, rfl, hb1.size, Blk.new _ _ _, (⟨H.out.head.but hb1 hda, har, H.out.da, H.out.dc⟩ : Dc w1 d a c N [] ps).below ((Below.refl _ _).alloc (Nat.le_refl _) _), hb1.alloc _⟩
end

end Go.Proofs.YtcakeolnokninaaDoor.Edit

/- A decoder of keys, walked: sequence. -/
set_option linter.unusedVariables false
set_option linter.unusedSimpArgs false
namespace Go.Proofs.YtcakeolnokninaaDoor.Edit
open Go.RowKit Go.Lib Go.Shelf ChangeShapes Mem Utf UtfP

theorem results_key {P : Program} {fn : Func} {p : Tmp} {ty : TypeId} (h : fn.results = #[.cell p ty]) (tmps : Array Value) (w : World) (g : Nat) (t : TypeId) (cs : Array Value) (d : TypeDesc)
    (hp : tmps.getD p undef = .pointer (some ⟨g, 0, none⟩)) (hg : Blk w g cs t)
    (hu : P.underlying ty = some d) (hd : (match d with | .struct _ | .array _ _ => true | _ => false) = true) (hi : (P.info? ty).map (·.size) = some cs.size) :
    (results fn tmps).run P w = .ok (.agg cs) w := results_cell_row h tmps w g t cs (0, 0) d hp hg hu hd hi

theorem But.drewS (S : List Nat) (w : World) (n : Nat) : But S w (w.drewN n) := ⟨rfl, rfl, rfl, Nat.le_refl _, fun _ _ _ => rfl⟩

/-- the key of a sequence, by whether a paste is begun: the key, whether one is begun then -/
def seqE (ps : Bool) (k kc : Int) : Int × Int × Bool := if ps != (k == 14) then (15, 0, ps) else if k == 13 || k == 14 then (k, kc, !ps) else (k, kc, ps)

section
variable {d a c N : Nat} {t : List UInt8} {ps : Bool}

/-- the two cells that a function over keys begins with -/
theorem two_new {w : World} (h : Dc w d a c N t ps) (k kc : Int) (n : Nat) (W : World) (hW : W = (((w.alloc (.cells #[.int .i64 k, .int .i64 kc] 54)).alloc (.cells #[.int .i64 0, .int .i64 0] 54)).drewN n)) :
    Dc W d a c N t ps ∧ Blk W (w.heap.size + 1) #[.int .i64 0, .int .i64 0] 54 ∧ But [d] w W ∧ d ≠ w.heap.size + 1 := by
  have h1 : Below w.heap.size w (w.alloc (.cells #[.int .i64 k, .int .i64 kc] 54)) := (Below.refl _ _).alloc (Nat.le_refl _) _
  have h2 : Below w.heap.size w ((w.alloc (.cells #[.int .i64 k, .int .i64 kc] 54)).alloc (.cells #[.int .i64 0, .int .i64 0] 54)) := h1.alloc h1.size _
  have hs : (w.alloc (.cells #[.int .i64 k, .int .i64 kc] 54)).heap.size = w.heap.size + 1 := Array.size_push _
  have hb := Blk.new (w.alloc (.cells #[.int .i64 k, .int .i64 kc] 54)) #[.int .i64 0, .int .i64 0] 54
  rw [hs] at hb
  subst hW
  have hlt := h.head.lt
  exact ⟨(h.below h2).but (But.drewS [] _ n) (by simp) (by simp) (by simp), hb.but (But.drewS [] _ n) (by simp), (But.of_below h2).trans (But.drewS _ _ n), by omega⟩

/-- behind the two stores of the result -/
theorem Dc.out {w W : World} (h0 : Dc w d a c N t ps) {ps' : Bool} (h : Dc W d a c N t ps') (hb : But [d] w W) (hs : w.heap.size < W.heap.size) (u v : Value) :
    Dc ((W.setCell ⟨w.heap.size + 1, 0, none⟩ u).setCell ⟨w.heap.size + 1, 1, none⟩ v) d a c N t ps' ∧ But [d] w ((W.setCell ⟨w.heap.size + 1, 0, none⟩ u).setCell ⟨w.heap.size + 1, 1, none⟩ v) := by
  have h1 := h0.head.lt
  have h2 := h0.ar.head.lt
  have h3 := h0.ar.body.lt
  have hbb : But [w.heap.size + 1] W ((W.setCell ⟨w.heap.size + 1, 0, none⟩ u).setCell ⟨w.heap.size + 1, 1, none⟩ v) := ((But.refl _ _).set (Or.inl (by simp)) _).set (Or.inl (by simp)) _
  refine ⟨h.but hbb (by simp; omega) (by simp; omega) (by simp; omega), (hb.set (Or.inr ?_) _).set (Or.inr ?_) _⟩
  · show w.heap.size ≤ w.heap.size + 1; omega
  · show w.heap.size ≤ w.heap.size + 1; omega

set_option maxHeartbeats 1000000 in
theorem sequence_c (k kc : Int) (w : World) (h : Dc w d a c N t ps) :
    Calls Tryd.prog 62 #[.pointer (some ⟨d, 0, none⟩), .agg #[.int .i64 k, .int .i64 kc]] w fun e w' => e = .returned (.agg #[.int .i64 (seqE ps k kc).1, .int .i64 (seqE ps k kc).2.1]) ∧ Dc w' d a c N t (seqE ps k kc).2.2 ∧ But [d] w w' := by
  have H := Lib.hid h
  have c1 := h.head.cell (j := 1) (v := .bool ps) rfl
  have f1 := h.head.free 1
  have hlt := h.head.lt
  clear h
  by_cases k14 : k = 14
  · subst k14
    cases ps
    · have hs : seqE false 14 kc = (15, 0, false) := rfl
      rw [hs]
      go_enter Tryd.func62, Tryd.ntmps62
      go_wp2
      go_quiet (fail)
      go_wp2
      (try simp only [Exit.inBlock, Exit.then])
      obtain ⟨z1, z2, z3, z4⟩ := two_new H.out 14 kc _ _ rfl
      refine bodyPost_ret (results_key rfl _ _ (w.heap.size + 1) 54 _ _ rfl (Blk.set (Blk.set z2 0 _) 1 _) Tryd.underlying54 rfl (by kernel_rfl)) rfl ?_
      exact ⟨rfl, Dc.out H.out z1 z3 (by have := z2.lt; omega) _ _⟩
    · have hs : seqE true 14 kc = (14, kc, false) := rfl
      rw [hs]
      go_enter Tryd.func62, Tryd.ntmps62
      go_wp2
      go_quiet (fail)
      go_wp2
      (try simp only [Exit.inBlock, Exit.then])
      obtain ⟨z1, z2, z3, z4⟩ := two_new H.out 14 kc _ _ rfl
      have z5 := Blk.other z2 (a := ⟨d, 1, none⟩) (fun e => z4 e.symm) (.bool false)
      refine bodyPost_ret (results_key rfl _ _ (w.heap.size + 1) 54 _ _ rfl (Blk.set (Blk.set z5 0 _) 1 _) Tryd.underlying54 rfl (by kernel_rfl)) rfl ?_
      exact ⟨rfl, Dc.out H.out (z1.flag false) (z3.set (Or.inl (by simp)) _) (by have := z5.lt; omega) _ _⟩
  · have hk : (k == 14) = false := by simpa using k14
    cases ps
    · by_cases k13 : k = 13
      · subst k13
        have hs : seqE false 13 kc = (13, kc, true) := rfl
        rw [hs]
        go_enter Tryd.func62, Tryd.ntmps62
        go_wp2
        go_quiet (fail)
        go_wp2
        (try simp only [Exit.inBlock, Exit.then])
        obtain ⟨z1, z2, z3, z4⟩ := two_new H.out 13 kc _ _ rfl
        have z5 := Blk.other z2 (a := ⟨d, 1, none⟩) (fun e => z4 e.symm) (.bool true)
        refine bodyPost_ret (results_key rfl _ _ (w.heap.size + 1) 54 _ _ rfl (Blk.set (Blk.set z5 0 _) 1 _) Tryd.underlying54 rfl (by kernel_rfl)) rfl ?_
        exact ⟨rfl, Dc.out H.out (z1.flag true) (z3.set (Or.inl (by simp)) _) (by have := z5.lt; omega) _ _⟩
      · have hk3 : (k == 13) = false := by simpa using k13
        have hs : seqE false k kc = (k, kc, false) := by unfold seqE; rw [hk, hk3]; rfl
        rw [hs]
        go_enter Tryd.func62, Tryd.ntmps62
        go_wp2
        go_quiet (fail)
        go_wp2
        (try simp only [Exit.inBlock, Exit.then])
        obtain ⟨z1, z2, z3, z4⟩ := two_new H.out k kc _ _ rfl
        refine bodyPost_ret (results_key rfl _ _ (w.heap.size + 1) 54 _ _ rfl (Blk.set (Blk.set z2 0 _) 1 _) Tryd.underlying54 rfl (by kernel_rfl)) rfl ?_
        exact ⟨rfl, Dc.out H.out z1 z3 (by have := z2.lt; omega) _ _⟩
    · have hs : seqE true k kc = (15, 0, true) := by unfold seqE; rw [hk]; rfl
      rw [hs]
      go_enter Tryd.func62, Tryd.ntmps62
      go_wp2
      go_quiet (fail)
      go_wp2
      (try simp only [Exit.inBlock, Exit.then])
      obtain ⟨z1, z2, z3, z4⟩ := two_new H.out k kc _ _ rfl
      refine bodyPost_ret (results_key rfl _ _ (w.heap.size + 1) 54 _ _ rfl (Blk.set (Blk.set z2 0 _) 1 _) Tryd.underlying54 rfl (by kernel_rfl)) rfl ?_
      exact ⟨rfl, Dc.out H.out z1 z3 (by have := z2.lt; omega) _ _⟩
end

end Go.Proofs.YtcakeolnokninaaDoor.Edit

/- The table of sequences that are keys. -/
set_option linter.unusedVariables false
set_option linter.unusedSimpArgs false
namespace Go.Proofs.YtcakeolnokninaaDoor.Edit
open Go.RowKit Go.Lib Go.Shelf ChangeShapes Mem Utf UtfP

def seqTab : Array MapEntry := #[{ key := .string { data := #[27, 91, 67] }, val := .int .i64 5, born := 0 }, { key := .string { data := #[27, 79, 67] }, val := .int .i64 5, born := 1 }, { key := .string { data := #[27, 91, 68] }, val := .int .i64 4, born := 2 }, { key := .string { data := #[27, 79, 68] }, val := .int .i64 4, born := 3 }, { key := .string { data := #[27, 91, 72] }, val := .int .i64 6, born := 4 }, { key := .string { data := #[27, 79, 72] }, val := .int .i64 6, born := 5 }, { key := .string { data := #[27, 91, 49, 126] }, val := .int .i64 6, born := 6 }, { key := .string { data := #[27, 91, 55, 126] }, val := .int .i64 6, born := 7 }, { key := .string { data := #[27, 91, 70] }, val := .int .i64 7, born := 8 }, { key := .string { data := #[27, 79, 70] }, val := .int .i64 7, born := 9 }, { key := .string { data := #[27, 91, 52, 126] }, val := .int .i64 7, born := 10 }, { key := .string { data := #[27, 91, 56, 126] }, val := .int .i64 7, born := 11 }, { key := .string { data := #[27, 91, 51, 126] }, val := .int .i64 3, born := 12 }, { key := .string { data := #[27, 91, 50, 48, 48, 126] }, val := .int .i64 13, born := 13 }, { key := .string { data := #[27, 91, 50, 48, 49, 126] }, val := .int .i64 14, born := 14 }]

theorem push_put {α : Type} (h : Array α) (a b : α) : (h.push a).setIfInBounds h.size b = h.push b := by
  rcases h with ⟨l⟩
  simp

theorem run_putS {T K E : TypeId} {P : Program} (w : World) (ht : P.underlying T = some (.map K E)) (hk : P.underlying K = some .string) (es : Array MapEntry) (clock : Nat) (k : ByteArray) (v : Value) (hf : Instr.findNow .string (.string k) es.toList 0 = some none) :
    (Instr.mapUpdate T (.map (some w.heap.size)) (.string k) v).run P (w.alloc (.map es clock)) = .ok () (w.alloc (.map (es.push { key := .string k, val := v, born := clock }) (clock + 1))) := by
  have hb : (w.alloc (.map es clock)).heap[w.heap.size]? = some (.map es clock) := heap_alloc_new w _
  have hc : (Instr.checkKey false 10000 K (.string k)).run P (w.alloc (.map es clock)) = .ok () (w.alloc (.map es clock)) := MapKept.run_checkKey (k := .string k) hk (by simp [MapKept.IsKey]) false 9999
  simp [Instr.mapUpdate, run_underlying ht, MapKept.run_getObj_map hb, hc, MapKept.run_findKey hk hf, MapKept.run_setObj_map _ hb, Result.andThen]
  show ({ heap := (w.heap.push _).setIfInBounds w.heap.size _, tape := w.tape, drawn := w.drawn, os := w.os, output := w.output } : World) = { w with heap := w.heap.push _ }
  rw [push_put]

set_option maxRecDepth 100000 in
set_option maxHeartbeats 1000000 in
theorem known_c (w : World) : Calls Tryd.prog 74 #[] w fun e w' => e = .returned (.map (some w.heap.size)) ∧ w'.heap[w.heap.size]? = some (.map seqTab 15) ∧ Below w.heap.size w w' := by
  have hmm := @run_makeMap Tryd.prog
  have p0 : (Instr.mapUpdate 110 (.map (some w.heap.size)) (.string { data := #[27, 91, 67] }) (.int .i64 5)).run Tryd.prog (w.alloc (.map #[] 0)) = .ok () (w.alloc (.map #[{ key := .string { data := #[27, 91, 67] }, val := .int .i64 5, born := 0 }] 1)) := run_putS w Tryd.underlying110 Tryd.underlying9 _ _ _ _ rfl
  have p1 : (Instr.mapUpdate 110 (.map (some w.heap.size)) (.string { data := #[27, 79, 67] }) (.int .i64 5)).run Tryd.prog (w.alloc (.map #[{ key := .string { data := #[27, 91, 67] }, val := .int .i64 5, born := 0 }] 1)) = .ok () (w.alloc (.map #[{ key := .string { data := #[27, 91, 67] }, val := .int .i64 5, born := 0 }, { key := .string { data := #[27, 79, 67] }, val := .int .i64 5, born := 1 }] 2)) := run_putS w Tryd.underlying110 Tryd.underlying9 _ _ _ _ rfl
  have p2 : (Instr.mapUpdate 110 (.map (some w.heap.size)) (.string { data := #[27, 91, 68] }) (.int .i64 4)).run Tryd.prog (w.alloc (.map #[{ key := .string { data := #[27, 91, 67] }, val := .int .i64 5, born := 0 }, { key := .string { data := #[27, 79, 67] }, val := .int .i64 5, born := 1 }] 2)) = .ok () (w.alloc (.map #[{ key := .string { data := #[27, 91, 67] }, val := .int .i64 5, born := 0 }, { key := .string { data := #[27, 79, 67] }, val := .int .i64 5, born := 1 }, { key := .string { data := #[27, 91, 68] }, val := .int .i64 4, born := 2 }] 3)) := run_putS w Tryd.underlying110 Tryd.underlying9 _ _ _ _ rfl
  have p3 : (Instr.mapUpdate 110 (.map (some w.heap.size)) (.string { data := #[27, 79, 68] }) (.int .i64 4)).run Tryd.prog (w.alloc (.map #[{ key := .string { data := #[27, 91, 67] }, val := .int .i64 5, born := 0 }, { key := .string { data := #[27, 79, 67] }, val := .int .i64 5, born := 1 }, { key := .string { data := #[27, 91, 68] }, val := .int .i64 4, born := 2 }] 3)) = .ok () (w.alloc (.map #[{ key := .string { data := #[27, 91, 67] }, val := .int .i64 5, born := 0 }, { key := .string { data := #[27, 79, 67] }, val := .int .i64 5, born := 1 }, { key := .string { data := #[27, 91, 68] }, val := .int .i64 4, born := 2 }, { key := .string { data := #[27, 79, 68] }, val := .int .i64 4, born := 3 }] 4)) := run_putS w Tryd.underlying110 Tryd.underlying9 _ _ _ _ rfl
  have p4 : (Instr.mapUpdate 110 (.map (some w.heap.size)) (.string { data := #[27, 91, 72] }) (.int .i64 6)).run Tryd.prog (w.alloc (.map #[{ key := .string { data := #[27, 91, 67] }, val := .int .i64 5, born := 0 }, { key := .string { data := #[27, 79, 67] }, val := .int .i64 5, born := 1 }, { key := .string { data := #[27, 91, 68] }, val := .int .i64 4, born := 2 }, { key := .string { data := #[27, 79, 68] }, val := .int .i64 4, born := 3 }] 4)) = .ok () (w.alloc (.map #[{ key := .string { data := #[27, 91, 67] }, val := .int .i64 5, born := 0 }, { key := .string { data := #[27, 79, 67] }, val := .int .i64 5, born := 1 }, { key := .string { data := #[27, 91, 68] }, val := .int .i64 4, born := 2 }, { key := .string { data := #[27, 79, 68] }, val := .int .i64 4, born := 3 }, { key := .string { data := #[27, 91, 72] }, val := .int .i64 6, born := 4 }] 5)) := run_putS w Tryd.underlying110 Tryd.underlying9 _ _ _ _ rfl
  have p5 : (Instr.mapUpdate 110 (.map (some w.heap.size)) (.string { data := #[27, 79, 72] }) (.int .i64 6)).run Tryd.prog (w.alloc (.map #[{ key := .string { data := #[27, 91, 67] }, val := .int .i64 5, born := 0 }, { key := .string { data := #[27, 79, 67] }, val := .int .i64 5, born := 1 }, { key := .string { data := #[27, 91, 68] }, val := .int .i64 4, born := 2 }, { key := .string { data := #[27, 79, 68] }, val := .int .i64 4, born := 3 }, { key := .string { data := #[27, 91, 72] }, val := .int .i64 6, born := 4 }] 5)) = .ok () (w.alloc (.map #[{ key := .string { data := #[27, 91, 67] }, val := .int .i64 5, born := 0 }, { key := .string { data := #[27, 79, 67] }, val := .int .i64 5, born := 1 }, { key := .string { data := #[27, 91, 68] }, val := .int .i64 4, born := 2 }, { key := .string { data := #[27, 79, 68] }, val := .int .i64 4, born := 3 }, { key := .string { data := #[27, 91, 72] }, val := .int .i64 6, born := 4 }, { key := .string { data := #[27, 79, 72] }, val := .int .i64 6, born := 5 }] 6)) := run_putS w Tryd.underlying110 Tryd.underlying9 _ _ _ _ rfl
  have p6 : (Instr.mapUpdate 110 (.map (some w.heap.size)) (.string { data := #[27, 91, 49, 126] }) (.int .i64 6)).run Tryd.prog (w.alloc (.map #[{ key := .string { data := #[27, 91, 67] }, val := .int .i64 5, born := 0 }, { key := .string { data := #[27, 79, 67] }, val := .int .i64 5, born := 1 }, { key := .string { data := #[27, 91, 68] }, val := .int .i64 4, born := 2 }, { key := .string { data := #[27, 79, 68] }, val := .int .i64 4, born := 3 }, { key := .string { data := #[27, 91, 72] }, val := .int .i64 6, born := 4 }, { key := .string { data := #[27, 79, 72] }, val := .int .i64 6, born := 5 }] 6)) = .ok () (w.alloc (.map #[{ key := .string { data := #[27, 91, 67] }, val := .int .i64 5, born := 0 }, { key := .string { data := #[27, 79, 67] }, val := .int .i64 5, born := 1 }, { key := .string { data := #[27, 91, 68] }, val := .int .i64 4, born := 2 }, { key := .string { data := #[27, 79, 68] }, val := .int .i64 4, born := 3 }, { key := .string { data := #[27, 91, 72] }, val := .int .i64 6, born := 4 }, { key := .string { data := #[27, 79, 72] }, val := .int .i64 6, born := 5 }, { key := .string { data := #[27, 91, 49, 126] }, val := .int .i64 6, born := 6 }] 7)) := run_putS w Tryd.underlying110 Tryd.underlying9 _ _ _ _ rfl
  have p7 : (Instr.mapUpdate 110 (.map (some w.heap.size)) (.string { data := #[27, 91, 55, 126] }) (.int .i64 6)).run Tryd.prog (w.alloc (.map #[{ key := .string { data := #[27, 91, 67] }, val := .int .i64 5, born := 0 }, { key := .string { data := #[27, 79, 67] }, val := .int .i64 5, born := 1 }, { key := .string { data := #[27, 91, 68] }, val := .int .i64 4, born := 2 }, { key := .string { data := #[27, 79, 68] }, val := .int .i64 4, born := 3 }, { key := .string { data := #[27, 91, 72] }, val := .int .i64 6, born := 4 }, { key := .string { data := #[27, 79, 72] }, val := .int .i64 6, born := 5 }, { key := .string { data := #[27, 91, 49, 126] }, val := .int .i64 6, born := 6 }] 7)) = .ok () (w.alloc (.map #[{ key := .string { data := #[27, 91, 67] }, val := .int .i64 5, born := 0 }, { key := .string { data := #[27, 79, 67] }, val := .int .i64 5, born := 1 }, { key := .string { data := #[27, 91, 68] }, val := .int .i64 4, born := 2 }, { key := .string { data := #[27, 79, 68] }, val := .int .i64 4, born := 3 }, { key := .string { data := #[27, 91, 72] }, val := .int .i64 6, born := 4 }, { key := .string { data := #[27, 79, 72] }, val := .int .i64 6, born := 5 }, { key := .string { data := #[27, 91, 49, 126] }, val := .int .i64 6, born := 6 }, { key := .string { data := #[27, 91, 55, 126] }, val := .int .i64 6, born := 7 }] 8)) := run_putS w Tryd.underlying110 Tryd.underlying9 _ _ _ _ rfl
  have p8 : (Instr.mapUpdate 110 (.map (some w.heap.size)) (.string { data := #[27, 91, 70] }) (.int .i64 7)).run Tryd.prog (w.alloc (.map #[{ key := .string { data := #[27, 91, 67] }, val := .int .i64 5, born := 0 }, { key := .string { data := #[27, 79, 67] }, val := .int .i64 5, born := 1 }, { key := .string { data := #[27, 91, 68] }, val := .int .i64 4, born := 2 }, { key := .string { data := #[27, 79, 68] }, val := .int .i64 4, born := 3 }, { key := .string { data := #[27, 91, 72] }, val := .int .i64 6, born := 4 }, { key := .string { data := #[27, 79, 72] }, val := .int .i64 6, born := 5 }, { key := .string { data := #[27, 91, 49, 126] }, val := .int .i64 6, born := 6 }, { key := .string { data := #[27, 91, 55, 126] }, val := .int .i64 6, born := 7 }] 8)) = .ok () (w.alloc (.map #[{ key := .string { data := #[27, 91, 67] }, val := .int .i64 5, born := 0 }, { key := .string { data := #[27, 79, 67] }, val := .int .i64 5, born := 1 }, { key := .string { data := #[27, 91, 68] }, val := .int .i64 4, born := 2 }, { key := .string { data := #[27, 79, 68] }, val := .int .i64 4, born := 3 }, { key := .string { data := #[27, 91, 72] }, val := .int .i64 6, born := 4 }, { key := .string { data := #[27, 79, 72] }, val := .int .i64 6, born := 5 }, { key := .string { data := #[27, 91, 49, 126] }, val := .int .i64 6, born := 6 }, { key := .string { data := #[27, 91, 55, 126] }, val := .int .i64 6, born := 7 }, { key := .string { data := #[27, 91, 70] }, val := .int .i64 7, born := 8 }] 9)) := run_putS w Tryd.underlying110 Tryd.underlying9 _ _ _ _ rfl
  have p9 : (Instr.mapUpdate 110 (.map (some w.heap.size)) (.string { data := #[27, 79, 70] }) (.int .i64 7)).run Tryd.prog (w.alloc (.map #[{ key := .string { data := #[27, 91, 67] }, val := .int .i64 5, born := 0 }, { key := .string { data := #[27, 79, 67] }, val := .int .i64 5, born := 1 }, { key := .string { data := #[27, 91, 68] }, val := .int .i64 4, born := 2 }, { key := .string { data := #[27, 79, 68] }, val := .int .i64 4, born := 3 }, { key := .string { data := #[27, 91, 72] }, val := .int .i64 6, born := 4 }, { key := .string { data := #[27, 79, 72] }, val := .int .i64 6, born := 5 }, { key := .string { data := #[27, 91, 49, 126] }, val := .int .i64 6, born := 6 }, { key := .string { data := #[27, 91, 55, 126] }, val := .int .i64 6, born := 7 }, { key := .string { data := #[27, 91, 70] }, val := .int .i64 7, born := 8 }] 9)) = .ok () (w.alloc (.map #[{ key := .string { data := #[27, 91, 67] }, val := .int .i64 5, born := 0 }, { key := .string { data := #[27, 79, 67] }, val := .int .i64 5, born := 1 }, { key := .string { data := #[27, 91, 68] }, val := .int .i64 4, born := 2 }, { key := .string { data := #[27, 79, 68] }, val := .int .i64 4, born := 3 }, { key := .string { data := #[27, 91, 72] }, val := .int .i64 6, born := 4 }, { key := .string { data := #[27, 79, 72] }, val := .int .i64 6, born := 5 }, { key := .string { data := #[27, 91, 49, 126] }, val := .int .i64 6, born := 6 }, { key := .string { data := #[27, 91, 55, 126] }, val := .int .i64 6, born := 7 }, { key := .string { data := #[27, 91, 70] }, val := .int .i64 7, born := 8 }, { key := .string { data := #[27, 79, 70] }, val := .int .i64 7, born := 9 }] 10)) := run_putS w Tryd.underlying110 Tryd.underlying9 _ _ _ _ rfl
  have p10 : (Instr.mapUpdate 110 (.map (some w.heap.size)) (.string { data := #[27, 91, 52, 126] }) (.int .i64 7)).run Tryd.prog (w.alloc (.map #[{ key := .string { data := #[27, 91, 67] }, val := .int .i64 5, born := 0 }, { key := .string { data := #[27, 79, 67] }, val := .int .i64 5, born := 1 }, { key := .string { data := #[27, 91, 68] }, val := .int .i64 4, born := 2 }, { key := .string { data := #[27, 79, 68] }, val := .int .i64 4, born := 3 }, { key := .string { data := #[27, 91, 72] }, val := .int .i64 6, born := 4 }, { key := .string { data := #[27, 79, 72] }, val := .int .i64 6, born := 5 }, { key := .string { data := #[27, 91, 49, 126] }, val := .int .i64 6, born := 6 }, { key := .string { data := #[27, 91, 55, 126] }, val := .int .i64 6, born := 7 }, { key := .string { data := #[27, 91, 70] }, val := .int .i64 7, born := 8 }, { key := .string { data := #[27, 79, 70] }, val := .int .i64 7, born := 9 }] 10)) = .ok () (w.alloc (.map #[{ key := .string { data := #[27, 91, 67] }, val := .int .i64 5, born := 0 }, { key := .string { data := #[27, 79, 67] }, val := .int .i64 5, born := 1 }, { key := .string { data := #[27, 91, 68] }, val := .int .i64 4, born := 2 }, { key := .string { data := #[27, 79, 68] }, val := .int .i64 4, born := 3 }, { key := .string { data := #[27, 91, 72] }, val := .int .i64 6, born := 4 }, { key := .string { data := #[27, 79, 72] }, val := .int .i64 6, born := 5 }, { key := .string { data := #[27, 91, 49, 126] }, val := .int .i64 6, born := 6 }, { key := .string { data := #[27, 91, 55, 126] }, val := .int .i64 6, born := 7 }, { key := .string { data := #[27, 91, 70] }, val := .int .i64 7, born := 8 }, { key := .string { data := #[27, 79, 70] }, val := .int .i64 7, born := 9 }, { key := .string { data := #[27, 91, 52, 126] }, val := .int .i64 7, born := 10 }] 11)) := run_putS w Tryd.underlying110 Tryd.underlying9 _ _ _ _ rfl
  have p11 : (Instr.mapUpdate 110 (.map (some w.heap.size)) (.string { data := #[27, 91, 56, 126] }) (.int .i64 7)).run Tryd.prog (w.alloc (.map #[{ key := .string { data := #[27, 91, 67] }, val := .int .i64 5, born := 0 }, { key := .string { data := #[27, 79, 67] }, val := .int .i64 5, born := 1 }, { key := .string { data := #[27, 91, 68] }, val := .int .i64 4, born := 2 }, { key := .string { data := #[27, 79, 68] }, val := .int .i64 4, born := 3 }, { key := .string { data := #[27, 91, 72] }, val := .int .i64 6, born := 4 }, { key := .string { data := #[27, 79, 72] }, val := .int .i64 6, born := 5 }, { key := .string { data := #[27, 91, 49, 126] }, val := .int .i64 6, born := 6 }, { key := .string { data := #[27, 91, 55, 126] }, val := .int .i64 6, born := 7 }, { key := .string { data := #[27, 91, 70] }, val := .int .i64 7, born := 8 }, { key := .string { data := #[27, 79, 70] }, val := .int .i64 7, born := 9 }, { key := .string { data := #[27, 91, 52, 126] }, val := .int .i64 7, born := 10 }] 11)) = .ok () (w.alloc (.map #[{ key := .string { data := #[27, 91, 67] }, val := .int .i64 5, born := 0 }, { key := .string { data := #[27, 79, 67] }, val := .int .i64 5, born := 1 }, { key := .string { data := #[27, 91, 68] }, val := .int .i64 4, born := 2 }, { key := .string { data := #[27, 79, 68] }, val := .int .i64 4, born := 3 }, { key := .string { data := #[27, 91, 72] }, val := .int .i64 6, born := 4 }, { key := .string { data := #[27, 79, 72] }, val := .int .i64 6, born := 5 }, { key := .string { data := #[27, 91, 49, 126] }, val := .int .i64 6, born := 6 }, { key := .string { data := #[27, 91, 55, 126] }, val := .int .i64 6, born := 7 }, { key := .string { data := #[27, 91, 70] }, val := .int .i64 7, born := 8 }, { key := .string { data := #[27, 79, 70] }, val := .int .i64 7, born := 9 }, { key := .string { data := #[27, 91, 52, 126] }, val := .int .i64 7, born := 10 }, { key := .string { data := #[27, 91, 56, 126] }, val := .int .i64 7, born := 11 }] 12)) := run_putS w Tryd.underlying110 Tryd.underlying9 _ _ _ _ rfl
  have p12 : (Instr.mapUpdate 110 (.map (some w.heap.size)) (.string { data := #[27, 91, 51, 126] }) (.int .i64 3)).run Tryd.prog (w.alloc (.map #[{ key := .string { data := #[27, 91, 67] }, val := .int .i64 5, born := 0 }, { key := .string { data := #[27, 79, 67] }, val := .int .i64 5, born := 1 }, { key := .string { data := #[27, 91, 68] }, val := .int .i64 4, born := 2 }, { key := .string { data := #[27, 79, 68] }, val := .int .i64 4, born := 3 }, { key := .string { data := #[27, 91, 72] }, val := .int .i64 6, born := 4 }, { key := .string { data := #[27, 79, 72] }, val := .int .i64 6, born := 5 }, { key := .string { data := #[27, 91, 49, 126] }, val := .int .i64 6, born := 6 }, { key := .string { data := #[27, 91, 55, 126] }, val := .int .i64 6, born := 7 }, { key := .string { data := #[27, 91, 70] }, val := .int .i64 7, born := 8 }, { key := .string { data := #[27, 79, 70] }, val := .int .i64 7, born := 9 }, { key := .string { data := #[27, 91, 52, 126] }, val := .int .i64 7, born := 10 }, { key := .string { data := #[27, 91, 56, 126] }, val := .int .i64 7, born := 11 }] 12)) = .ok () (w.alloc (.map #[{ key := .string { data := #[27, 91, 67] }, val := .int .i64 5, born := 0 }, { key := .string { data := #[27, 79, 67] }, val := .int .i64 5, born := 1 }, { key := .string { data := #[27, 91, 68] }, val := .int .i64 4, born := 2 }, { key := .string { data := #[27, 79, 68] }, val := .int .i64 4, born := 3 }, { key := .string { data := #[27, 91, 72] }, val := .int .i64 6, born := 4 }, { key := .string { data := #[27, 79, 72] }, val := .int .i64 6, born := 5 }, { key := .string { data := #[27, 91, 49, 126] }, val := .int .i64 6, born := 6 }, { key := .string { data := #[27, 91, 55, 126] }, val := .int .i64 6, born := 7 }, { key := .string { data := #[27, 91, 70] }, val := .int .i64 7, born := 8 }, { key := .string { data := #[27, 79, 70] }, val := .int .i64 7, born := 9 }, { key := .string { data := #[27, 91, 52, 126] }, val := .int .i64 7, born := 10 }, { key := .string { data := #[27, 91, 56, 126] }, val := .int .i64 7, born := 11 }, { key := .string { data := #[27, 91, 51, 126] }, val := .int .i64 3, born := 12 }] 13)) := run_putS w Tryd.underlying110 Tryd.underlying9 _ _ _ _ rfl
  have p13 : (Instr.mapUpdate 110 (.map (some w.heap.size)) (.string { data := #[27, 91, 50, 48, 48, 126] }) (.int .i64 13)).run Tryd.prog (w.alloc (.map #[{ key := .string { data := #[27, 91, 67] }, val := .int .i64 5, born := 0 }, { key := .string { data := #[27, 79, 67] }, val := .int .i64 5, born := 1 }, { key := .string { data := #[27, 91, 68] }, val := .int .i64 4, born := 2 }, { key := .string { data := #[27, 79, 68] }, val := .int .i64 4, born := 3 }, { key := .string { data := #[27, 91, 72] }, val := .int .i64 6, born := 4 }, { key := .string { data := #[27, 79, 72] }, val := .int .i64 6, born := 5 }, { key := .string { data := #[27, 91, 49, 126] }, val := .int .i64 6, born := 6 }, { key := .string { data := #[27, 91, 55, 126] }, val := .int .i64 6, born := 7 }, { key := .string { data := #[27, 91, 70] }, val := .int .i64 7, born := 8 }, { key := .string { data := #[27, 79, 70] }, val := .int .i64 7, born := 9 }, { key := .string { data := #[27, 91, 52, 126] }, val := .int .i64 7, born := 10 }, { key := .string { data := #[27, 91, 56, 126] }, val := .int .i64 7, born := 11 }, { key := .string { data := #[27, 91, 51, 126] }, val := .int .i64 3, born := 12 }] 13)) = .ok () (w.alloc (.map #[{ key := .string { data := #[27, 91, 67] }, val := .int .i64 5, born := 0 }, { key := .string { data := #[27, 79, 67] }, val := .int .i64 5, born := 1 }, { key := .string { data := #[27, 91, 68] }, val := .int .i64 4, born := 2 }, { key := .string { data := #[27, 79, 68] }, val := .int .i64 4, born := 3 }, { key := .string { data := #[27, 91, 72] }, val := .int .i64 6, born := 4 }, { key := .string { data := #[27, 79, 72] }, val := .int .i64 6, born := 5 }, { key := .string { data := #[27, 91, 49, 126] }, val := .int .i64 6, born := 6 }, { key := .string { data := #[27, 91, 55, 126] }, val := .int .i64 6, born := 7 }, { key := .string { data := #[27, 91, 70] }, val := .int .i64 7, born := 8 }, { key := .string { data := #[27, 79, 70] }, val := .int .i64 7, born := 9 }, { key := .string { data := #[27, 91, 52, 126] }, val := .int .i64 7, born := 10 }, { key := .string { data := #[27, 91, 56, 126] }, val := .int .i64 7, born := 11 }, { key := .string { data := #[27, 91, 51, 126] }, val := .int .i64 3, born := 12 }, { key := .string { data := #[27, 91, 50, 48, 48, 126] }, val := .int .i64 13, born := 13 }] 14)) := run_putS w Tryd.underlying110 Tryd.underlying9 _ _ _ _ rfl
  have p14 : (Instr.mapUpdate 110 (.map (some w.heap.size)) (.string { data := #[27, 91, 50, 48, 49, 126] }) (.int .i64 14)).run Tryd.prog (w.alloc (.map #[{ key := .string { data := #[27, 91, 67] }, val := .int .i64 5, born := 0 }, { key := .string { data := #[27, 79, 67] }, val := .int .i64 5, born := 1 }, { key := .string { data := #[27, 91, 68] }, val := .int .i64 4, born := 2 }, { key := .string { data := #[27, 79, 68] }, val := .int .i64 4, born := 3 }, { key := .string { data := #[27, 91, 72] }, val := .int .i64 6, born := 4 }, { key := .string { data := #[27, 79, 72] }, val := .int .i64 6, born := 5 }, { key := .string { data := #[27, 91, 49, 126] }, val := .int .i64 6, born := 6 }, { key := .string { data := #[27, 91, 55, 126] }, val := .int .i64 6, born := 7 }, { key := .string { data := #[27, 91, 70] }, val := .int .i64 7, born := 8 }, { key := .string { data := #[27, 79, 70] }, val := .int .i64 7, born := 9 }, { key := .string { data := #[27, 91, 52, 126] }, val := .int .i64 7, born := 10 }, { key := .string { data := #[27, 91, 56, 126] }, val := .int .i64 7, born := 11 }, { key := .string { data := #[27, 91, 51, 126] }, val := .int .i64 3, born := 12 }, { key := .string { data := #[27, 91, 50, 48, 48, 126] }, val := .int .i64 13, born := 13 }] 14)) = .ok () (w.alloc (.map #[{ key := .string { data := #[27, 91, 67] }, val := .int .i64 5, born := 0 }, { key := .string { data := #[27, 79, 67] }, val := .int .i64 5, born := 1 }, { key := .string { data := #[27, 91, 68] }, val := .int .i64 4, born := 2 }, { key := .string { data := #[27, 79, 68] }, val := .int .i64 4, born := 3 }, { key := .string { data := #[27, 91, 72] }, val := .int .i64 6, born := 4 }, { key := .string { data := #[27, 79, 72] }, val := .int .i64 6, born := 5 }, { key := .string { data := #[27, 91, 49, 126] }, val := .int .i64 6, born := 6 }, { key := .string { data := #[27, 91, 55, 126] }, val := .int .i64 6, born := 7 }, { key := .string { data := #[27, 91, 70] }, val := .int .i64 7, born := 8 }, { key := .string { data := #[27, 79, 70] }, val := .int .i64 7, born := 9 }, { key := .string { data := #[27, 91, 52, 126] }, val := .int .i64 7, born := 10 }, { key := .string { data := #[27, 91, 56, 126] }, val := .int .i64 7, born := 11 }, { key := .string { data := #[27, 91, 51, 126] }, val := .int .i64 3, born := 12 }, { key := .string { data := #[27, 91, 50, 48, 48, 126] }, val := .int .i64 13, born := 13 }, { key := .string { data := #[27, 91, 50, 48, 49, 126] }, val := .int .i64 14, born := 14 }] 15)) := run_putS w Tryd.underlying110 Tryd.underlying9 _ _ _ _ rfl
  go_enter Tryd.func74, Tryd.ntmps74
  go_wp2
  go_ret
  exact ⟨rfl, heap_alloc_new w _, (Below.refl _ _).alloc (Nat.le_refl _) _⟩

end Go.Proofs.YtcakeolnokninaaDoor.Edit

/- Looking a sequence up; bytes between two. -/
set_option linter.unusedVariables false
set_option linter.unusedSimpArgs false
namespace Go.Proofs.YtcakeolnokninaaDoor.Edit
open Go.RowKit Go.Lib Go.Shelf ChangeShapes Mem Utf UtfP

theorem run_lookS {T K E : TypeId} {P : Program} (w : World) (ht : P.underlying T = some (.map K E)) (hk : P.underlying K = some .string) (b : Nat) (es : Array MapEntry) (clock : Nat) (hb : w.heap[b]? = some (.map es clock)) (k : ByteArray) (i : Nat) (v : Value) (hf : Instr.findNow .string (.string k) es.toList 0 = some (some (i, v))) :
    (Instr.lookup T (.map (some b)) (.string k) true).run P w = .ok (.tuple #[v, .bool true]) w := by
  have hc : (Instr.checkKey es.isEmpty 10000 K (.string k)).run P w = .ok () w := MapKept.run_checkKey (k := .string k) hk (by simp [MapKept.IsKey]) _ 9999
  simp [Instr.lookup, run_underlying ht, MapKept.run_getObj_map hb, hc, MapKept.run_findKey hk hf, Result.andThen]

theorem run_lookS_none {T K E : TypeId} {P : Program} (w : World) (ht : P.underlying T = some (.map K E)) (hk : P.underlying K = some .string) (b : Nat) (es : Array MapEntry) (clock : Nat) (hb : w.heap[b]? = some (.map es clock)) (k : ByteArray) (z : Value) (hz : ∀ w, (zeroValue E).run P w = .ok z w) (hf : Instr.findNow .string (.string k) es.toList 0 = some none) :
    (Instr.lookup T (.map (some b)) (.string k) true).run P w = .ok (.tuple #[z, .bool false]) w := by
  have hc : (Instr.checkKey es.isEmpty 10000 K (.string k)).run P w = .ok () w := MapKept.run_checkKey (k := .string k) hk (by simp [MapKept.IsKey]) _ 9999
  simp [Instr.lookup, run_underlying ht, MapKept.run_getObj_map hb, hc, MapKept.run_findKey hk hf, hz, Result.andThen]

theorem between_c (x f t : Int) (w : World) : Calls Tryd.prog 73 #[.int .u8 x, .int .u8 f, .int .u8 t] w fun e w' => e = .returned (.bool (decide (f ≤ x) && decide (x ≤ t))) ∧ w' = w := by
  by_cases h1 : f ≤ x
  · have k1 : decide (f ≤ x) = true := by simpa using h1
    rw [k1]
    go_enter Tryd.func73, Tryd.ntmps73
    go_wp2
    go_ret
    exact ⟨by simp, rfl⟩
  · have k1 : decide (f ≤ x) = false := by simpa using h1
    rw [k1]
    go_enter Tryd.func73, Tryd.ntmps73
    go_wp2
    go_ret
    exact ⟨by simp, rfl⟩

end Go.Proofs.YtcakeolnokninaaDoor.Edit

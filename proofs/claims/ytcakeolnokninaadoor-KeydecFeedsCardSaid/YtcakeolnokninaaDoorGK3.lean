/- Texts joined: Kd11; Kd12; OwnK; Kd13; Kd14; Kd15. -/
import Derived.Test.YtcakeolnokninaaDoorGK2
import Derived.Test.YtcakeolnokninaaDoorGE
import Derived.Test.YtcakeolnokninaaDoorGD
import Derived.Test.YtcakeolnokninaaDoorGB
import Derived.Deep.CutBlock
import Derived.Deep.DeepCutAuto
import Derived.WalkMore
/- The key that is held as a whole: next, walked. -/
set_option linter.unusedVariables false
set_option linter.unusedSimpArgs false
namespace Go.Proofs.YtcakeolnokninaaDoor.Edit
open Go.RowKit Go.Lib Go.Shelf ChangeShapes Mem Utf UtfP Def

/-- the key that the bytes that are held begin with, if it is whole: the key, its bytes, whether a paste is begun behind it -/
def nxE (t : List UInt8) (ps : Bool) : Option ((Int × Int) × Nat × Bool) :=
  if t = [] then none
  else if bt t 0 = 27 then (if (seqN t).2.2 ≠ 0 then none else some (((seqE ps (seqN t).1 0).1, (seqE ps (seqN t).1 0).2.1), (seqN t).2.1, (seqE ps (seqN t).1 0).2.2))
  else if (next t).2.2 = 7 then none
  else some (charK ps (if (next t).2.2 = 8 then 65533 else ((next t).1 : Int)), (next t).2.1, ps)

/-- what next tells -/
def NxT (d a c N : Nat) (t : List UInt8) (ps : Bool) (w : World) (e : Ending) (w' : World) : Prop :=
  But [d, a, c] w w' ∧ ((nxE t ps = none ∧ Dc w' d a c N t ps ∧ ∃ k kc : Int, e = .returned (.tuple #[.agg #[.int .i64 k, .int .i64 kc], .bool false])) ∨
    ∃ k kc n ps', nxE t ps = some ((k, kc), n, ps') ∧ Dc w' d a c N (t.drop n) ps' ∧ e = .returned (.tuple #[.agg #[.int .i64 k, .int .i64 kc], .bool true]))

theorem results_cell2 {P : Program} {fn : Func} {p u : Tmp} {ty : TypeId} (h : fn.results = #[.cell p ty, .tmp u]) (tmps : Array Value) (w : World) (g : Nat) (t : TypeId) (cs : Array Value) (d : TypeDesc)
    (hp : tmps.getD p undef = .pointer (some ⟨g, 0, none⟩)) (hg : Blk w g cs t)
    (hu : P.underlying ty = some d) (hd : (match d with | .struct _ | .array _ _ => true | _ => false) = true) (hi : (P.info? ty).map (·.size) = some cs.size) :
    (results fn tmps).run P w = .ok (.tuple #[.agg cs, tmps.getD u undef]) w := by
  have hp' : tmps[p]?.getD undef = .pointer (some ⟨g, 0, none⟩) := by simpa using hp
  simp [results, h, hp', asAddr, run_loadVar_row w g t ty cs (0, 0) d hg hu hd hi]

theorem inv_clear36 (W : World) (g cap n : Nat) (cur : List Value) (hg : Win W g 0 cur) (hn : n ≤ cur.length) (h0 : 0 < n) :
    ∃ W', (invoke (.builtin .clear #[22] 0 #[false]) #[.slice (some ⟨g, 0, none⟩) n cap]).run Tryd.prog W = .ok (.value (.tuple #[])) W' ∧ But [g] W W' := by
  have hcell : ∀ j, j < n → (W.cell? ⟨g, 0 + j, none⟩).isSome = true := fun j hj => by
    rw [hg.cell j _ (List.getElem?_eq_getElem (by omega))]; rfl
  have hrun := run_clear_slice (P := Tryd.prog) W 22 5 0 (.int .u8 0) Tryd.underlying22 zero_u8 rfl rfl g 0 n cap h0 hcell (fun j hj => hg.free j (by omega))
  exact ⟨W.setCells g 0 (List.replicate n (.int .u8 0)), by simp [invoke, builtin, hrun], But.setCells (Or.inl (by simp)) _ _ _ (But.refl _ _)⟩

theorem win_bytesD {w : World} {g : Nat} {cur : List Value} {t : List UInt8} (h : Win w g 0 (splice cur 0 (cellsB t))) : BytesAt w (some ⟨g, 0, none⟩) t := by
  intro hne
  have hc : ∀ j, j < t.length → w.cell? ⟨g, 0 + j, none⟩ = some (.int .u8 (bt t j : Int)) := fun j hj => by
    refine h.cell j _ ?_
    unfold splice
    rw [List.take_zero, List.nil_append, List.getElem?_append_left (by rw [cellsB_length]; exact hj)]
    exact cellsB_get t j hj
  refine ⟨g, 0, rfl, ?_, hc⟩
  have := World.block_lt_of_cell? _ _ (hc 0 (List.length_pos_iff.2 hne))
  exact this

theorem seqF_le (l : List UInt8) : ∀ (n i : Nat) (oth : Bool), i + n = l.length → (seqF l n i oth).2.1 ≤ l.length ∧ ((seqF l n i oth).2.2 = 0 ∨ (seqF l n i oth).2.2 = 7) := by
  intro n
  induction n with
  | zero => intro i oth h; exact ⟨Nat.le_refl _, Or.inr rfl⟩
  | succ n ih =>
    intro i oth h
    unfold seqF
    split
    · exact ⟨by show i + 1 ≤ _; omega, Or.inl rfl⟩
    · split
      · exact ⟨by show i ≤ _; omega, Or.inl rfl⟩
      · split
        · exact ih _ _ (by omega)
        · split
          · exact ih _ _ (by omega)
          · exact ⟨by show i ≤ _; omega, Or.inl rfl⟩
theorem seqN_le (l : List UInt8) : (seqN l).2.1 ≤ l.length := by
  unfold seqN
  split
  · exact Nat.zero_le _
  · rename_i h
    have := List.length_pos_iff.2 h
    split
    · exact Nat.zero_le _
    · split
      · show 1 ≤ l.length; omega
      · by_cases h2 : 2 ≤ l.length
        · exact (seqF_le l _ 2 false (by omega)).1
        · rw [show l.length - 2 = 0 by omega]
          exact Nat.le_refl _

section
variable {d a c N : Nat} {t t' : List UInt8} {ps ps' : Bool}

/-- what stands while next runs: its result's cells, its array of bytes, the decoder -/
structure NxW (w W : World) (d a c N : Nat) (t' : List UInt8) (ps' : Bool) (cs : Array Value) (cur : List Value) : Prop where
  low : d < w.heap.size ∧ a < w.heap.size ∧ c < w.heap.size
  res : Blk W w.heap.size cs 54
  glt : w.heap.size + 1 < W.heap.size
  win : Win W (w.heap.size + 1) 0 cur
  dc : Dc W d a c N t' ps'
  but : But [d, a, c] w W

theorem NxW.below {w W W' : World} {cs : Array Value} {cur : List Value} (h : NxW w W d a c N t' ps' cs cur) (hb : Below W.heap.size W W') : NxW w W' d a c N t' ps' cs cur :=
  ⟨h.low, h.res.but (But.of_below (S := []) hb) (by simp), Nat.lt_of_lt_of_le h.glt hb.size, h.win.but (But.of_below (S := []) hb) (by simp) h.glt, h.dc.below hb, h.but.trans ((But.of_below (S := []) hb).mono (by simp))⟩

theorem NxW.set {w W : World} {cs : Array Value} {cur : List Value} (h : NxW w W d a c N t' ps' cs cur) (j : Nat) (v : Value) : NxW w (W.setCell ⟨w.heap.size, j, none⟩ v) d a c N t' ps' (cs.setIfInBounds j v) cur := by
  have hb : But [w.heap.size] W (W.setCell ⟨w.heap.size, j, none⟩ v) := (But.refl _ _).set (Or.inl (by simp)) _
  have := h.low
  exact ⟨h.low, h.res.set j v, Nat.lt_of_lt_of_le h.glt hb.size, h.win.but hb (by simp) h.glt, h.dc.but hb (by simp; omega) (by simp; omega) (by simp; omega), h.but.set (Or.inr (Nat.le_refl _)) _⟩

theorem NxW.dec {w W W' : World} {cs : Array Value} {cur : List Value} {t2 : List UInt8} {ps2 : Bool} (h : NxW w W d a c N t' ps' cs cur) (hb : But [d, a, c] W W') (hd : Dc W' d a c N t2 ps2) : NxW w W' d a c N t2 ps2 cs cur := by
  have := h.low
  exact ⟨h.low, h.res.but hb (by simp; omega), Nat.lt_of_lt_of_le h.glt hb.size, h.win.but hb (by simp; omega) h.glt, hd, h.but.trans hb⟩

theorem next_leave {tmps : Array Value} {w W : World} {k kc : Int} {b : Bool} {cur : List Value} {cs : Array Value} (hp : tmps.getD 2 undef = .pointer (some ⟨w.heap.size, 0, none⟩)) (hu : tmps.getD 3 undef = .bool b)
    (h : NxW w W d a c N t' ps' cs cur) (hcs : cs = #[.int .i64 k, .int .i64 kc]) (hcur : 36 ≤ cur.length)
    (hout : (b = false ∧ nxE t ps = none ∧ t' = t ∧ ps' = ps) ∨ (b = true ∧ ∃ n, nxE t ps = some ((k, kc), n, ps') ∧ t' = t.drop n)) :
    LeavesX Tryd.prog Tryd.f45 tmps (NxT d a c N t ps w) [{ target := .builtin .clear #[22] 0 #[false], args := #[.slice (some ⟨w.heap.size + 1, 0, none⟩) 36 36] }] W := by
  subst hcs
  obtain ⟨W', hinv, hb5⟩ := inv_clear36 W (w.heap.size + 1) 36 36 cur h.win hcur (by decide)
  refine Or.inl ⟨_, _, _, _, _, W', rfl, hinv, ?_⟩
  have hlow := h.low
  have hres := h.res.but hb5 (by simp)
  have hrun := results_cell2 (P := Tryd.prog) (fn := Tryd.f45) (ty := 54) (p := 2) (u := 3) rfl tmps W' w.heap.size 54 _ _ hp hres Tryd.underlying54 rfl (by kernel_rfl)
  rw [hu] at hrun
  refine ⟨_, hrun, ?_, ?_⟩
  · have hh : But [d, a, c, w.heap.size + 1] w W' := (h.but.mono (by intro k hk _; simp at hk ⊢; rcases hk with h | h | h <;> simp [h])).trans (hb5.mono (by simp))
    exact hh.mono (by intro k hk hl; simp at hk ⊢; omega)
  · have hd := h.dc.but hb5 (by simp; omega) (by simp; omega) (by simp; omega)
    rcases hout with ⟨rfl, h1, rfl, rfl⟩ | ⟨rfl, n, h1, rfl⟩
    · exact Or.inl ⟨h1, hd, k, kc, rfl⟩
    · exact Or.inr ⟨k, kc, n, _, h1, hd, rfl⟩

set_option maxRecDepth 100000 in
set_option maxHeartbeats 4000000 in
theorem next_c (w : World) (hT : Tabs w) (h : Dc w d a c N t ps) (ht : t.length ≤ 36) :
    Calls Tryd.prog 45 #[.pointer (some ⟨d, 0, none⟩)] w (NxT d a c N t ps w) := by
  have c0 := h.head.cell (j := 0) (v := .pointer (some ⟨a, 0, none⟩)) rfl
  have H := Lib.hid h
  have HT := Lib.hid hT
  clear h hT
  refine calls_of_wp_X Tryd.func45 rfl ?_
  simp only [Tryd.ntmps45, List.size_toArray, List.length_cons, List.length_nil, Nat.reduceAdd, Nat.reduceSub, Array.replicate_succ, Array.replicate_zero, List.push_toArray, List.append_toArray, List.nil_append, List.cons_append]
  go_upto_region 3 with fail
  obtain ⟨w0, hw0⟩ : ∃ w0, w.alloc (.cells #[.int .i64 0, .int .i64 0] 54) = w0 := ⟨_, rfl⟩
  have hs0 : w0.heap.size = w.heap.size + 1 := by rw [← hw0]; exact Array.size_push _
  have hz := Blk.new w0 (cellsB (List.replicate 36 0)).toArray 96
  rw [hs0] at hz
  have hb0 : Below w.heap.size w w0 := by rw [← hw0]; exact (Below.refl _ _).alloc (Nat.le_refl _) _
  have hr0 : Blk w0 w.heap.size #[.int .i64 0, .int .i64 0] 54 := by rw [← hw0]; exact Blk.new _ _ _
  have hzz : (cellsB (List.replicate 36 0)).toArray = #[.int .u8 0, .int .u8 0, .int .u8 0, .int .u8 0, .int .u8 0, .int .u8 0, .int .u8 0, .int .u8 0, .int .u8 0, .int .u8 0, .int .u8 0, .int .u8 0, .int .u8 0, .int .u8 0, .int .u8 0, .int .u8 0, .int .u8 0, .int .u8 0, .int .u8 0, .int .u8 0, .int .u8 0, .int .u8 0, .int .u8 0, .int .u8 0, .int .u8 0, .int .u8 0, .int .u8 0, .int .u8 0, .int .u8 0, .int .u8 0, .int .u8 0, .int .u8 0, .int .u8 0, .int .u8 0, .int .u8 0, .int .u8 0] := by rfl
  rw [hw0, ← hzz]
  have hb1 : Below w.heap.size w (w0.alloc (.cells (cellsB (List.replicate 36 0)).toArray 96)) := hb0.alloc hb0.size _
  have hr1 : Blk (w0.alloc (.cells (cellsB (List.replicate 36 0)).toArray 96)) w.heap.size #[.int .i64 0, .int .i64 0] 54 := hr0.alloc _
  obtain ⟨w1, hw1⟩ : ∃ w1, w0.alloc (.cells (cellsB (List.replicate 36 0)).toArray 96) = w1 := ⟨_, rfl⟩
  rw [hw1] at hz hb1 hr1 ⊢
  have hlow : d < w.heap.size ∧ a < w.heap.size ∧ c < w.heap.size := ⟨H.out.head.lt, H.out.ar.head.lt, H.out.ar.body.lt⟩
  have hN1 : NxW w w1 d a c N t ps #[.int .i64 0, .int .i64 0] (cellsB (List.replicate 36 0)) := ⟨hlow, hr1, hz.lt, hz.win, H.out.below hb1, But.of_below hb1⟩
  have hwin : Win w1.drew (w.heap.size + 1) 0 (cellsB (List.replicate 36 0)) := ⟨hz.win.cell, hz.win.free⟩
  have hC := copy_c (some ⟨w.heap.size + 1, 0, none⟩) 36 36 (w.heap.size + 1) 0 (cellsB (List.replicate 36 0)) w1.drew (Ar.but hN1.dc.ar ((But.refl [] w1).drew) (by simp) (by simp)) hwin (fun _ => rfl) (by rw [cellsB_length, List.length_replicate]; exact Nat.le_refl _)
  rw [show min 36 t.length = t.length by omega, List.take_of_length_le ht] at hC
  have HC := Lib.hid hC
  have d0 : w1.drew.cell? ⟨d, 0, none⟩ = some (.pointer (some ⟨a, 0, none⟩)) := hN1.dc.head.cell (j := 0) rfl
  have HN1 := Lib.hid hN1
  have HB1 := Lib.hid hb1
  have htm : (t.length : Int) ≤ 36 := by omega
  have HTM := Lib.hid ht
  have HLW := Lib.hid hlow
  clear c0 hw0 hs0 hz hb0 hr0 hzz hb1 hr1 hw1 hN1 hwin hC hlow
  go_region_with (go_at_call 46; refine (HC.out).mono ?_; rintro e w3 ⟨rfl, hwin3, hb3⟩; have HWIN3 := Lib.hid hwin3; have HB3 := Lib.hid hb3; clear hwin3 hb3)
  go_goals
  have hb3' : But [w.heap.size + 1] w1 w3 := (But.refl _ _).drew.trans HB3.out
  have hlen : (splice (cellsB (List.replicate 36 0)) 0 (cellsB t)).length = 36 := by
    rw [length_splice _ _ _ (by rw [cellsB_length, cellsB_length, List.length_replicate]; have := HTM.out; omega), cellsB_length, List.length_replicate]
  have hN3 : NxW w w3 d a c N t ps #[.int .i64 0, .int .i64 0] (splice (cellsB (List.replicate 36 0)) 0 (cellsB t)) := by
    have := HLW.out
    have h1 := HN1.out
    refine ⟨h1.low, h1.res.but hb3' (by simp), Nat.lt_of_lt_of_le h1.glt hb3'.size, HWIN3.out, h1.dc.but hb3' (by simp; omega) (by simp; omega) (by simp; omega), ?_⟩
    have hh : But [d, a, c, w.heap.size + 1] w w3 := (h1.but.mono (by intro k hk _; simp at hk ⊢; rcases hk with h | h | h <;> simp [h])).trans (hb3'.mono (by simp))
    exact hh.mono (by intro k hk hl; simp at hk ⊢; omega)
  have hbw3 : Below w.heap.size w w3 := HB1.out.trans (hb3'.below HB1.out.size (by simp))
  have HBW3 := Lib.hid hbw3
  have hby := win_bytesD HWIN3.out
  obtain ⟨cur, hcur⟩ : ∃ cur, splice (cellsB (List.replicate 36 0)) 0 (cellsB t) = cur := ⟨_, rfl⟩
  rw [hcur] at hN3 hlen
  have HL := Lib.hid (Nat.le_of_eq hlen.symm)
  have HN3 := Lib.hid hN3
  have HBY := Lib.hid hby
  have r0 := hN3.res.cell (j := 0) (v := .int .i64 0) rfl
  have r1 := hN3.res.cell (j := 1) (v := .int .i64 0) rfl
  have rf0 := hN3.res.free 0
  have rf1 := hN3.res.free 1
  have hrl := hN3.res.lt
  have hgl := hN3.glt
  have g0 := hN3.dc.head.cell (j := 0) (v := .pointer (some ⟨a, 0, none⟩)) rfl
  have hdl := hN3.dc.head.lt
  clear hcur hN3 hbw3 hby hlen hb3' HWIN3 HB3 HC d0 HN1 HB1
  by_cases hne : t = []
  · have hx : nxE t ps = none := by unfold nxE; rw [if_pos hne]
    have HX := Lib.hid hx
    have kz : (t.length : Int) = 0 := by rw [hne]; rfl
    have kz2 : ((t.length : Int) == 0) = true := by rw [kz]; rfl
    clear hne hx kz
    go_wp2
    (try simp only [Exit.inBlock, Exit.then])
    exact next_leave rfl rfl ((HN3.out.set 0 _).set 1 _) rfl HL.out (Or.inl ⟨rfl, HX.out, rfl, rfl⟩)
  · have hpos : 0 < t.length := List.length_pos_iff.2 hne
    have kz2 : ((t.length : Int) == 0) = false := by simp; omega
    have kp : (0 : Int) < (t.length : Int) := by omega
    obtain ⟨x, hx⟩ : ∃ x, bt t 0 = x := ⟨_, rfl⟩
    have q0 : w3.cell? ⟨w.heap.size + 1, 0, none⟩ = some (.int .u8 (x : Int)) := by
      obtain ⟨B', off', hAe, _, hcc⟩ := HBY.out hne
      have hc0 := hcc 0 hpos
      rw [hx] at hc0
      cases hAe
      exact hc0
    have HNE := Lib.hid hne
    by_cases h27 : x = 27
    · subst h27
      have hnx : nxE t ps = (if (seqN t).2.2 ≠ 0 then none else some (((seqE ps (seqN t).1 0).1, (seqE ps (seqN t).1 0).2.1), (seqN t).2.1, (seqE ps (seqN t).1 0).2.2)) := by unfold nxE; rw [if_neg hne, if_pos hx]
      have hle := seqN_le t
      have hse := escseq_next t (some ⟨w.heap.size + 1, 0, none⟩) 36 w3 HBY.out ht (by omega)
      obtain ⟨k, n, er, hs⟩ : ∃ k n er, seqN t = (k, n, er) := ⟨_, _, _, rfl⟩
      rw [hs] at hnx hse hle
      simp only at hnx hse hle
      have HNX := Lib.hid hnx
      have HSE := Lib.hid hse
      have HLE := Lib.hid hle
      clear hnx hse hs hx hne hpos hle
      go_wp2_with fail
      (with_reducible refine (HSE.out).mono ?_)
      rintro e w4 ⟨rfl, hb4⟩
      have hN4 := HN3.out.below hb4
      have HN4 := Lib.hid hN4
      have s0 := hN4.res.cell (j := 0) (v := .int .i64 0) rfl
      have s1 := hN4.res.cell (j := 1) (v := .int .i64 0) rfl
      have sf0 := hN4.res.free 0
      have sf1 := hN4.res.free 1
      have hrl4 := hN4.res.lt
      have hgl4 := hN4.glt
      have g4 := hN4.dc.head.cell (j := 0) (v := .pointer (some ⟨a, 0, none⟩)) rfl
      have hdl4 := hN4.dc.head.lt
      clear hb4 hN4 r0 r1 rf0 rf1 g0 q0
      by_cases he : er = 0
      · subst he
        have hx : nxE t ps = some (((seqE ps k 0).1, (seqE ps k 0).2.1), n, (seqE ps k 0).2.2) := by rw [HNX.out, if_neg (by simp)]
        have HX := Lib.hid hx
        clear hx
        go_wp2_with fail
        obtain ⟨w5, hw5⟩ : ∃ w5, w4.alloc (.cells #[.int .i64 k, .int .i64 0] 54) = w5 := ⟨_, rfl⟩
        have hN5 : NxW w w5 d a c N t ps #[.int .i64 0, .int .i64 0] cur := by rw [← hw5]; exact HN4.out.below ((Below.refl _ _).alloc (Nat.le_refl _) _)
        have hbk5 : Blk w5 w4.heap.size #[.int .i64 k, .int .i64 0] 54 := by rw [← hw5]; exact Blk.new _ _ _
        rw [hw5]
        clear hw5
        have hdel : Calls Tryd.prog 61 #[.pointer (some ⟨a, 0, none⟩), .int .i64 0, .int .i64 (n : Int)] w5 fun e w' => e = .returned (.int .i64 0) ∧ Ar w' a c N (t.drop n) ∧ But [a, c] w5 w' := by
          have := delete_ok 0 n w5 hN5.dc.ar (Nat.zero_le _) HLE.out
          simpa using this
        refine hdel.mono ?_
        rintro e w6 ⟨rfl, har6, hb6⟩
        have hlow := HLW.out
        have hN6 : NxW w w6 d a c N (t.drop n) ps #[.int .i64 0, .int .i64 0] cur := hN5.dec (hb6.mono (by intro k hk _; simp at hk ⊢; omega)) ⟨hN5.dc.head.but hb6 (by have := hN5.dc.da; have := hN5.dc.dc; simp; omega), har6, hN5.dc.da, hN5.dc.dc⟩
        have hbk6 := hbk5.but hb6 (by simp; omega)
        have y0 := hbk6.cell (j := 0) (v := .int .i64 k) rfl
        have y1 := hbk6.cell (j := 1) (v := .int .i64 0) rfl
        have hyl := hbk6.lt
        clear hbk5 hbk6
        have HN6 := Lib.hid hN6
        clear hN5 hN6 har6 hb6 hdel hlow
        clear s0 s1 sf0 sf1 g4 hrl4 hgl4 hdl4
        go_wp2_with fail
        refine (sequence_c k 0 w6 HN6.out.dc).mono ?_
        rintro e w7 ⟨rfl, hd7, hb7⟩
        obtain ⟨k1, kc1, ps1, hs1⟩ : ∃ k1 kc1 ps1, seqE ps k 0 = (k1, kc1, ps1) := ⟨_, _, _, rfl⟩
        rw [hs1] at hd7 ⊢
        have HX2 : Hid (nxE t ps = some ((k1, kc1), n, ps1)) := by have := HX.out; rw [hs1] at this; exact this
        have hN7 := HN6.out.dec (hb7.mono (by simp)) hd7
        have HN7 := Lib.hid hN7
        have s0 := hN7.res.cell (j := 0) (v := .int .i64 0) rfl
        have s1 := hN7.res.cell (j := 1) (v := .int .i64 0) rfl
        have sf0 := hN7.res.free 0
        have sf1 := hN7.res.free 1
        have hrl7 := hN7.res.lt
        clear hN7 hb7 hd7 hs1 y0 y1 hyl
        go_wp2
        (try simp only [Exit.inBlock, Exit.then])
        exact next_leave rfl rfl ((HN7.out.set 0 _).set 1 _) rfl HL.out (Or.inr ⟨rfl, n, HX2.out, rfl⟩)
      · have kq : (er != 0) = true := by simpa using he
        have hx : nxE t ps = none := by rw [HNX.out, if_pos he]
        have HX := Lib.hid hx
        clear hx he
        go_wp2
        (try simp only [Exit.inBlock, Exit.then])
        exact next_leave rfl rfl (((HN4.out.set 0 _).set 1 _).below ((Below.refl _ _).alloc (Nat.le_refl _) _)) rfl HL.out (Or.inl ⟨rfl, HX.out, rfl, rfl⟩)
    · have k27 : ((x : Int) == 27) = false := by simp; omega
      have hnx : nxE t ps = (if (next t).2.2 = 7 then none else some (charK ps (if (next t).2.2 = 8 then 65533 else ((next t).1 : Int)), (next t).2.1, ps)) := by unfold nxE; rw [if_neg hne, if_neg (by rw [hx]; exact h27)]
      obtain ⟨f1, f2, f3, _, f5, f6⟩ := next_facts hne
      have hse := nextGo t (some ⟨w.heap.size + 1, 0, none⟩) 36 w3 (HT.out.below HBW3.out) HBY.out ht (by omega)
      obtain ⟨cc, n, f, hs⟩ : ∃ cc n f, next t = (cc, n, f) := ⟨_, _, _, rfl⟩
      rw [hs] at hnx hse f1 f2 f3
      simp only at hnx f1 f2 f3
      have hle : n ≤ t.length := by omega
      have HSE := Lib.hid (hse.mono (R' := fun e w' => e = .returned (.tuple #[.int .i64 cc, .int .i64 n, .int .i64 f]) ∧ Below w3.heap.size w3 w') (fun e w' ⟨he, hb⟩ => ⟨by rw [he]; rfl, hb⟩))
      have HNX := Lib.hid hnx
      have HLE := Lib.hid hle
      clear hnx hse hs hx hne hpos hle f1 f2 f3 f5 f6 h27
      go_wp2_with fail
      (with_reducible refine (HSE.out).mono ?_)
      rintro e w4 ⟨rfl, hb4⟩
      have hN4 := HN3.out.below hb4
      have HN4 := Lib.hid hN4
      have s0 := hN4.res.cell (j := 0) (v := .int .i64 0) rfl
      have s1 := hN4.res.cell (j := 1) (v := .int .i64 0) rfl
      have sf0 := hN4.res.free 0
      have sf1 := hN4.res.free 1
      have hrl4 := hN4.res.lt
      have hgl4 := hN4.glt
      have g4 := hN4.dc.head.cell (j := 0) (v := .pointer (some ⟨a, 0, none⟩)) rfl
      have hdl4 := hN4.dc.head.lt
      clear hb4 hN4 r0 r1 rf0 rf1 g0 q0
      by_cases h7 : f = 7
      · subst h7
        have HX : Hid (nxE t ps = none) := by rw [HNX.out, if_pos rfl]; trivial
        go_wp2
        (try simp only [Exit.inBlock, Exit.then])
        exact next_leave rfl rfl ((HN4.out.set 0 _).set 1 _) rfl HL.out (Or.inl ⟨rfl, HX.out, rfl, rfl⟩)
      · have kf7 : ((f : Int) == 7) = false := by simp; omega
        by_cases h8 : f = 8
        · subst h8
          have HX : Hid (nxE t ps = some (charK ps 65533, n, ps)) := by rw [HNX.out, if_neg (by omega), if_pos rfl]; trivial
          clear h7
          go_wp2_with fail
          obtain ⟨w5, hw5⟩ : ∃ w5, w4 = w5 := ⟨_, rfl⟩
          have hN5 : NxW w w5 d a c N t ps #[.int .i64 0, .int .i64 0] cur := by rw [← hw5]; exact HN4.out
          rw [hw5]
          clear hw5
          have hdel : Calls Tryd.prog 61 #[.pointer (some ⟨a, 0, none⟩), .int .i64 0, .int .i64 (n : Int)] w5 fun e w' => e = .returned (.int .i64 0) ∧ Ar w' a c N (t.drop n) ∧ But [a, c] w5 w' := by
            have := delete_ok 0 n w5 hN5.dc.ar (Nat.zero_le _) HLE.out
            simpa using this
          refine hdel.mono ?_
          rintro e w6 ⟨rfl, har6, hb6⟩
          have hlow := HLW.out
          have hN6 : NxW w w6 d a c N (t.drop n) ps #[.int .i64 0, .int .i64 0] cur := hN5.dec (hb6.mono (by intro k hk _; simp at hk ⊢; omega)) ⟨hN5.dc.head.but hb6 (by have := hN5.dc.da; have := hN5.dc.dc; simp; omega), har6, hN5.dc.da, hN5.dc.dc⟩
          have g6 := hN6.dc.head.lt
          have HN6 := Lib.hid hN6
          clear hN5 hN6 har6 hb6 hdel hlow
          clear s0 s1 sf0 sf1 g4 hrl4 hgl4 hdl4
          go_wp2_with fail
          refine (char_k 65533 w6 HN6.out.dc).mono ?_
          rintro e w7 ⟨rfl, hd7, hb7⟩
          obtain ⟨k1, kc1, hs1⟩ : ∃ k1 kc1, charK ps 65533 = (k1, kc1) := ⟨_, _, rfl⟩
          rw [hs1]
          have HX2 : Hid (nxE t ps = some ((k1, kc1), n, ps)) := by have := HX.out; rw [hs1] at this; exact this
          have hN7 := HN6.out.below hb7
          have HN7 := Lib.hid hN7
          have s0 := hN7.res.cell (j := 0) (v := .int .i64 0) rfl
          have s1 := hN7.res.cell (j := 1) (v := .int .i64 0) rfl
          have sf0 := hN7.res.free 0
          have sf1 := hN7.res.free 1
          have hrl7 := hN7.res.lt
          clear hN7 hb7 hd7 hs1
          go_wp2
          (try simp only [Exit.inBlock, Exit.then])
          exact next_leave rfl rfl ((HN7.out.set 0 _).set 1 _) rfl HL.out (Or.inr ⟨rfl, n, HX2.out, rfl⟩)
        · have kf8 : ((f : Int) == 8) = false := by simp; omega
          have HX : Hid (nxE t ps = some (charK ps (cc : Int), n, ps)) := by rw [HNX.out, if_neg h7, if_neg h8]; trivial
          clear h7 h8
          go_wp2_with fail
          obtain ⟨w5, hw5⟩ : ∃ w5, w4 = w5 := ⟨_, rfl⟩
          have hN5 : NxW w w5 d a c N t ps #[.int .i64 0, .int .i64 0] cur := by rw [← hw5]; exact HN4.out
          rw [hw5]
          clear hw5
          have hdel : Calls Tryd.prog 61 #[.pointer (some ⟨a, 0, none⟩), .int .i64 0, .int .i64 (n : Int)] w5 fun e w' => e = .returned (.int .i64 0) ∧ Ar w' a c N (t.drop n) ∧ But [a, c] w5 w' := by
            have := delete_ok 0 n w5 hN5.dc.ar (Nat.zero_le _) HLE.out
            simpa using this
          refine hdel.mono ?_
          rintro e w6 ⟨rfl, har6, hb6⟩
          have hlow := HLW.out
          have hN6 : NxW w w6 d a c N (t.drop n) ps #[.int .i64 0, .int .i64 0] cur := hN5.dec (hb6.mono (by intro k hk _; simp at hk ⊢; omega)) ⟨hN5.dc.head.but hb6 (by have := hN5.dc.da; have := hN5.dc.dc; simp; omega), har6, hN5.dc.da, hN5.dc.dc⟩
          have g6 := hN6.dc.head.lt
          have HN6 := Lib.hid hN6
          clear hN5 hN6 har6 hb6 hdel hlow
          clear s0 s1 sf0 sf1 g4 hrl4 hgl4 hdl4
          go_wp2_with fail
          refine (char_k (cc : Int) w6 HN6.out.dc).mono ?_
          rintro e w7 ⟨rfl, hd7, hb7⟩
          obtain ⟨k1, kc1, hs1⟩ : ∃ k1 kc1, charK ps (cc : Int) = (k1, kc1) := ⟨_, _, rfl⟩
          rw [hs1]
          have HX2 : Hid (nxE t ps = some ((k1, kc1), n, ps)) := by have := HX.out; rw [hs1] at this; exact this
          have hN7 := HN6.out.below hb7
          have HN7 := Lib.hid hN7
          have s0 := hN7.res.cell (j := 0) (v := .int .i64 0) rfl
          have s1 := hN7.res.cell (j := 1) (v := .int .i64 0) rfl
          have sf0 := hN7.res.free 0
          have sf1 := hN7.res.free 1
          have hrl7 := hN7.res.lt
          clear hN7 hb7 hd7 hs1
          go_wp2
          (try simp only [Exit.inBlock, Exit.then])
          exact next_leave rfl rfl ((HN7.out.set 0 _).set 1 _) rfl HL.out (Or.inr ⟨rfl, n, HX2.out, rfl⟩)
end

end Go.Proofs.YtcakeolnokninaaDoor.Edit

/- Keys of bytes that come in pieces, in plain Lean: what is drained, what is fed. -/
set_option linter.unusedVariables false
set_option linter.unusedSimpArgs false
namespace Go.Proofs.YtcakeolnokninaaDoor.Edit
open Go.RowKit Go.Lib Go.Shelf ChangeShapes Mem Utf UtfP

theorem seqF_short (l : List UInt8) : ∀ (n i : Nat) (oth : Bool), (seqF l n i oth).2.2 ≠ 0 → i + n ≤ max 34 i := by
  intro n
  induction n with
  | zero => intro i oth _; omega
  | succ n ih =>
    intro i oth h
    unfold seqF at h
    split at h
    · exact absurd rfl h
    · split at h
      · exact absurd rfl h
      · rename_i hh
        have hi : ¬ 34 ≤ i := fun x => hh (Or.inr x)
        split at h
        · have := ih _ _ h; omega
        · split at h
          · have := ih _ _ h; omega
          · exact absurd rfl h
theorem seqF_pos (l : List UInt8) : ∀ (n i : Nat) (oth : Bool), 2 ≤ i → (seqF l n i oth).2.2 = 0 → 1 ≤ (seqF l n i oth).2.1 := by
  intro n
  induction n with
  | zero => intro i oth _ h; exact absurd (show (7 : Int) = 0 from h) (by decide)
  | succ n ih =>
    intro i oth hi h
    unfold seqF at h ⊢
    split
    · show 1 ≤ i + 1; omega
    · rename_i h1
      rw [if_neg h1] at h
      split
      · show 1 ≤ i; omega
      · rename_i h2
        rw [if_neg h2] at h
        split
        · rename_i h3
          rw [if_pos h3] at h
          exact ih _ _ (by omega) h
        · rename_i h3
          rw [if_neg h3] at h
          split
          · rename_i h4
            rw [if_pos h4] at h
            exact ih _ _ (by omega) h
          · show 1 ≤ i; omega
theorem take_append_of_le {α : Type} {l m : List α} {k : Nat} (h : k ≤ l.length) : (l ++ m).take k = l.take k := by
  rw [List.take_append, Nat.sub_eq_zero_of_le h]; simp
theorem seqF_append (l m : List UInt8) (h2 : 2 ≤ l.length) : ∀ (n i : Nat) (oth : Bool), i + n = l.length → (seqF l n i oth).2.2 = 0 → ∀ n', n ≤ n' → seqF (l ++ m) n' i oth = seqF l n i oth := by
  intro n
  induction n with
  | zero => intro i oth _ h; exact absurd (show (7 : Int) = 0 from h) (by decide)
  | succ n ih =>
    intro i oth hi h n' hn'
    obtain ⟨k, rfl⟩ : ∃ k, n' = k + 1 := ⟨n' - 1, by omega⟩
    have e1 : bt (l ++ m) i = bt l i := bt_append (by omega)
    have e2 : bt (l ++ m) 1 = bt l 1 := bt_append (by omega)
    have e3 : (l ++ m).take (i + 1) = l.take (i + 1) := take_append_of_le (by omega)
    unfold seqF at h ⊢
    rw [e1, e2, e3]
    split
    · rfl
    · rename_i h1
      rw [if_neg h1] at h
      split
      · rfl
      · rename_i h2
        rw [if_neg h2] at h
        split
        · rename_i h3
          rw [if_pos h3] at h
          exact ih _ _ (by omega) h _ (by omega)
        · rename_i h3
          rw [if_neg h3] at h
          split
          · rename_i h4
            rw [if_pos h4] at h
            exact ih _ _ (by omega) h _ (by omega)
          · rfl

theorem seqN_short {l : List UInt8} (h0 : l ≠ []) (h27 : bt l 0 = 27) (h : (seqN l).2.2 ≠ 0) : l.length ≤ 34 := by
  unfold seqN at h
  rw [if_neg h0, if_neg (by simpa using h27)] at h
  split at h
  · exact absurd rfl h
  · have := seqF_short l _ _ _ h
    omega
theorem seqN_pos {l : List UInt8} (h0 : l ≠ []) (h27 : bt l 0 = 27) (h : (seqN l).2.2 = 0) : 1 ≤ (seqN l).2.1 := by
  unfold seqN at h ⊢
  rw [if_neg h0, if_neg (by simpa using h27)] at h ⊢
  split
  · exact Nat.le_refl _
  · rename_i h1
    rw [if_neg h1] at h
    exact seqF_pos l _ _ _ (Nat.le_refl _) h
theorem seqN_append {l : List UInt8} (m : List UInt8) (h0 : l ≠ []) (h27 : bt l 0 = 27) (h : (seqN l).2.2 = 0) : seqN (l ++ m) = seqN l := by
  have hp := List.length_pos_iff.2 h0
  have e0 : bt (l ++ m) 0 = bt l 0 := bt_append hp
  have hne : l ++ m ≠ [] := by simp [h0]
  have hb27 : ¬ (bt l 0 ≠ 27) := by simpa using h27
  unfold seqN at h ⊢
  rw [if_neg h0, if_neg hb27] at h
  rw [if_neg hne, if_neg h0, e0, if_neg hb27, if_neg hb27]
  by_cases h1 : 1 < l.length
  · have e1 : bt (l ++ m) 1 = bt l 1 := bt_append h1
    rw [e1]
    by_cases hb : bt l 1 ≠ 91 ∧ bt l 1 ≠ 79
    · rw [if_pos ⟨by rw [List.length_append]; omega, hb⟩, if_pos ⟨h1, hb⟩]
    · rw [if_neg (fun x => hb x.2)] at h ⊢
      rw [if_neg (fun x => hb x.2)]
      exact seqF_append l m h1 _ _ _ (by omega) h _ (by rw [List.length_append]; omega)
  · rw [if_neg (fun x => h1 x.1), show l.length - 2 = 0 by omega] at h
    exact absurd (show (7 : Int) = 0 from h) (by decide)

theorem next_short {l : List UInt8} (h : l ≠ []) (h7 : (next l).2.2 = 7) : l.length ≤ 3 := by
  have := (next_facts h).2.2.2.1 h7
  omega

theorem nxE_nil (ps : Bool) : nxE [] ps = none := rfl
theorem nxE_none {t : List UInt8} {ps : Bool} (h : nxE t ps = none) : t.length ≤ 34 := by
  by_cases h0 : t = []
  · subst h0; simp
  · unfold nxE at h
    rw [if_neg h0] at h
    by_cases h27 : bt t 0 = 27
    · rw [if_pos h27] at h
      by_cases hs : (seqN t).2.2 ≠ 0
      · exact seqN_short h0 h27 hs
      · rw [if_neg hs] at h; cases h
    · rw [if_neg h27] at h
      by_cases h7 : (next t).2.2 = 7
      · have := next_short h0 h7; omega
      · rw [if_neg h7] at h; cases h
theorem nxE_some {t : List UInt8} {ps : Bool} {k : Int × Int} {n : Nat} {ps' : Bool} (h : nxE t ps = some (k, n, ps')) : 1 ≤ n ∧ n ≤ t.length := by
  by_cases h0 : t = []
  · subst h0; cases h
  · unfold nxE at h
    rw [if_neg h0] at h
    by_cases h27 : bt t 0 = 27
    · rw [if_pos h27] at h
      by_cases hs : (seqN t).2.2 ≠ 0
      · rw [if_pos hs] at h; cases h
      · rw [if_neg hs] at h
        cases h
        exact ⟨seqN_pos h0 h27 (by simpa using hs), seqN_le t⟩
    · rw [if_neg h27] at h
      by_cases h7 : (next t).2.2 = 7
      · rw [if_pos h7] at h; cases h
      · rw [if_neg h7] at h
        cases h
        obtain ⟨f1, f2, f3, _, f5, f6⟩ := next_facts h0
        omega
theorem nxE_append {t : List UInt8} {ps : Bool} {r : (Int × Int) × Nat × Bool} (h : nxE t ps = some r) (m : List UInt8) : nxE (t ++ m) ps = some r := by
  by_cases h0 : t = []
  · subst h0; cases h
  · have hp := List.length_pos_iff.2 h0
    have e0 : bt (t ++ m) 0 = bt t 0 := bt_append hp
    have hne : t ++ m ≠ [] := by simp [h0]
    unfold nxE at h ⊢
    rw [if_neg h0] at h
    rw [if_neg hne, e0]
    by_cases h27 : bt t 0 = 27
    · rw [if_pos h27] at h ⊢
      by_cases hs : (seqN t).2.2 ≠ 0
      · rw [if_pos hs] at h; cases h
      · rw [seqN_append m h0 h27 (by simpa using hs)]
        exact h
    · rw [if_neg h27] at h ⊢
      by_cases h7 : (next t).2.2 = 7
      · rw [if_pos h7] at h; cases h
      · rw [next_append h0 h7]
        exact h

/-- all whole keys that bytes begin with: the keys, what is left, whether a paste is begun -/
def drF : Nat → List UInt8 → Bool → List (Int × Int) × List UInt8 × Bool
  | 0, t, ps => ([], t, ps)
  | n + 1, t, ps => match nxE t ps with
    | none => ([], t, ps)
    | some (k, m, ps') => (k :: (drF n (t.drop m) ps').1, (drF n (t.drop m) ps').2)
def drain (t : List UInt8) (ps : Bool) : List (Int × Int) × List UInt8 × Bool := drF t.length t ps

theorem drF_more : ∀ (n n' : Nat) (t : List UInt8) (ps : Bool), t.length ≤ n → t.length ≤ n' → drF n t ps = drF n' t ps := by
  intro n
  induction n with
  | zero =>
    intro n' t ps h _
    have : t = [] := List.eq_nil_of_length_eq_zero (by omega)
    subst this
    cases n' <;> rfl
  | succ n ih =>
    intro n' t ps h h'
    cases n' with
    | zero =>
      have : t = [] := List.eq_nil_of_length_eq_zero (by omega)
      subst this
      rfl
    | succ n' =>
      unfold drF
      cases hx : nxE t ps with
      | none => rfl
      | some r =>
        obtain ⟨k, m, ps'⟩ := r
        obtain ⟨h1, h2⟩ := nxE_some hx
        simp only
        rw [ih n' (t.drop m) ps' (by rw [List.length_drop]; omega) (by rw [List.length_drop]; omega)]
theorem drain_none {t : List UInt8} {ps : Bool} (h : nxE t ps = none) : drain t ps = ([], t, ps) := by
  unfold drain
  cases hl : t.length with
  | zero => rfl
  | succ n => unfold drF; rw [h]
theorem drain_some {t : List UInt8} {ps : Bool} {k : Int × Int} {m : Nat} {ps' : Bool} (h : nxE t ps = some (k, m, ps')) : drain t ps = (k :: (drain (t.drop m) ps').1, (drain (t.drop m) ps').2) := by
  obtain ⟨h1, h2⟩ := nxE_some h
  unfold drain
  cases hl : t.length with
  | zero => omega
  | succ n =>
    conv => lhs; unfold drF
    rw [h]
    simp only
    rw [drF_more n (t.drop m).length (t.drop m) ps' (by rw [List.length_drop]; omega) (Nat.le_refl _)]
/-- behind a drain nothing is whole -/
theorem drain_left (t : List UInt8) (ps : Bool) : nxE (drain t ps).2.1 (drain t ps).2.2 = none := by
  have hh : ∀ (n : Nat) (t : List UInt8) (ps : Bool), t.length ≤ n → nxE (drain t ps).2.1 (drain t ps).2.2 = none := by
    intro n
    induction n with
    | zero =>
      intro t ps h
      have : t = [] := List.eq_nil_of_length_eq_zero (by omega)
      subst this
      rfl
    | succ n ih =>
      intro t ps h
      cases hx : nxE t ps with
      | none => rw [drain_none hx]; exact hx
      | some r =>
        obtain ⟨k, m, ps'⟩ := r
        obtain ⟨h1, h2⟩ := nxE_some hx
        rw [drain_some hx]
        exact ih (t.drop m) ps' (by rw [List.length_drop]; omega)
  exact hh t.length t ps (Nat.le_refl _)
/-- more bytes behind: first what was there is drained -/
theorem drain_append (m : List UInt8) (t : List UInt8) (ps : Bool) : drain (t ++ m) ps = ((drain t ps).1 ++ (drain ((drain t ps).2.1 ++ m) (drain t ps).2.2).1, (drain ((drain t ps).2.1 ++ m) (drain t ps).2.2).2) := by
  have hh : ∀ (n : Nat) (t : List UInt8) (ps : Bool), t.length ≤ n → drain (t ++ m) ps = ((drain t ps).1 ++ (drain ((drain t ps).2.1 ++ m) (drain t ps).2.2).1, (drain ((drain t ps).2.1 ++ m) (drain t ps).2.2).2) := by
    intro n
    induction n with
    | zero =>
      intro t ps h
      have : t = [] := List.eq_nil_of_length_eq_zero (by omega)
      subst this
      rfl
    | succ n ih =>
      intro t ps h
      cases hx : nxE t ps with
      | none => rw [drain_none hx]; rfl
      | some r =>
        obtain ⟨k, j, ps'⟩ := r
        obtain ⟨h1, h2⟩ := nxE_some hx
        rw [drain_some hx, drain_some (nxE_append hx m)]
        have e : (t ++ m).drop j = t.drop j ++ m := by
          rw [List.drop_append, Nat.sub_eq_zero_of_le h2]; rfl
        rw [e, ih (t.drop j) ps' (by rw [List.length_drop]; omega)]
        rfl
  exact hh t.length t ps (Nat.le_refl _)

/-- bytes fed one by one -/
def feed : List UInt8 → List UInt8 → Bool → List (Int × Int) × List UInt8 × Bool
  | [], t, ps => ([], t, ps)
  | c :: r, t, ps => ((drain (t ++ [c]) ps).1 ++ (feed r (drain (t ++ [c]) ps).2.1 (drain (t ++ [c]) ps).2.2).1, (feed r (drain (t ++ [c]) ps).2.1 (drain (t ++ [c]) ps).2.2).2)
theorem feed_cons (c : UInt8) (r t : List UInt8) (ps : Bool) : feed (c :: r) t ps = ((drain (t ++ [c]) ps).1 ++ (feed r (drain (t ++ [c]) ps).2.1 (drain (t ++ [c]) ps).2.2).1, (feed r (drain (t ++ [c]) ps).2.1 (drain (t ++ [c]) ps).2.2).2) := rfl
theorem feed_append (m : List UInt8) : ∀ (l t : List UInt8) (ps : Bool), feed (l ++ m) t ps = ((feed l t ps).1 ++ (feed m (feed l t ps).2.1 (feed l t ps).2.2).1, (feed m (feed l t ps).2.1 (feed l t ps).2.2).2) := by
  intro l
  induction l with
  | nil => intro t ps; rfl
  | cons c r ih =>
    intro t ps
    rw [List.cons_append, feed_cons, feed_cons, ih]
    simp only [List.append_assoc]
theorem feed_left : ∀ (l t : List UInt8) (ps : Bool), nxE t ps = none → nxE (feed l t ps).2.1 (feed l t ps).2.2 = none := by
  intro l
  induction l with
  | nil => intro t ps h; exact h
  | cons c r ih => intro t ps h; exact ih _ _ (drain_left _ _)
/-- what is fed is what is drained of all at once -/
theorem feed_drain : ∀ (l t : List UInt8) (ps : Bool), nxE t ps = none → feed l t ps = drain (t ++ l) ps := by
  intro l
  induction l with
  | nil => intro t ps h; rw [List.append_nil, drain_none h]; rfl
  | cons c r ih =>
    intro t ps h
    have e : t ++ c :: r = (t ++ [c]) ++ r := by simp
    rw [e, drain_append, ← ih _ _ (drain_left _ _)]
    rfl

end Go.Proofs.YtcakeolnokninaaDoor.Edit

/- Rows of keys in memory: a slice that a function made. -/
set_option linter.unusedVariables false
set_option linter.unusedSimpArgs false
namespace Go.Proofs.YtcakeolnokninaaDoor.Edit
open Go.RowKit Go.Lib Go.Shelf ChangeShapes Mem Utf UtfP

def cellsK (l : List (Int × Int)) : List Value := l.flatMap fun k => [.int .i64 k.1, .int .i64 k.2]
theorem cellsK_length (l : List (Int × Int)) : (cellsK l).length = l.length * 2 := by
  induction l with
  | nil => rfl
  | cons x r ih =>
    have e : cellsK (x :: r) = .int .i64 x.1 :: .int .i64 x.2 :: cellsK r := rfl
    rw [e, List.length_cons, List.length_cons, ih, List.length_cons]; omega
theorem cellsK_append (l m : List (Int × Int)) : cellsK (l ++ m) = cellsK l ++ cellsK m := by simp [cellsK]
theorem cellsK_at : ∀ (l : List (Int × Int)) (j : Nat) (k : Int × Int), l[j]? = some k → (cellsK l)[j * 2]? = some (.int .i64 k.1) ∧ (cellsK l)[j * 2 + 1]? = some (.int .i64 k.2) := by
  intro l
  induction l with
  | nil => intro j k h; simp at h
  | cons x r ih =>
    intro j k h
    have e : cellsK (x :: r) = .int .i64 x.1 :: .int .i64 x.2 :: cellsK r := rfl
    rw [e]
    cases j with
    | zero => simp at h; subst h; exact ⟨rfl, rfl⟩
    | succ j =>
      have := ih j k (by simpa using h)
      rw [show (j + 1) * 2 = j * 2 + 1 + 1 by omega]
      exact this

theorem infoKey : (Tryd.prog.info? 54).map (fun i => (i.zero, i.size, i.bytes)) = some (some (.agg #[.int .i64 0, .int .i64 0]), 2, 16) := by kernel_rfl
def OwnK (w : World) (B : Nat) (v : Value) (l : List (Int × Int)) : Prop := w.ownsRow B 54 2 v l.length (cellsK l)

theorem OwnK.nil (w : World) (B : Nat) : OwnK w B (.slice none 0 0) [] := ⟨rfl, Or.inl ⟨rfl, rfl⟩⟩
theorem OwnK.lt {w : World} {B : Nat} {v : Value} {l : List (Int × Int)} (h : OwnK w B v l) {k : Nat} (hk : v.ownBlock = some k) : B ≤ k ∧ k < w.heap.size := World.ownsRow.lt h k hk
theorem OwnK.but {S : List Nat} {w w' : World} {B : Nat} {v : Value} {l : List (Int × Int)} (h : OwnK w B v l) (hb : But S w w') (hS : ∀ k ∈ S, k < B) : OwnK w' B v l := by
  obtain ⟨h1, h2 | ⟨g, cap, cur, h3, h4, h5, h6⟩⟩ := h
  · exact ⟨h1, Or.inl h2⟩
  · refine ⟨h1, Or.inr ⟨g, cap, cur, h3, h4, ?_, h6⟩⟩
    rw [hb.block g]
    · exact h5
    · rcases Nat.lt_or_ge g w.heap.size with h' | h'
      · exact h'
      · rw [Array.getElem?_eq_none h'] at h5; cases h5
    · intro hg
      have := hS g hg
      omega
theorem OwnK.below {w w' : World} {B : Nat} {v : Value} {l : List (Int × Int)} (h : OwnK w B v l) (hb : Below w.heap.size w w') : OwnK w' B v l := h.but (But.of_below (S := []) hb) (by simp)
theorem OwnK.base {w : World} {B B' : Nat} {v : Value} {l : List (Int × Int)} (h : OwnK w B v l) (hB : B' ≤ B) : OwnK w B' v l := by
  obtain ⟨h1, h2 | ⟨g, cap, cur, h3, h4, h5⟩⟩ := h
  · exact ⟨h1, Or.inl h2⟩
  · exact ⟨h1, Or.inr ⟨g, cap, cur, h3, Nat.le_trans hB h4, h5⟩⟩
theorem OwnK.new (w : World) (B : Nat) (cs : Array Value) (l : List (Int × Int)) (hcs : cs.toList = cellsK l) (hB : B ≤ w.heap.size) (hm : l.length ≤ maxLen) : OwnK (w.alloc (.cells cs 54)) B (.slice (some ⟨w.heap.size, 0, none⟩) l.length l.length) l := by
  have hsz : cs.size = l.length * 2 := by rw [← Array.length_toList, hcs, cellsK_length]
  refine ⟨by rw [cellsK_length], Or.inr ⟨w.heap.size, l.length, cs, rfl, hB, heap_alloc_new w _, Nat.le_refl _, hm, hsz, ?_⟩⟩
  rw [hcs, ← cellsK_length]; exact List.take_length
/-- keys in memory at an address -/
def KeysAt (w : World) (A : Option Addr) (l : List (Int × Int)) : Prop := CellsAt w A (cellsK l)
theorem OwnK.form {w : World} {B : Nat} {v : Value} {l : List (Int × Int)} (h : OwnK w B v l) : ∃ A cap, v = .slice A l.length cap ∧ l.length ≤ cap ∧ KeysAt w A l ∧ (∀ a, A = some a → B ≤ a.block ∧ a.block < w.heap.size ∧ a.spot = none) ∧ v.ownBlock = A.map (·.block) := by
  rcases h.2 with ⟨rfl, h0⟩ | ⟨g, cap, cur, rfl, hB, hg, hn, hm, hsz, htake⟩
  · have : l = [] := List.eq_nil_of_length_eq_zero h0
    subst this
    exact ⟨none, 0, rfl, Nat.le_refl _, fun h => absurd rfl h, (fun a ha => by cases ha), rfl⟩
  · have hlt : g < w.heap.size := by
      rcases Nat.lt_or_ge g w.heap.size with h' | h'
      · exact h'
      · rw [Array.getElem?_eq_none h'] at hg; cases hg
    refine ⟨some ⟨g, 0, none⟩, cap, rfl, hn, ?_, (fun a ha => by cases ha; exact ⟨hB, hlt, rfl⟩), rfl⟩
    intro _
    refine ⟨g, 0, rfl, hlt, fun j u hu => ?_⟩
    have e := cell_of_row w g j cur 54 (0, 0) hg
    rw [Nat.zero_add, e, ← Array.getElem?_toList]
    rw [← htake] at hu
    have hj : j < l.length * 2 := by
      rcases Nat.lt_or_ge j (l.length * 2) with h' | h'
      · exact h'
      · rw [List.getElem?_take_eq_none h'] at hu; cases hu
    rwa [List.getElem?_take_of_lt hj] at hu
theorem KeysAt.cell {w : World} {A : Option Addr} {l : List (Int × Int)} (h : KeysAt w A l) {j : Nat} {k : Int × Int} (hj : l[j]? = some k) : ∃ b off, A = some ⟨b, off, none⟩ ∧ b < w.heap.size ∧ w.cell? ⟨b, off + j * 2, none⟩ = some (.int .i64 k.1) ∧ w.cell? ⟨b, off + j * 2 + 1, none⟩ = some (.int .i64 k.2) := by
  obtain ⟨h1, h2⟩ := cellsK_at l j k hj
  have hne : cellsK l ≠ [] := by intro e; rw [e] at h1; simp at h1
  obtain ⟨b, off, hA, hb, hc⟩ := h hne
  exact ⟨b, off, hA, hb, hc _ _ h1, by rw [Nat.add_assoc]; exact hc _ _ h2⟩
theorem KeysAt.but {S : List Nat} {w w' : World} {A : Option Addr} {l : List (Int × Int)} (h : KeysAt w A l) (hb : But S w w') (hS : ∀ a, A = some a → a.block ∉ S) : KeysAt w' A l := by
  intro hne
  obtain ⟨b, off, rfl, hlt, hc⟩ := h hne
  refine ⟨b, off, rfl, Nat.lt_of_lt_of_le hlt hb.size, fun j u hu => ?_⟩
  rw [But.cell hb (p := ⟨b, off + j, none⟩) hlt (hS ⟨b, off, none⟩ rfl)]
  exact hc j u hu

theorem wpList_append_keys {w : World} {ops : Array Oper} {rest : List Oper} {o : Oper} {a : Act} {Q : Exit → Act → World → Prop} (hgd : o.guard = none) (s x : Operand)
    (ho : o.op = .call { callee := .builtin .append, args := #[s, x], argTypes := #[42, 42] })
    {B : Nat} {v : Value} {l : List (Int × Int)} (hs : a.eval s = v) (hown : OwnK w B v l) {A : Option Addr} {src : List (Int × Int)} {n c : Nat} (hx : a.eval x = .slice A n c) (hn : src.length = n) (hsrc : KeysAt w A src)
    (hb : l.length + src.length ≤ 1099511627776) (hbase : B ≤ w.heap.size)
    (h : ∀ v' w', OwnK w' B v' (l ++ src) → w.grownBy w' v.ownBlock → wpList Tryd.prog ops Q rest (a.put o.dst v') w') : wpList Tryd.prog ops Q (o :: rest) a w := by
  subst hn
  refine wpList_append_cells hgd s x ho Tryd.underlying42 infoKey rfl (by decide) hs hown hx (by rw [cellsK_length]) hsrc ?_ ?_ ?_ hbase ?_
  · intro u hu
    obtain ⟨c, _, hc⟩ := List.mem_flatMap.1 hu
    simp at hc
    rcases hc with rfl | rfl <;> rfl
  · unfold maxLen; omega
  · omega
  · intro v' w' h2 h3
    refine h v' w' ?_ h3
    unfold OwnK
    rw [List.length_append, cellsK_append]
    exact h2

theorem But.of_grown {S : List Nat} {a w w' : World} {row : Option Nat} (h : But S a w) (hg : w.grownBy w' row) (hr : ∀ k, row = some k → k ∈ S ∨ a.heap.size ≤ k) : But S a w' :=
  ⟨hg.os.trans h.os, hg.tape.trans h.tape, hg.output.trans h.output, Nat.le_trans h.size hg.size, fun k hk hs => (hg.block k (Nat.lt_of_lt_of_le hk h.size) (fun e => by rcases hr k e.symm with h1 | h1; exact hs h1; omega)).trans (h.block k hk hs)⟩

end Go.Proofs.YtcakeolnokninaaDoor.Edit

/- Bytes fed: Feed, walked. -/
set_option linter.unusedVariables false
set_option linter.unusedSimpArgs false
namespace Go.Proofs.YtcakeolnokninaaDoor.Edit
open Go.RowKit Go.Lib Go.Shelf ChangeShapes Mem Utf UtfP

/-- a decoder that was made behind a world of tables -/
structure Dw (w0 w : World) (d a c N : Nat) (t : List UInt8) (ps : Bool) : Prop where
  tabs : Tabs w0
  bel : Below w0.heap.size w0 w
  low : w0.heap.size ≤ d ∧ w0.heap.size ≤ a ∧ w0.heap.size ≤ c
  dc : Dc w d a c N t ps
  fit : 36 ≤ N

section
variable {w0 : World} {d a c N : Nat} {t t' : List UInt8} {ps ps' : Bool}
theorem Dw.tab {w : World} (h : Dw w0 w d a c N t ps) : Tabs w := h.tabs.below h.bel
theorem Dw.go {w w' : World} (h : Dw w0 w d a c N t ps) (hb : But [d, a, c] w w') (hd : Dc w' d a c N t' ps') : Dw w0 w' d a c N t' ps' :=
  ⟨h.tabs, h.bel.trans (hb.below h.bel.size (by have := h.low; simp; omega)), h.low, hd, h.fit⟩
theorem Dw.below {w w' : World} (h : Dw w0 w d a c N t ps) (hb : Below w.heap.size w w') : Dw w0 w' d a c N t ps := h.go (But.of_below hb) (h.dc.below hb)
theorem Dw.lt {w : World} (h : Dw w0 w d a c N t ps) : d < w.heap.size ∧ a < w.heap.size ∧ c < w.heap.size := ⟨h.dc.head.lt, h.dc.ar.head.lt, h.dc.ar.body.lt⟩
theorem Dw.but {S : List Nat} {w w' : World} (h : Dw w0 w d a c N t ps) (hb : But S w w') (h0 : ∀ k ∈ S, w0.heap.size ≤ k) (h1 : d ∉ S) (h2 : a ∉ S) (h3 : c ∉ S) : Dw w0 w' d a c N t ps :=
  ⟨h.tabs, h.bel.trans (hb.below h.bel.size h0), h.low, h.dc.but hb h1 h2 h3, h.fit⟩

theorem bytes_one (w : World) (u : UInt8) (t : TypeId) : BytesAt (w.alloc (.cells #[.int .u8 (u.toNat : Int)] t)) (some ⟨w.heap.size, 0, none⟩) [u] := bytes_new w [u] t _ rfl

theorem Dw.grown {w w' : World} (h : Dw w0 w d a c N t ps) {row : Option Nat} (hg : w.grownBy w' row) {B : Nat} (hr : ∀ k, row = some k → B ≤ k) (hl : d < B ∧ a < B ∧ c < B) (h0 : w0.heap.size ≤ B) : Dw w0 w' d a c N t ps := by
  cases row with
  | none => exact h.but (But.of_grown (But.refl [] w) hg (fun k hk => by cases hk)) (by simp) (by simp) (by simp) (by simp)
  | some k =>
    have := hr k rfl
    exact h.but (But.of_grown (But.refl [k] w) hg (fun k' hk => by cases hk; exact Or.inl (by simp))) (by simp; omega) (by simp; omega) (by simp; omega) (by simp; omega)

theorem src_of {w : World} {A : Option Addr} {l : List UInt8} (h : BytesAt w A l) : Src w A l := by
  intro h0
  obtain ⟨b, off, rfl, hlt, hc⟩ := h (by intro e; rw [e] at h0; simp at h0)
  refine ⟨_, rfl, fun j v hj => ?_⟩
  have hjl : j < l.length := by rw [← cellsB_length]; exact (List.getElem?_eq_some_iff.1 hj).1
  rw [WideShapes.add_plain, hc j hjl]
  rw [cellsB_get l j hjl] at hj
  exact hj

theorem insert_byte (u : UInt8) (W : World) (h : Dw w0 W d a c N t ps) (ht : t.length ≤ 35) (g : Nat) (hsrc : BytesAt W (some ⟨g, 0, none⟩) [u]) (hg : g ≠ c) :
    Calls Tryd.prog 39 #[.pointer (some ⟨a, 0, none⟩), .int .i64 (t.length : Int), .slice (some ⟨g, 0, none⟩) 1 1] W fun e w' => e = .returned (.int .i64 0) ∧ Dw w0 w' d a c N (t ++ [u]) ps ∧ But [d, a, c] W w' := by
  have hf := h.fit
  refine (insert_in t.length (some ⟨g, 0, none⟩) [u] 1 W h.dc.ar (by omega) (Nat.le_refl _) (by rw [List.length_singleton]; omega) (src_of hsrc) (fun ad had _ => by cases had; exact hg)).mono ?_
  rintro e w' ⟨he, har, hb⟩
  rw [List.take_length, List.drop_length, List.append_nil] at har
  have hb' : But [d, a, c] W w' := hb.mono (by intro k hk _; simp at hk ⊢; omega)
  exact ⟨he, h.go hb' ⟨h.dc.head.but hb (by have := h.dc.da; have := h.dc.dc; simp; omega), har, h.dc.da, h.dc.dc⟩, hb'⟩

/-- the outer loop -/
def RFd (w0 w : World) (d a c N n0 : Nat) (l : List UInt8) (R : List (Int × Int) × List UInt8 × Bool) (s6 s16 : Value) (wr : World) : Prop :=
  ∃ (i : Nat) (ks : List (Int × Int)) (t : List UInt8) (ps : Bool), s16 = .int .i64 (i : Int) ∧ i ≤ l.length ∧ Hid (OwnK wr w.heap.size s6 ks) ∧ Hid (Dw w0 wr d a c N t ps) ∧ Hid (But [d, a, c] w wr) ∧ Hid (nxE t ps = none) ∧
    ks.length + t.length ≤ n0 + i ∧ Hid ((ks ++ (feed (l.drop i) t ps).1, (feed (l.drop i) t ps).2) = R)
/-- the inner loop -/
def RFi (w0 w : World) (d a c N n0 i : Nat) (l : List UInt8) (R : List (Int × Int) × List UInt8 × Bool) (s6 : Value) (wr : World) : Prop :=
  ∃ (ks : List (Int × Int)) (t : List UInt8) (ps : Bool), Hid (OwnK wr w.heap.size s6 ks) ∧ Hid (Dw w0 wr d a c N t ps) ∧ Hid (But [d, a, c] w wr) ∧ t.length ≤ 36 ∧
    ks.length + t.length ≤ n0 + i + 1 ∧ Hid ((ks ++ ((drain t ps).1 ++ (feed (l.drop (i + 1)) (drain t ps).2.1 (drain t ps).2.2).1), (feed (l.drop (i + 1)) (drain t ps).2.1 (drain t ps).2.2).2) = R)

/-- how many bytes an arena holds -/
def lenAt (a : Nat) (w : World) : Nat := (RowKit.intOf ((w.cell? ⟨a, 1, none⟩).getD undef)).toNat
theorem lenAt_of {w : World} (h : Ar w a c N t) : lenAt a w = t.length := by
  unfold lenAt
  rw [h.head.cell (j := 1) (v := .int .i64 (t.length : Int)) rfl]
  simp [RowKit.intOf]

set_option maxRecDepth 100000 in
set_option maxHeartbeats 4000000 in
theorem feed_c (l : List UInt8) (A : Option Addr) (cap : Nat) (w : World) (h : Dw w0 w d a c N t ps) (hn : nxE t ps = none) (hA : BytesAt w A l) (hcap : l.length ≤ cap) (hm : l.length ≤ 1000000) (hap : ∀ ad, A = some ad → l ≠ [] → ad.block ∉ [d, a, c]) :
    Calls Tryd.prog 21 #[.pointer (some ⟨d, 0, none⟩), .slice A l.length cap] w fun e w' => ∃ v, e = .returned (.tuple #[v, .int .i64 0]) ∧ OwnK w' w.heap.size v (feed l t ps).1 ∧ Dw w0 w' d a c N (feed l t ps).2.1 (feed l t ps).2.2 ∧ But [d, a, c] w w' := by
  have hlow := h.lt
  have HLW := Lib.hid hlow
  have H := Lib.hid h
  have HN := Lib.hid hn
  have HA := Lib.hid hA
  have HAP := Lib.hid hap
  have hl34 := nxE_none hn
  have HL34 := Lib.hid hl34
  obtain ⟨R, hR⟩ : ∃ R, feed l t ps = R := ⟨_, rfl⟩
  rw [hR]
  have HR := Lib.hid hR
  clear h hn hA hap hlow hl34 hR
  go_enter Tryd.func21, Tryd.ntmps21
  go_wp2
  go_step3
  go_wp2
  go_step3
  go_wp2
  go_loopw [6, 16] (fun s6 s16 wr => RFd w0 w d a c N t.length l R s6 s16 wr) (fun _ i _ => l.length - (RowKit.intOf i).toNat)
  case atStart => exact ⟨0, [], t, ps, rfl, Nat.zero_le _, Lib.hid (OwnK.nil _ _), H, Lib.hid (But.refl _ _), HN, by simp, by unfold Hid; rw [← HR.out]; rfl⟩
  case round =>
    obtain ⟨i, ks, t1, ps1, rfl, hi, HOW, HD, HBT, HNX, hcnt, HF⟩ := hrel
    by_cases hlt : i < l.length
    · have k0 : (i : Int) < (l.length : Int) := by omega
      obtain ⟨B, off, rfl, hB, hc⟩ := HA.out (List.length_pos_iff.1 (by omega : 0 < l.length))
      have hBn : B ∉ [d, a, c] := HAP.out _ rfl (List.length_pos_iff.1 (by omega : 0 < l.length))
      have hd := HD.out
      obtain ⟨u, hu⟩ : ∃ u, l.drop i = u :: l.drop (i + 1) := ⟨l[i], List.drop_eq_getElem_cons hlt⟩
      have hbu : bt l i = u.toNat := by
        have : l[i]? = some u := by have h0 : (l.drop i)[0]? = some u := by rw [hu]; rfl
                                    rw [List.getElem?_drop] at h0; simpa using h0
        unfold bt; rw [List.getD_eq_getElem?_getD, this]; rfl
      have q0 : wr.cell? ⟨B, off + i, none⟩ = some (.int .u8 (u.toNat : Int)) := by
        rw [But.cell HBT.out (p := ⟨B, off + i, none⟩) hB hBn, hc i hlt, hbu]
      have g0 := hd.dc.head.cell (j := 0) (v := .pointer (some ⟨a, 0, none⟩)) rfl
      have hdl := hd.dc.head.lt
      have h34 := nxE_none HNX.out
      have HLEN : Hid (∀ W, Below wr.heap.size wr W → Calls Tryd.prog 31 #[.pointer (some ⟨a, 0, none⟩)] W fun e w' => e = .returned (.int .i64 (t1.length : Int)) ∧ w' = W) := fun W hb => len W (hd.below hb).dc.ar
      have hba : Below wr.heap.size wr ((wr.alloc (.cells #[.int .u8 (u.toNat : Int)] 5)).drew) := ((Below.refl _ _).alloc (Nat.le_refl _) _).drew
      have HINS := Lib.hid (insert_byte u ((wr.alloc (.cells #[.int .u8 (u.toNat : Int)] 5)).drew) (hd.below hba) (by omega) wr.heap.size (bytes_one wr u 5) (by have := hd.lt; omega))
      have HBA := Lib.hid hba
      have HU := Lib.hid hu
      have HH34 := Lib.hid h34
      have HB1 := Lib.hid hB
      have hHC := Lib.hid hc
      have hHBN := Lib.hid hBn
      have h34' : (t1.length : Int) ≤ 34 := by omega
      clear hc hB hBn hbu hba hu hd h34
      go_wp2_with fail
      go_region_held_law (fun W => W.cell? ⟨d, 0, none⟩ = some (.pointer (some ⟨a, 0, none⟩)))
        (first | with_reducible exact HG2.out | exact g0 | exact ((World.cell?_of_block (w := wr) (HBA.out.block d hdl)).trans g0)) (first
        | (go_at_call 31; (first | (with_reducible refine (HLEN.out _ ((Below.refl _ _).drew)).mono ?_) | (with_reducible refine (HLEN.out _ HBA.out).mono ?_)); rintro e w1 ⟨rfl, hq⟩; obtain rfl := hq.symm)
        | (go_at_call 39; (with_reducible refine (HINS.out).mono ?_); rintro e w2 ⟨rfl, hd2, hb2⟩; have HD2 := Lib.hid hd2; have HB2 := Lib.hid hb2; have HG2 : Hid (w2.cell? ⟨d, 0, none⟩ = some (.pointer (some ⟨a, 0, none⟩))) := hd2.dc.head.cell (j := 0) rfl; clear hd2 hb2))
      all_goals
        have hb2' : But [d, a, c] wr w2 := ((But.of_below (S := []) HBA.out).mono (by simp)).trans HB2.out
        have hlow := HLW.out
        have HOW2 : Hid (OwnK w2 w.heap.size u6 ks) := HOW.out.but hb2' (by simp; omega)
        have HBT2 : Hid (But [d, a, c] w w2) := HBT.out.trans hb2'
        have HF1 : Hid ((ks ++ ((drain (t1 ++ [u]) ps1).1 ++ (feed (l.drop (i + 1)) (drain (t1 ++ [u]) ps1).2.1 (drain (t1 ++ [u]) ps1).2.2).1), (feed (l.drop (i + 1)) (drain (t1 ++ [u]) ps1).2.1 (drain (t1 ++ [u]) ps1).2.2).2) = R) := by
          have hF := HF.out
          rw [HU.out, feed_cons] at hF
          exact hF
        clear hb2' hlow q0 g0 hdl hHC HINS HLEN HBA HB2 HG2 HF HOW HD HBT HNX
        go_wp2
        go_loopw [6] (fun s6 wx => RFi w0 w d a c N t.length i l R s6 wx) (fun _ wx => lenAt a wx)
        case atStart => exact ⟨ks, t1 ++ [u], ps1, HOW2, HD2, HBT2, by have := HH34.out; simp; omega, by simp; omega, HF1⟩
        case round =>
          obtain ⟨ks2, t2, ps2, HOW3, HD3, HBT3, h36, hcnt2, HF2⟩ := hrel
          have HNXT := Lib.hid (next_c wr HD3.out.tab HD3.out.dc h36)
          have hlen := lenAt_of HD3.out.dc.ar
          have HLEN := Lib.hid hlen
          clear hlen
          go_wp2_with fail
          (with_reducible refine (HNXT.out).mono ?_)
          rintro e w3 ⟨hbut, hcase⟩
          have hlow := HLW.out
          rcases hcase with ⟨hn, hd, k, kc, rfl⟩ | ⟨k, kc, n, ps3, hn, hd, rfl⟩
          · have hal : Below w3.heap.size w3 (w3.alloc (.cells #[.int .i64 k, .int .i64 kc] 54)) := (Below.refl _ _).alloc (Nat.le_refl _) _
            have hbal : But [d, a, c] wr (w3.alloc (.cells #[.int .i64 k, .int .i64 kc] 54)) := hbut.trans (But.of_below hal)
            have HOW4 : Hid (OwnK (w3.alloc (.cells #[.int .i64 k, .int .i64 kc] 54)) w.heap.size u6 ks2) := HOW3.out.but hbal (by simp; omega)
            have HD4 : Hid (Dw w0 (w3.alloc (.cells #[.int .i64 k, .int .i64 kc] 54)) d a c N t2 ps2) := HD3.out.go hbal (hd.below hal)
            have HBT4 : Hid (But [d, a, c] w (w3.alloc (.cells #[.int .i64 k, .int .i64 kc] 54))) := HBT3.out.trans hbal
            have HN4 := Lib.hid hn
            have HF4 : Hid ((ks2 ++ (feed (l.drop (i + 1)) t2 ps2).1, (feed (l.drop (i + 1)) t2 ps2).2) = R) := by
              have hF := HF2.out
              rw [drain_none hn] at hF
              exact hF
            clear hal hbal hn hd hbut hlow HF2
            go_wp2
            go_roundw
            case rel => exact ⟨i + 1, ks2, t2, ps2, by go_num, by omega, HOW4, HD4, HBT4, HN4, by omega, HF4⟩
            case measure => simp [RowKit.intOf]; omega
          · have hd4 : Dw w0 w3 d a c N (t2.drop n) ps3 := HD3.out.go hbut hd
            have HD4 := Lib.hid hd4
            have HOW4 : Hid (OwnK w3 w.heap.size u6 ks2) := HOW3.out.but hbut (by simp; omega)
            have HBT4 : Hid (But [d, a, c] w w3) := HBT3.out.trans hbut
            obtain ⟨hn1, hn2⟩ := nxE_some hn
            have HF4 : Hid (((ks2 ++ [(k, kc)]) ++ ((drain (t2.drop n) ps3).1 ++ (feed (l.drop (i + 1)) (drain (t2.drop n) ps3).2.1 (drain (t2.drop n) ps3).2.2).1), (feed (l.drop (i + 1)) (drain (t2.drop n) ps3).2.1 (drain (t2.drop n) ps3).2.2).2) = R) := by
              have hF := HF2.out
              rw [drain_some hn] at hF
              unfold Hid
              simpa using hF
            have hl3 := hd4.lt
            have HL3 := Lib.hid hl3
            have hal : Below w3.heap.size w3 ((w3.alloc (.cells #[.int .i64 k, .int .i64 kc] 54)).alloc (.cells #[.int .i64 k, .int .i64 kc] 54)) := by
              have h1 : Below w3.heap.size w3 (w3.alloc (.cells #[.int .i64 k, .int .i64 kc] 54)) := (Below.refl _ _).alloc (Nat.le_refl _) _
              exact h1.alloc h1.size _
            have hsrc : KeysAt ((w3.alloc (.cells #[.int .i64 k, .int .i64 kc] 54)).alloc (.cells #[.int .i64 k, .int .i64 kc] 54)) (some ⟨w3.heap.size + 1, 0, none⟩) [(k, kc)] := by
              have h1 := CellsAt.new (w3.alloc (.cells #[.int .i64 k, .int .i64 kc] 54)) #[.int .i64 k, .int .i64 kc] 54 (cellsK [(k, kc)]) rfl
              have h2 : (w3.alloc (.cells #[.int .i64 k, .int .i64 kc] 54)).heap.size = w3.heap.size + 1 := Array.size_push _
              rw [h2] at h1
              exact h1
            have HSRC := Lib.hid hsrc
            have HAL := Lib.hid hal
            have HOWW := Lib.hid (HOW4.out.below hal)
            have hw5 : w.heap.size ≤ ((w3.alloc (.cells #[.int .i64 k, .int .i64 kc] 54)).alloc (.cells #[.int .i64 k, .int .i64 kc] 54)).heap.size := Nat.le_trans HBT4.out.size hal.size
            have HW5 := Lib.hid hw5
            clear hn hd hbut hlow HF2 hd4 hl3 hsrc hal hw5
            go_wp2_with (at_builtin; (refine wpList_append_keys (B := w.heap.size) (l := ks2) (src := [(k, kc)]) (A := some ⟨w3.heap.size + 1, 0, none⟩) (v := u6) (n := 1) (c := 1) rfl _ _ rfl rfl ?_ rfl rfl ?_ ?_ ?_ ?_))
            · exact HOWW.out
            · exact HSRC.out
            · have := HL34.out; simp; omega
            · exact HW5.out
            intro v' w5 hown5 hg5
            have hlow := HLW.out
            have HOW5 := Lib.hid hown5
            have HD5 : Hid (Dw w0 w5 d a c N (t2.drop n) ps3) := (HD4.out.below HAL.out).grown hg5 (B := w.heap.size) (fun k hk => (HOWW.out.lt hk).1) (by omega) (by have := H.out.bel.size; omega)
            have HBT5 : Hid (But [d, a, c] w w5) := But.of_grown (HBT4.out.trans (But.of_below HAL.out)) hg5 (fun k hk => Or.inr (HOWW.out.lt hk).1)
            clear HAL HSRC HOWW HW5
            clear hown5 hg5 hlow
            go_wp2
            go_roundw
            case rel => exact ⟨ks2 ++ [(k, kc)], t2.drop n, ps3, HOW5, HD5, HBT5, by rw [List.length_drop]; omega, by rw [List.length_append, List.length_singleton, List.length_drop]; omega, HF4⟩
            case measure =>
              rw [HLEN.out, lenAt_of HD5.out.dc.ar, List.length_drop]
              omega
    · have hil : i = l.length := by omega
      have kk : decide ((i : Int) < (l.length : Int)) = false := by simp; omega
      have kk' : decide (i < l.length) = false := by simp; omega
      have hF := HF.out
      rw [hil, List.drop_length] at hF
      have hF2 : (ks, t1, ps1) = R := by rw [← hF]; simp [feed]
      have HF2 := Lib.hid hF2
      clear hF hF2 hlt hil
      go_wp2
      rw [Exit.noGoto_ret]
      go_ret2
      refine ⟨_, rfl, ?_, ?_, HBT.out⟩
      · rw [← HF2.out]; exact HOW.out
      · rw [← HF2.out]; exact HD.out
end

end Go.Proofs.YtcakeolnokninaaDoor.Edit

/- The laws' helpers: whispererref08.Same, begin, alive. -/
set_option linter.unusedVariables false
set_option linter.unusedSimpArgs false
namespace Go.Proofs.YtcakeolnokninaaDoor.Edit
open Go.RowKit Go.Lib Go.Shelf ChangeShapes Mem Utf UtfP

set_option maxHeartbeats 1000000 in
theorem same_c (l m : List (Int × Int)) (A B : Option Addr) (ca cb : Nat) (w : World) (hA : KeysAt w A l) (hB : KeysAt w B m) (hl : l.length ≤ 1099511627776) :
    Calls Tryd.prog 22 #[.slice A l.length ca, .slice B m.length cb] w fun e w' => e = .returned (.bool (decide (l = m))) ∧ Below w.heap.size w w' := by
  have HA := Lib.hid hA
  have HB := Lib.hid hB
  clear hA hB
  obtain ⟨R, hR⟩ : ∃ R, decide (l = m) = R := ⟨_, rfl⟩
  rw [hR]
  have HR := Lib.hid hR
  clear hR
  by_cases hlen : l.length = m.length
  · rw [← hlen]
    go_enter Tryd.func22, Tryd.ntmps22
    go_wp2
    go_loopw [5] (fun i wr => ∃ j : Nat, i = .int .i64 (j : Int) ∧ j ≤ l.length ∧ Hid (l.take j = m.take j) ∧ Below w.heap.size w wr) (fun i _ => l.length - (RowKit.intOf i).toNat)
    case atStart => exact ⟨0, rfl, Nat.zero_le _, by unfold Hid; simp, Below.refl _ _⟩
    case round =>
      obtain ⟨j, rfl, hj, HT, hbw⟩ := hrel
      by_cases hlt : j < l.length
      · have k0 : (j : Int) < (l.length : Int) := by omega
        obtain ⟨x, hx⟩ : ∃ x, l[j]? = some x := ⟨_, List.getElem?_eq_getElem hlt⟩
        obtain ⟨y, hy⟩ : ∃ y, m[j]? = some y := ⟨_, List.getElem?_eq_getElem (by omega)⟩
        obtain ⟨b1, o1, rfl, hb1, p0, p1⟩ := HA.out.cell hx
        obtain ⟨b2, o2, rfl, hb2, q0, q1⟩ := HB.out.cell hy
        rw [← World.cell?_of_block (w := w) (w' := wr) (a := ⟨b1, o1 + j * 2, none⟩) (hbw.block b1 hb1)] at p0
        rw [← World.cell?_of_block (w := w) (w' := wr) (a := ⟨b1, o1 + j * 2 + 1, none⟩) (hbw.block b1 hb1)] at p1
        rw [← World.cell?_of_block (w := w) (w' := wr) (a := ⟨b2, o2 + j * 2, none⟩) (hbw.block b2 hb2)] at q0
        rw [← World.cell?_of_block (w := w) (w' := wr) (a := ⟨b2, o2 + j * 2 + 1, none⟩) (hbw.block b2 hb2)] at q1
        have HX := Lib.hid hx
        have HY := Lib.hid hy
        have HBW := Lib.hid hbw
        obtain ⟨x0, x1⟩ := x
        obtain ⟨y0, y1⟩ := y
        simp only at p0 p1 q0 q1
        clear hx hy hb1 hb2 hbw
        by_cases e0 : x0 = y0
        · by_cases e1 : x1 = y1
          · subst e0 e1
            have h0 : (x0 == x0) = true := by simp
            have h1 : (x1 == x1) = true := by simp
            go_wp2
            go_region
            go_goals
            all_goals
              go_wp2
              go_roundw
              case rel => exact ⟨j + 1, by go_num, by omega, by unfold Hid; rw [List.take_add_one, List.take_add_one, HT.out, HX.out, HY.out], HBW.out.drew⟩
              case measure => simp [RowKit.intOf]; omega
          · have h0 : (x0 == y0) = true := by simpa using e0
            have h1 : (x1 == y1) = false := by simpa using e1
            have hne : l ≠ m := by
              intro h
              subst h
              have := HX.out
              rw [HY.out] at this
              injection this with this
              injection this with a1 a2
              exact e1 a2.symm
            have HR2 : Hid (R = false) := by rw [← HR.out]; exact decide_eq_false hne
            clear hne e0 e1
            go_wp2
            go_region
            go_goals
            all_goals
              go_wp2
              go_ret
              exact ⟨by rw [HR2.out]; rfl, HBW.out.drew⟩
        · have h0 : (x0 == y0) = false := by simpa using e0
          have hne : l ≠ m := by
            intro h
            subst h
            have := HX.out
            rw [HY.out] at this
            injection this with this
            injection this with a1 a2
            exact e0 a1.symm
          have HR2 : Hid (R = false) := by rw [← HR.out]; exact decide_eq_false hne
          clear hne e0
          go_wp2
          go_region
          go_goals
          all_goals
            go_wp2
            go_ret
            exact ⟨by rw [HR2.out]; rfl, HBW.out.drew⟩
      · have hjl : j = l.length := by omega
        have hge : decide ((j : Int) < (l.length : Int)) = false := by simp; omega
        have hge' : decide (j < l.length) = false := by simp; omega
        have hge3 : decide (j < m.length) = false := by simp; omega
        have HR2 : Hid (R = true) := by
          rw [← HR.out]
          have h1 := HT.out
          rw [hjl, List.take_length, hlen, List.take_length] at h1
          exact decide_eq_true h1
        have HBW := Lib.hid hbw
        clear hlt hjl hbw
        go_wp2
        go_ret
        exact ⟨by rw [HR2.out]; rfl, HBW.out⟩
  · have k1 : ((l.length : Int) != (m.length : Int)) = true := by rw [bne_iff_ne]; omega
    have HR2 : Hid (R = false) := by
      rw [← HR.out]
      exact decide_eq_false (fun h => hlen (by rw [h]))
    clear hlen
    go_enter Tryd.func22, Tryd.ntmps22
    go_wp2
    go_ret
    exact ⟨by rw [HR2.out]; rfl, Below.refl _ _⟩

/-- an arena, and a decoder on it -/
theorem begin_c (w : World) (hT : Tabs w) : Calls Tryd.prog 19 #[] w fun e w' => ∃ a c d, e = .returned (.tuple #[.pointer (some ⟨a, 0, none⟩), .pointer (some ⟨d, 0, none⟩)]) ∧ Dw w w' d a c 40 [] false ∧ Below w.heap.size w w' := by
  have HT := Lib.hid hT
  have H1 := Lib.hid (fun W => new_ex 40 (by decide) (by decide) W)
  clear hT
  go_enter Tryd.func19, Tryd.ntmps19
  go_wp2_with fail
  refine (H1.out _).mono ?_
  rintro e w1 ⟨a, c, rfl, ha, hc, har, hb1⟩
  have H2 := Lib.hid (newD w1 har (by decide))
  have HB1 := Lib.hid hb1
  clear har hb1
  go_wp2_with fail
  refine (H2.out).mono ?_
  rintro e w2 ⟨d, rfl, hd, hdc, hb2⟩
  have HDC := Lib.hid hdc
  have HB2 := Lib.hid hb2
  clear hdc hb2
  go_wp2
  go_ret2
  have hs := HB1.out.size
  have hbel : Below w.heap.size w w2 := HB1.out.trans (HB2.out.below hs (by simp; omega))
  exact ⟨a, c, d, rfl, ⟨HT.out, hbel, ⟨by omega, ha, hc⟩, HDC.out, by decide⟩, hbel⟩

theorem feed_nil (v : Value) (w : World) : Calls Tryd.prog 21 #[.pointer none, v] w fun e w' => e = .returned (.tuple #[.slice none 0 0, .int .i64 1]) ∧ w' = w := by
  go_enter Tryd.func21, Tryd.ntmps21
  go_wp2
  go_step3
  go_wp2
  (try rw [Exit.noGoto_ret])
  go_ret2
  exact ⟨rfl, rfl⟩

theorem feed1 : feed [27, 91] [] false = ([], [27, 91], false) := by kernel_rfl
theorem feed2 : feed [68, 226, 130] [27, 91] false = ([(4, 0)], [226, 130], false) := by kernel_rfl
theorem feed3 : feed [65] [226, 130] false = ([(0, 65533), (0, 65)], [], false) := by kernel_rfl

theorem lit_bytes (w : World) (l : List UInt8) (cs : Array Value) (hcs : cs.toList = cellsU l) : BytesAt (w.alloc (.cells cs 5)) (some ⟨w.heap.size, 0, none⟩) l := bytes_new w l _ cs hcs

section
variable {w0 : World} {d a c N : Nat} {t : List UInt8} {ps : Bool}
/-- bytes fed that were just built -/
theorem feed_new (l : List UInt8) (n : Nat) (cs : Array Value) (w : World) (h : Dw w0 w d a c N t ps) (hn : nxE t ps = none) (hcs : cs.toList = cellsU l) (hl : l.length = n) (hm : n ≤ 1000000) (R : List (Int × Int) × List UInt8 × Bool) (hR : feed l t ps = R) :
    Calls Tryd.prog 21 #[.pointer (some ⟨d, 0, none⟩), .slice (some ⟨w.heap.size, 0, none⟩) n n] (w.alloc (.cells cs 5)) fun e w' => ∃ v, e = .returned (.tuple #[v, .int .i64 0]) ∧ OwnK w' w.heap.size v R.1 ∧ Dw w0 w' d a c N R.2.1 R.2.2 ∧ But [d, a, c] w w' := by
  subst hl hR
  have hal : Below w.heap.size w (w.alloc (.cells cs 5)) := (Below.refl _ _).alloc (Nat.le_refl _) _
  have hlt := h.lt
  refine (feed_c l (some ⟨w.heap.size, 0, none⟩) l.length _ (h.below hal) hn (lit_bytes w l cs hcs) (Nat.le_refl _) hm (fun ad had _ => by cases had; simp; omega)).mono ?_
  rintro e w' ⟨v, he, ho, hd, hb⟩
  exact ⟨v, he, ho.base hal.size, hd, (But.of_below hal).trans hb⟩
end

set_option maxHeartbeats 2000000 in
theorem alive_c (w : World) (hT : Tabs w) : Calls Tryd.prog 20 #[] w fun e w' => e = .returned (.bool true) ∧ Below w.heap.size w w' := by
  have H1 := Lib.hid (begin_c w hT)
  clear hT
  go_enter Tryd.func20, Tryd.ntmps20
  go_wp2_with fail
  refine (H1.out).mono ?_
  rintro e w1 ⟨a, c, d, rfl, hd1, hb1⟩
  have HB1 := Lib.hid hb1
  have HF1 := Lib.hid (feed_new [27, 91] 2 #[.int .u8 27, .int .u8 91] w1 hd1 rfl rfl rfl (by decide) _ feed1)
  have HD1 := Lib.hid hd1
  have HLOW := Lib.hid (show w.heap.size ≤ d ∧ w.heap.size ≤ a ∧ w.heap.size ≤ c from hd1.low)
  clear hd1 hb1
  go_wp2_with fail
  refine (HF1.out).mono ?_
  rintro e w2 ⟨v2, rfl, ho2, hd2, hb2⟩
  have HB2 : Hid (Below w.heap.size w w2) := HB1.out.trans (hb2.below HB1.out.size (by have := HLOW.out; simp; omega))
  have HF2 := Lib.hid (feed_new [68, 226, 130] 3 #[.int .u8 68, .int .u8 226, .int .u8 130] w2 hd2 rfl rfl rfl (by decide) _ feed2)
  obtain ⟨A2, cap2, rfl, _, _, _, _⟩ := ho2.form
  have hlt2 := hd2.lt
  have HLT2 := Lib.hid hlt2
  rw [List.length_nil]
  clear ho2 hd2 hb2 hlt2
  go_wp2_with fail
  refine (HF2.out).mono ?_
  rintro e w3 ⟨v3, rfl, ho3, hd3, hb3⟩
  have HB3 : Hid (Below w.heap.size w w3) := HB2.out.trans (hb3.below HB2.out.size (by have := HLOW.out; simp; omega))
  have HF3 := Lib.hid (feed_new [65] 1 #[.int .u8 65] w3 hd3 rfl rfl rfl (by decide) _ feed3)
  have hlt3 := hd3.lt
  have HO3 := Lib.hid ho3
  clear ho3 hd3 hb3
  go_wp2_with fail
  refine (HF3.out).mono ?_
  rintro e w4 ⟨v4, rfl, ho4, hd4, hb4⟩
  have HB4 : Hid (Below w.heap.size w w4) := HB3.out.trans (hb4.below HB3.out.size (by have := HLOW.out; simp; omega))
  have hO3' := HO3.out.but hb4 (by have := HLT2.out; simp; omega)
  obtain ⟨A3, cap3, rfl, hc3, hk3, hA3, _⟩ := hO3'.form
  obtain ⟨A4, cap4, rfl, hc4, hk4, hA4, _⟩ := ho4.form
  obtain ⟨g3, o3, rfl, hg3, p0, p1⟩ := hk3.cell (j := 0) (k := (4, 0)) rfl
  have p0' : w4.cell? ⟨g3, o3, none⟩ = some (.int .i64 4) := by simpa using p0
  have hal : Below w4.heap.size w4 (w4.alloc (.cells #[.int .i64 0, .int .i64 65533, .int .i64 0, .int .i64 65] 54)) := (Below.refl _ _).alloc (Nat.le_refl _) _
  have hsame := same_c [(0, 65533), (0, 65)] [(0, 65533), (0, 65)] A4 (some ⟨w4.heap.size, 0, none⟩) cap4 2 (w4.alloc (.cells #[.int .i64 0, .int .i64 65533, .int .i64 0, .int .i64 65] 54)) (KeysAt.but (S := []) hk4 (But.of_below hal) (by simp)) (CellsAt.new w4 _ _ _ rfl) (by decide)
  have HS := Lib.hid (hsame.mono (R' := fun e w' => e = .returned (.bool true) ∧ Below _ _ w') (fun e w' ⟨he, hb⟩ => ⟨by rw [he]; rfl, hb⟩))
  have HAL := Lib.hid hal
  rw [show [((4 : Int), (0 : Int))].length = 1 from rfl, show [((0 : Int), (65533 : Int)), (0, 65)].length = 2 from rfl]
  clear hO3' hc3 hk3 hA3 hc4 hk4 hA4 p0 p1 hal hsame hb4 hd4 ho4 hlt3
  go_wp2_with fail
  refine (HS.out).mono ?_
  rintro e w5 ⟨rfl, hb5⟩
  have HB5 : Hid (Below w.heap.size w w5) := (HB4.out.trans (HAL.out.mono HB4.out.size)).trans (hb5.mono (Nat.le_trans HB4.out.size HAL.out.size))
  clear hb5
  go_wp2
  go_ret
  exact ⟨rfl, HB5.out⟩

end Go.Proofs.YtcakeolnokninaaDoor.Edit

/- Two decoders side by side; the calls on them. -/
set_option linter.unusedVariables false
set_option linter.unusedSimpArgs false
namespace Go.Proofs.YtcakeolnokninaaDoor.Edit
open Go.RowKit Go.Lib Go.Shelf ChangeShapes Mem Utf UtfP

theorem drain_count (t : List UInt8) (ps : Bool) : (drain t ps).1.length + (drain t ps).2.1.length ≤ t.length := by
  have hh : ∀ (n : Nat) (t : List UInt8) (ps : Bool), t.length ≤ n → (drain t ps).1.length + (drain t ps).2.1.length ≤ t.length := by
    intro n
    induction n with
    | zero =>
      intro t ps h
      have : t = [] := List.eq_nil_of_length_eq_zero (by omega)
      subst this
      exact Nat.le_refl _
    | succ n ih =>
      intro t ps h
      cases hx : nxE t ps with
      | none => rw [drain_none hx]; simp
      | some r =>
        obtain ⟨k, m, ps'⟩ := r
        obtain ⟨h1, h2⟩ := nxE_some hx
        rw [drain_some hx]
        have := ih (t.drop m) ps' (by rw [List.length_drop]; omega)
        rw [List.length_drop] at this
        simp only [List.length_cons]
        omega
  exact hh t.length t ps (Nat.le_refl _)
theorem feed_count : ∀ (l t : List UInt8) (ps : Bool), (feed l t ps).1.length + (feed l t ps).2.1.length ≤ t.length + l.length := by
  intro l
  induction l with
  | nil => intro t ps; simp [feed]
  | cons c r ih =>
    intro t ps
    rw [feed_cons]
    have h1 := ih (drain (t ++ [c]) ps).2.1 (drain (t ++ [c]) ps).2.2
    have h2 := drain_count (t ++ [c]) ps
    rw [List.length_append, List.length_singleton] at h2
    simp only [List.length_append, List.length_cons]
    omega

/-- what is left, as keys -/
def lastKs (t : List UInt8) : List (Int × Int) := if t = [] then [] else [lastK (bt t 0 : Int)]

section
variable {w0 : World} {d a c N : Nat} {t : List UInt8} {ps : Bool}
theorem Dw.base {w w1 : World} (h : Dw w1 w d a c N t ps) (hT : Tabs w0) (hb : Below w0.heap.size w0 w1) : Dw w0 w d a c N t ps :=
  ⟨hT, hb.trans (h.bel.mono hb.size), ⟨Nat.le_trans hb.size h.low.1, Nat.le_trans hb.size h.low.2.1, Nat.le_trans hb.size h.low.2.2⟩, h.dc, h.fit⟩

/-- bytes fed that lie in the world of the tables -/
theorem feed_w (l : List UInt8) (A : Option Addr) (cap : Nat) (w : World) (h : Dw w0 w d a c N t ps) (hn : nxE t ps = none) (hA : BytesAt w0 A l) (hcap : l.length ≤ cap) (hm : l.length ≤ 1000000) :
    Calls Tryd.prog 21 #[.pointer (some ⟨d, 0, none⟩), .slice A l.length cap] w fun e w' => ∃ v, e = .returned (.tuple #[v, .int .i64 0]) ∧ OwnK w' w.heap.size v (feed l t ps).1 ∧ Dw w0 w' d a c N (feed l t ps).2.1 (feed l t ps).2.2 ∧ But [d, a, c] w w' :=
  feed_c l A cap w h hn (hA.below h.bel) hcap hm (fun ad had hne => by
    obtain ⟨b, off, hA', hlt, _⟩ := hA hne
    rw [had] at hA'
    cases hA'
    have := h.low
    simp; omega)

theorem reset_w (w : World) (h : Dw w0 w d a c N t ps) :
    Calls Tryd.prog 26 #[.pointer (some ⟨d, 0, none⟩)] w fun e w' => e = .returned (.tuple #[]) ∧ Dw w0 w' d a c N [] false ∧ But [d, a, c] w w' :=
  (reset_c w h.dc).mono fun e w' ⟨he, hd, hb⟩ => ⟨he, h.go hb hd, hb⟩

theorem finish_w (w : World) (h : Dw w0 w d a c N t ps) :
    Calls Tryd.prog 28 #[.pointer (some ⟨d, 0, none⟩)] w fun e w' => ∃ v, e = .returned (.tuple #[v, .int .i64 0]) ∧ OwnK w' w.heap.size v (lastKs t) ∧ Dw w0 w' d a c N [] ps ∧ But [d, a, c] w w' := by
  by_cases ht : t = []
  · subst ht
    refine (finish_none w h.dc).mono ?_
    rintro e w' ⟨he, rfl⟩
    exact ⟨_, he, OwnK.nil _ _, h, But.refl _ _⟩
  · refine (finish_some w h.dc (List.length_pos_iff.2 ht)).mono ?_
    rintro e w' ⟨g, he, hg, hblk, hd, hb⟩
    have hb' : But [d, a, c] w w' := hb.mono (by intro k hk _; simp at hk ⊢; omega)
    refine ⟨_, he, ?_, h.go hb' hd, hb'⟩
    unfold lastKs
    rw [if_neg ht]
    refine ⟨rfl, Or.inr ⟨g, 1, _, rfl, hg, hblk, Nat.le_refl _, by unfold maxLen; decide, rfl, rfl⟩⟩

theorem held_w (w : World) (h : Dw w0 w d a c N t ps) : Calls Tryd.prog 25 #[.pointer (some ⟨d, 0, none⟩)] w fun e w' => e = .returned (.int .i64 (t.length : Int)) ∧ w' = w := heldD w h.dc
theorem pastes_w (w : World) (h : Dw w0 w d a c N t ps) : Calls Tryd.prog 24 #[.pointer (some ⟨d, 0, none⟩)] w fun e w' => e = .returned (.bool ps) ∧ w' = w := pastes_c w h.dc
theorem len_w (w : World) (h : Dw w0 w d a c N t ps) : Calls Tryd.prog 31 #[.pointer (some ⟨a, 0, none⟩)] w fun e w' => e = .returned (.int .i64 (t.length : Int)) ∧ w' = w := len w h.dc.ar
end

/-- two decoders, apart -/
structure Two (w0 w : World) (d a c : Nat) (t : List UInt8) (ps : Bool) (e b g : Nat) (u : List UInt8) (qs : Bool) : Prop where
  one : Dw w0 w d a c 40 t ps
  two : Dw w0 w e b g 40 u qs
  apart : d < e ∧ d < b ∧ d < g ∧ a < e ∧ a < b ∧ a < g ∧ c < e ∧ c < b ∧ c < g

section
variable {w0 w w' : World} {d a c e b g : Nat} {t t' u u' : List UInt8} {ps ps' qs qs' : Bool}
theorem Two.left (h : Two w0 w d a c t ps e b g u qs) (hd : Dw w0 w' d a c 40 t' ps') (hb : But [d, a, c] w w') : Two w0 w' d a c t' ps' e b g u qs := by
  have := h.apart
  exact ⟨hd, h.two.but hb (by have := h.one.low; simp; omega) (by simp; omega) (by simp; omega) (by simp; omega), h.apart⟩
theorem Two.right (h : Two w0 w d a c t ps e b g u qs) (hd : Dw w0 w' e b g 40 u' qs') (hb : But [e, b, g] w w') : Two w0 w' d a c t ps e b g u' qs' := by
  have := h.apart
  exact ⟨h.one.but hb (by have := h.two.low; simp; omega) (by simp; omega) (by simp; omega) (by simp; omega), hd, h.apart⟩
theorem Two.grown (h : Two w0 w d a c t ps e b g u qs) {row : Option Nat} (hg : w.grownBy w' row) {B : Nat} (hr : ∀ k, row = some k → B ≤ k) (hl : d < B ∧ a < B ∧ c < B) (hl2 : e < B ∧ b < B ∧ g < B) (h0 : w0.heap.size ≤ B) : Two w0 w' d a c t ps e b g u qs :=
  ⟨h.one.grown hg hr hl h0, h.two.grown hg hr hl2 h0, h.apart⟩
theorem Two.below (h : Two w0 w d a c t ps e b g u qs) (hb : Below w.heap.size w w') : Two w0 w' d a c t ps e b g u qs := ⟨h.one.below hb, h.two.below hb, h.apart⟩
end

end Go.Proofs.YtcakeolnokninaaDoor.Edit

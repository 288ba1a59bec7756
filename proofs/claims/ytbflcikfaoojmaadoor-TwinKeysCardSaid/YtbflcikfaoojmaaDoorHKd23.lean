/- The document's reading of bytes: whispererref10.Read, walked. -/
import Derived.Test.YtbflcikfaoojmaaDoorHKd22
import Derived.Test.YtbflcikfaoojmaaDoorGK2
import Derived.Test.YtbflcikfaoojmaaDoorHKd4
import Derived.Test.YtbflcikfaoojmaaDoorHUtfS
import Derived.Test.YtbflcikfaoojmaaDoorHCut
import Derived.Deep.CutBlock
import Derived.Deep.DeepCutAuto
set_option linter.unusedVariables false
set_option linter.unusedSimpArgs false
namespace Go.Proofs.YtbflcikfaoojmaaDoor.Edit
open Go.RowKit Go.Lib Go.Shelf ChangeShapes Mem Utf UtfP

theorem OwnB.butR {S : List Nat} {w w' : World} {B : Nat} {v : Value} {l : List UInt8} (h : OwnB w B v l) (hb : But S w w') (hS : ∀ k ∈ S, k < B) : OwnB w' B v l := by
  obtain ⟨h1, h2 | ⟨g, cap, cur, h3, h4, h5, h6⟩⟩ := h
  · exact ⟨h1, Or.inl h2⟩
  · refine ⟨h1, Or.inr ⟨g, cap, cur, h3, h4, ?_, h6⟩⟩
    rw [hb.block g]
    · exact h5
    · rcases Nat.lt_or_ge g w.heap.size with h' | h'
      · exact h'
      · rw [Array.getElem?_eq_none h'] at h5; cases h5
    · intro hg
      have := hS g hg
      omega
theorem OwnB.baseR {w : World} {B B' : Nat} {v : Value} {l : List UInt8} (h : OwnB w B v l) (hB : B' ≤ B) : OwnB w B' v l := by
  obtain ⟨h1, h2 | ⟨g, cap, cur, h3, h4, h5⟩⟩ := h
  · exact ⟨h1, Or.inl h2⟩
  · exact ⟨h1, Or.inr ⟨g, cap, cur, h3, Nat.le_trans hB h4, h5⟩⟩
theorem Blk.grown {w w' : World} {b : Nat} {cs : Array Value} {t : TypeId} {row : Option Nat} (h : Blk w b cs t) (hg : w.grownBy w' row) (hr : ∀ k, row = some k → b ≠ k) : Blk w' b cs t :=
  (hg.block b h.lt (fun e => hr b e.symm rfl)).trans h

theorem seqE_ps (ps : Bool) (k : Int) : (seqE ps k 0).2.2 = (if (seqE ps k 0).1 = 13 ∨ (seqE ps k 0).1 = 14 then decide ((seqE ps k 0).1 = 13) else ps) ∧ (seqE ps k 0).2.1 = 0 := by
  unfold seqE
  by_cases h14 : k = 14
  · subst h14; cases ps <;> exact ⟨rfl, rfl⟩
  · by_cases h13 : k = 13
    · subst h13; cases ps <;> exact ⟨rfl, rfl⟩
    · have e14 : (k == 14) = false := by simpa using h14
      have e13 : (k == 13) = false := by simpa using h13
      rw [e14, e13]
      cases ps
      · simp [h13, h14]
      · simp
theorem kindOf_ne : ∀ c : Int, kindOf c ≠ 13 ∧ kindOf c ≠ 14 := by
  intro c
  rcases kindOf_tab c with h | ⟨y, hy, rfl⟩
  · rw [h]; decide
  · have : ∀ y ∈ chIns, kindOf y.2.1 ≠ 13 ∧ kindOf y.2.1 ≠ 14 := by decide
    exact this y hy
theorem charK_ne (ps : Bool) (c : Int) : (charK ps c).1 ≠ 13 ∧ (charK ps c).1 ≠ 14 := by
  obtain ⟨h1, h2⟩ := kindOf_ne c
  unfold charK charE keyOf
  by_cases hp : printC c = true
  · simp only [if_pos hp]
    cases ps <;> exact ⟨by simp, by simp⟩
  · simp only [if_neg hp]
    cases ps
    · exact ⟨h1, h2⟩
    · by_cases h : (true && kindOf c != 0) = true
      · rw [if_pos h]; decide
      · rw [if_neg h]; exact ⟨h1, h2⟩

/-- what stands while Read runs: its result's cells, what it has told -/
structure Rd (w wx : World) (v : Value) (ks : List (Int × Int)) (ps : Bool) : Prop where
  res : Blk wx w.heap.size #[.slice none 0 0, .slice none 0 0, .bool false] 59
  told : Blk wx (w.heap.size + 1) #[v, .slice none 0 0, .bool ps] 59
  own : OwnK wx (w.heap.size + 2) v ks
  but : But [] w wx

section
variable {w wx wy : World} {v : Value} {ks : List (Int × Int)} {ps : Bool}
theorem Rd.go (h : Rd w wx v ks ps) {S : List Nat} (hb : But S wx wy) (hS : ∀ k ∈ S, w.heap.size + 2 ≤ k) (hS2 : ∀ k ∈ S, wx.heap.size ≤ k) : Rd w wy v ks ps := by
  have hb' : But [] wx wy := hb.mono (fun k hk hl => by have := hS2 k hk; omega)
  refine ⟨h.res.but hb' (by simp), h.told.but hb' (by simp), h.own.but hb' (by simp), h.but.trans hb'⟩
theorem Rd.below (h : Rd w wx v ks ps) (hb : Below wx.heap.size wx wy) : Rd w wy v ks ps := h.go (But.of_below (S := []) hb) (by simp) (by simp)
/-- a store into a block that is newer than both -/
theorem Rd.setNew (h : Rd w wx v ks ps) {b : Nat} (hb : w.heap.size + 2 ≤ b) (hv : ∀ k, v.ownBlock = some k → k ≠ b) (j : Nat) (u : Value) : Rd w (wx.setCell ⟨b, j, none⟩ u) v ks ps := by
  have hbt : But [b] wx (wx.setCell ⟨b, j, none⟩ u) := (But.refl _ _).set (Or.inl (by simp)) _
  refine ⟨h.res.but hbt (by simp; omega), h.told.but hbt (by simp; omega), ?_, h.but.set (Or.inr (by show w.heap.size ≤ b; omega)) _⟩
  obtain ⟨h1, h2 | ⟨g, cap, cur, h3, h4, h5, h6⟩⟩ := h.own
  · exact ⟨h1, Or.inl h2⟩
  · refine ⟨h1, Or.inr ⟨g, cap, cur, h3, h4, ?_, h6⟩⟩
    subst h3
    have hne := hv g rfl
    rw [hbt.block g _ (by simpa using hne)]
    · exact h5
    · rcases Nat.lt_or_ge g wx.heap.size with h' | h'
      · exact h'
      · rw [Array.getElem?_eq_none h'] at h5; cases h5
end

/-- the loop -/
def RRd (w : World) (l : List UInt8) (R : List (Int × Int) × List UInt8 × Bool) (s4 : Value) (wr : World) : Prop :=
  ∃ (i : Nat) (v : Value) (ks : List (Int × Int)) (ps : Bool), s4 = .int .i64 (i : Int) ∧ i ≤ l.length ∧ ks.length ≤ i ∧ Hid (Rd w wr v ks ps) ∧ Hid ((ks ++ (drain (l.drop i) ps).1, (drain (l.drop i) ps).2) = R)
/-- behind the two ways to a key -/
def RMd (w wr : World) (l : List UInt8) (i : Nat) (v : Value) (ks : List (Int × Int)) (ps : Bool) (s6 s7 : Value) (wx : World) : Prop :=
  ∃ (K KC : Int) (n : Nat) (er : Int), s6 = .int .i64 (n : Int) ∧ s7 = .int .i64 er ∧ n ≤ l.length ∧ Hid (Rd w wx v ks ps) ∧ Hid (Blk wx wr.heap.size #[.int .i64 K, .int .i64 KC] 62) ∧
    Hid ((er ≠ 0 ∧ nxE (l.drop i) ps = none) ∨ (er = 0 ∧ nxE (l.drop i) ps = some ((K, KC), n, if K = 13 ∨ K = 14 then decide (K = 13) else ps)))

set_option maxRecDepth 100000 in
set_option maxHeartbeats 8000000 in
theorem read_c (l : List UInt8) (A : Option Addr) (cap : Nat) (w : World) (hA : BytesAt w A l) (hcap : l.length ≤ cap) (hm : l.length ≤ 1000000) :
    Calls Tryd.prog 25 #[.slice A l.length cap] w fun e w' => ∃ v hv, e = .returned (.agg #[v, hv, .bool (drain l false).2.2]) ∧ OwnK w' w.heap.size v (drain l false).1 ∧ OwnB w' w.heap.size hv (drain l false).2.1 ∧ Below w.heap.size w w' := by
  have HA := Lib.hid hA
  obtain ⟨R, hR⟩ : ∃ R, drain l false = R := ⟨_, rfl⟩
  rw [hR]
  have HR := Lib.hid hR
  clear hA hR
  go_enter Tryd.func25, Tryd.ntmps25
  go_wp2
  have hb1 : But [] w ((w.alloc (.cells #[.slice none 0 0, .slice none 0 0, .bool false] 59)).alloc (.cells #[.slice none 0 0, .slice none 0 0, .bool false] 59)) := ((But.refl [] w).alloc _).alloc _
  have hs1 : (w.alloc (.cells #[.slice none 0 0, .slice none 0 0, .bool false] 59)).heap.size = w.heap.size + 1 := Array.size_push _
  have hk2 := Blk.new (w.alloc (.cells #[.slice none 0 0, .slice none 0 0, .bool false] 59)) #[.slice none 0 0, .slice none 0 0, .bool false] 59
  rw [hs1] at hk2
  have hrd0 : Rd w ((w.alloc (.cells #[.slice none 0 0, .slice none 0 0, .bool false] 59)).alloc (.cells #[.slice none 0 0, .slice none 0 0, .bool false] 59)) (.slice none 0 0) [] false := ⟨(Blk.new w _ _).alloc _, hk2, OwnK.nil _ _, hb1⟩
  have HRD0 := Lib.hid hrd0
  clear hb1 hs1 hk2 hrd0
  go_loopw [4] (fun s4 wr => RRd w l R s4 wr) (fun i _ => l.length - (RowKit.intOf i).toNat)
  case atStart => exact ⟨0, _, [], false, rfl, Nat.zero_le _, Nat.le_refl _, HRD0, HR⟩
  case round =>
    obtain ⟨i, v, ks, ps, rfl, hi, hks, HRD, HF⟩ := hrel
    obtain ⟨A5, c5, rfl, hc5, _, _, _⟩ := HRD.out.own.form
    by_cases hlt : i < l.length
    · have k0 : (i : Int) < (l.length : Int) := by omega
      have kl : (i : Int) ≤ (l.length : Int) := by omega
      have kc : (i : Int) ≤ (cap : Int) := by omega
      obtain ⟨B, off, rfl, hBl, hc⟩ := HA.out (List.length_pos_iff.1 (by omega : 0 < l.length))
      have hne : l.drop i ≠ [] := fun h => by have := congrArg List.length h; rw [List.length_drop] at this; simp at this; omega
      have hbt0 : bt (l.drop i) 0 = bt l i := by
        unfold bt
        rw [List.getD_eq_getElem?_getD, List.getD_eq_getElem?_getD, List.getElem?_drop]; rfl
      have q0 : wr.cell? ⟨B, off + i, none⟩ = some (.int .u8 (bt l i : Int)) := by
        rw [But.cell HRD.out.but (p := ⟨B, off + i, none⟩) hBl (by simp), hc i hlt]
      have hcut : BytesAt w (some ⟨B, off + i, none⟩) (l.drop i) := by
        have := BytesAt.cut HA.out (k := i) hcap
        rw [if_neg (by omega)] at this
        simpa [addr_add] using this
      obtain ⟨x, hx⟩ : ∃ x, bt l i = x := ⟨_, rfl⟩
      rw [hx] at q0 hbt0
      have hal : Below wr.heap.size wr (wr.alloc (.cells #[.int .i64 0, .int .i64 0] 62)) := (Below.refl _ _).alloc (Nat.le_refl _) _
      have hrd1 := HRD.out.below hal
      have hblk1 := Blk.new wr #[.int .i64 0, .int .i64 0] 62
      have hkb : w.heap.size + 2 ≤ wr.heap.size := by have := HRD.out.told.lt; omega
      have hvk : ∀ k, (Value.slice A5 ks.length c5).ownBlock = some k → k ≠ wr.heap.size := fun k hk => by have := (HRD.out.own.lt hk).2; omega
      have hbel1 : Below w.heap.size w (wr.alloc (.cells #[.int .i64 0, .int .i64 0] 62)) := hrd1.but.below (Nat.le_refl _) (by simp)
      have HCUT := Lib.hid hcut
      have HRD1 := Lib.hid hrd1
      have HBLK1 := Lib.hid hblk1
      have HKB := Lib.hid hkb
      have HVK := Lib.hid hvk
      have HBEL1 := Lib.hid hbel1
      have HNE := Lib.hid hne
      have HBT0 := Lib.hid hbt0
      have hcn : ¬ cap = i := by omega
      have hBw : B < wr.heap.size := Nat.lt_of_lt_of_le hBl HRD.out.but.size
      have hld : (l.drop i).length = l.length - i := List.length_drop
      have HLD := Lib.hid hld
      clear hBl hc hx hcut hal hrd1 hblk1 hkb hvk hbel1 hne hbt0 hld
      go_upto_if 21 with fail
      obtain ⟨w1, hw1⟩ : ∃ w1, wr.alloc (.cells #[.int .i64 0, .int .i64 0] 62) = w1 := ⟨_, rfl⟩
      rw [hw1] at HRD1 HBLK1 HBEL1
      rw [hw1]
      have hwlt : wr.heap.size < w1.heap.size := HBLK1.out.lt
      clear hw1 q0 hcn
      go_cut [6, 7, 8, 9, 10] from 21 to 69 (fun s6 s7 s8 s9 s10 wx => RMd w wr l i (.slice A5 ks.length c5) ks ps s6 s7 wx)
      case first =>
        by_cases h27 : x = 27
        · subst h27
          have hcn2 : ¬ cap = i := by omega
          have hnx := ref_next (l.drop i) (some ⟨B, off + i, none⟩) (cap - i) w1 (HCUT.out.below HBEL1.out) (by rw [HLD.out]; omega) (by rw [HLD.out]; omega)
          have hsn := seqN_le (l.drop i)
          have hg : nxE (l.drop i) ps = (if (seqN (l.drop i)).2.2 ≠ 0 then none else some (((seqE ps (seqN (l.drop i)).1 0).1, (seqE ps (seqN (l.drop i)).1 0).2.1), (seqN (l.drop i)).2.1, (seqE ps (seqN (l.drop i)).1 0).2.2)) := by
            unfold nxE
            rw [if_neg HNE.out, if_pos HBT0.out]
          obtain ⟨k, n, er, hs⟩ : ∃ k n er, seqN (l.drop i) = (k, n, er) := ⟨_, _, _, rfl⟩
          rw [hs] at hnx hsn hg
          simp only at hnx hsn hg
          rw [HLD.out] at hnx hsn
          rw [(seqE_ps ps k).1, (seqE_ps ps k).2] at hg
          have HG : Hid ((er ≠ 0 ∧ nxE (l.drop i) ps = none) ∨ (er = 0 ∧ nxE (l.drop i) ps = some (((seqE ps k 0).1, 0), n, if (seqE ps k 0).1 = 13 ∨ (seqE ps k 0).1 = 14 then decide ((seqE ps k 0).1 = 13) else ps))) := by
            by_cases he : er = 0
            · rw [if_neg (by simpa using he)] at hg; exact Or.inr ⟨he, hg⟩
            · rw [if_pos he] at hg; exact Or.inl ⟨he, hg⟩
          have HN : Hid (n ≤ l.length) := by unfold Hid; omega
          have HNX := Lib.hid hnx
          clear hnx hsn hg hs
          go_wp2_with fail
          refine (HNX.out).mono ?_
          rintro e w2 ⟨rfl, hb2⟩
          have hrd2 := HRD1.out.below hb2
          have hbk2 := HBLK1.out.but (But.of_below (S := []) hb2) (by simp)
          have HRD2 := Lib.hid hrd2
          have HBK2 := Lib.hid hbk2
          have y0 := hbk2.cell (j := 0) (v := .int .i64 0) rfl
          have y1 := hbk2.cell (j := 1) (v := .int .i64 0) rfl
          have yf0 := hbk2.free 0
          have yf1 := hbk2.free 1
          have yl := hbk2.lt
          have t2 := hrd2.told.cell (j := 2) (v := .bool ps) rfl
          have tl := hrd2.told.lt
          have hne1 : wr.heap.size ≠ w.heap.size + 1 := by have := HKB.out; omega
          have hne2 : w.heap.size + 1 ≠ wr.heap.size := by have := HKB.out; omega
          clear hrd2 hbk2 hb2 HNX
          by_cases h14 : k = 14
          · subst h14
            cases ps
            · skip
              have hK : (seqE false 14 0).1 = 15 := by rfl
              have HG2 := HG.out
              rw [hK] at HG2
              have HG3 := Lib.hid HG2
              clear HG2 hK HG
              go_wp2
              go_meet
              exact ⟨_, _, n, er, rfl, rfl, HN.out, ((((((HRD2.out).setNew HKB.out HVK.out 0 _).setNew HKB.out HVK.out 1 _)).setNew HKB.out HVK.out 0 _).setNew HKB.out HVK.out 1 _), Blk.set (Blk.set (Blk.set (Blk.set (HBK2.out) 0 _) 1 _) 0 _) 1 _, HG3⟩
            · skip
              have hK : (seqE true 14 0).1 = 14 := by rfl
              have HG2 := HG.out
              rw [hK] at HG2
              have HG3 := Lib.hid HG2
              clear HG2 hK HG
              go_wp2
              go_meet
              exact ⟨_, _, n, er, rfl, rfl, HN.out, (((HRD2.out).setNew HKB.out HVK.out 0 _).setNew HKB.out HVK.out 1 _), Blk.set (Blk.set (HBK2.out) 0 _) 1 _, HG3⟩
          · have e14 : (k == 14) = false := by simpa using h14
            have f14 : (k != 14) = true := by simpa using h14
            cases ps
            · skip
              have hK : (seqE false k 0).1 = k := by unfold seqE; simp [h14]; split <;> rfl
              have HG2 := HG.out
              rw [hK] at HG2
              have HG3 := Lib.hid HG2
              clear HG2 hK HG
              go_wp2
              go_meet
              exact ⟨_, _, n, er, rfl, rfl, HN.out, (((HRD2.out).setNew HKB.out HVK.out 0 _).setNew HKB.out HVK.out 1 _), Blk.set (Blk.set (HBK2.out) 0 _) 1 _, HG3⟩
            · skip
              have hK : (seqE true k 0).1 = 15 := by unfold seqE; simp [h14]
              have HG2 := HG.out
              rw [hK] at HG2
              have HG3 := Lib.hid HG2
              clear HG2 hK HG
              go_wp2
              go_meet
              exact ⟨_, _, n, er, rfl, rfl, HN.out, ((((((HRD2.out).setNew HKB.out HVK.out 0 _).setNew HKB.out HVK.out 1 _)).setNew HKB.out HVK.out 0 _).setNew HKB.out HVK.out 1 _), Blk.set (Blk.set (Blk.set (Blk.set (HBK2.out) 0 _) 1 _) 0 _) 1 _, HG3⟩
        · skip
          have k27 : ((x : Int) == 27) = false := by simp; omega
          have hcn2 : ¬ cap = i := by omega
          have hnx := nextRef (l.drop i) (some ⟨B, off + i, none⟩) (cap - i) w1 (HCUT.out.below HBEL1.out) (by rw [HLD.out]; omega)
          obtain ⟨f1, f2, f3, _, f5, f6⟩ := next_facts HNE.out
          have hg : nxE (l.drop i) ps = (if (next (l.drop i)).2.2 = 7 then none else some (charK ps (if (next (l.drop i)).2.2 = 8 then 65533 else ((next (l.drop i)).1 : Int)), (next (l.drop i)).2.1, ps)) := by
            unfold nxE
            rw [if_neg HNE.out, if_neg (by rw [HBT0.out]; exact h27)]
          obtain ⟨cc, n, f, hs⟩ : ∃ cc n f, next (l.drop i) = (cc, n, f) := ⟨_, _, _, rfl⟩
          rw [hs] at hnx hg f1 f2 f3 f5
          simp only at hg f1 f2 f3 f5
          rw [HLD.out] at hnx f2
          have HN : Hid (n ≤ l.length) := by unfold Hid; omega
          have HNX := Lib.hid (hnx.mono (R' := fun e w' => e = .returned (.tuple #[.int .i64 cc, .int .i64 n, .int .i64 f]) ∧ Below w1.heap.size w1 w') (fun e w' ⟨he, hb⟩ => ⟨by rw [he]; rfl, hb⟩))
          clear hnx hs f1 f2 f3 f6 h27
          go_wp2_with fail
          refine (HNX.out).mono ?_
          rintro e w2 ⟨rfl, hb2⟩
          have HRD2 := Lib.hid (HRD1.out.below hb2)
          have HBK2 := Lib.hid (HBLK1.out.but (But.of_below (S := []) hb2) (by simp))
          clear hb2 HNX
          by_cases h8 : f = 8
          · subst h8
            rw [if_neg (by decide), if_pos rfl] at hg
            clear f5
            have hof := fun V => refOf 65533 V
            obtain ⟨K0, KC0, hko⟩ : ∃ K0 KC0, keyOf 65533 = (K0, KC0) := ⟨_, _, rfl⟩
            rw [hko] at hof
            have hck : charK ps 65533 = charE ps K0 KC0 := by unfold charK; rw [hko]
            have hcne := charK_ne ps 65533
            rw [hck] at hg hcne
            have HOF := Lib.hid hof
            have HG : Hid (((0 : Int) ≠ 0 ∧ nxE (l.drop i) ps = none) ∨ ((0 : Int) = 0 ∧ nxE (l.drop i) ps = some (charE ps K0 KC0, n, if (charE ps K0 KC0).1 = 13 ∨ (charE ps K0 KC0).1 = 14 then decide ((charE ps K0 KC0).1 = 13) else ps))) := by
              rw [if_neg (by rintro (h | h); exact hcne.1 h; exact hcne.2 h)]
              exact Or.inr ⟨rfl, hg⟩
            clear hof hko hck hcne hg
            go_wp2_with fail
            refine (HOF.out _).mono ?_
            rintro e w3 ⟨rfl, hb3⟩
            have hrd2 := HRD2.out.below hb3
            have hbk2 := HBK2.out.but (But.of_below (S := []) hb3) (by simp)
            have HRD3 := Lib.hid hrd2
            have HBK3 := Lib.hid hbk2
            have y0 := hbk2.cell (j := 0) (v := .int .i64 0) rfl
            have y1 := hbk2.cell (j := 1) (v := .int .i64 0) rfl
            have yf0 := hbk2.free 0
            have yf1 := hbk2.free 1
            have yl := hbk2.lt
            have t2 := hrd2.told.cell (j := 2) (v := .bool ps) rfl
            have tl := hrd2.told.lt
            have hne1 : wr.heap.size ≠ w.heap.size + 1 := by have := HKB.out; omega
            have hne2 : w.heap.size + 1 ≠ wr.heap.size := by have := HKB.out; omega
            clear hrd2 hbk2 hb3 HOF
            cases ps
            · go_wp2
              go_meet
              exact ⟨K0, KC0, n, 0, rfl, rfl, HN.out, ((HRD3.out).setNew HKB.out HVK.out 0 _).setNew HKB.out HVK.out 1 _, Blk.set (Blk.set HBK3.out 0 _) 1 _, Lib.hid (HG.out.imp id (fun h => ⟨rfl, h.2⟩))⟩
            · by_cases hk0 : K0 = 0
              · subst hk0
                go_wp2
                go_meet
                exact ⟨0, KC0, n, 0, rfl, rfl, HN.out, ((HRD3.out).setNew HKB.out HVK.out 0 _).setNew HKB.out HVK.out 1 _, Blk.set (Blk.set HBK3.out 0 _) 1 _, Lib.hid (HG.out.imp id (fun h => ⟨rfl, h.2⟩))⟩
              · have ek : (K0 == 0) = false := by simpa using hk0
                have fk : (K0 != 0) = true := by simpa using hk0
                have hce : charE true K0 KC0 = (15, 0) := by unfold charE; simp [hk0]
                have HG2 := HG.out
                rw [hce] at HG2
                have HG3 := Lib.hid HG2
                clear HG HG2 hce hk0
                go_wp2
                go_meet
                exact ⟨15, 0, n, 0, rfl, rfl, HN.out, ((((HRD3.out).setNew HKB.out HVK.out 0 _).setNew HKB.out HVK.out 1 _).setNew HKB.out HVK.out 0 _).setNew HKB.out HVK.out 1 _, Blk.set (Blk.set (Blk.set (Blk.set HBK3.out 0 _) 1 _) 0 _) 1 _, Lib.hid (HG3.out.imp id (fun h => ⟨rfl, h.2⟩))⟩
          · have e8 : ((f : Int) == 8) = false := by simp; omega
            have hg : ((f : Int) ≠ 0 ∧ nxE (l.drop i) ps = none) ∨ ((f : Int) = 0 ∧ nxE (l.drop i) ps = some (charK ps (cc : Int), n, ps)) := by
              rcases f5 with h | h | h
              · subst h
                rw [if_neg (by decide), if_neg (by decide)] at hg
                exact Or.inr ⟨rfl, hg⟩
              · subst h
                rw [if_pos rfl] at hg
                exact Or.inl ⟨by decide, hg⟩
              · exact absurd h h8
            clear f5 h8
            have hof := fun V => refOf (cc : Int) V
            obtain ⟨K0, KC0, hko⟩ : ∃ K0 KC0, keyOf (cc : Int) = (K0, KC0) := ⟨_, _, rfl⟩
            rw [hko] at hof
            have hck : charK ps (cc : Int) = charE ps K0 KC0 := by unfold charK; rw [hko]
            have hcne := charK_ne ps (cc : Int)
            rw [hck] at hg hcne
            have HOF := Lib.hid hof
            have HG : Hid (((f : Int) ≠ 0 ∧ nxE (l.drop i) ps = none) ∨ ((f : Int) = 0 ∧ nxE (l.drop i) ps = some (charE ps K0 KC0, n, if (charE ps K0 KC0).1 = 13 ∨ (charE ps K0 KC0).1 = 14 then decide ((charE ps K0 KC0).1 = 13) else ps))) := by
              rw [if_neg (by rintro (h | h); exact hcne.1 h; exact hcne.2 h)]
              exact hg
            clear hof hko hck hcne hg
            go_wp2_with fail
            refine (HOF.out _).mono ?_
            rintro e w3 ⟨rfl, hb3⟩
            have hrd2 := HRD2.out.below hb3
            have hbk2 := HBK2.out.but (But.of_below (S := []) hb3) (by simp)
            have HRD3 := Lib.hid hrd2
            have HBK3 := Lib.hid hbk2
            have y0 := hbk2.cell (j := 0) (v := .int .i64 0) rfl
            have y1 := hbk2.cell (j := 1) (v := .int .i64 0) rfl
            have yf0 := hbk2.free 0
            have yf1 := hbk2.free 1
            have yl := hbk2.lt
            have t2 := hrd2.told.cell (j := 2) (v := .bool ps) rfl
            have tl := hrd2.told.lt
            have hne1 : wr.heap.size ≠ w.heap.size + 1 := by have := HKB.out; omega
            have hne2 : w.heap.size + 1 ≠ wr.heap.size := by have := HKB.out; omega
            clear hrd2 hbk2 hb3 HOF
            cases ps
            · go_wp2
              go_meet
              exact ⟨K0, KC0, n, (f : Int), rfl, rfl, HN.out, ((HRD3.out).setNew HKB.out HVK.out 0 _).setNew HKB.out HVK.out 1 _, Blk.set (Blk.set HBK3.out 0 _) 1 _, HG⟩
            · by_cases hk0 : K0 = 0
              · subst hk0
                go_wp2
                go_meet
                exact ⟨0, KC0, n, (f : Int), rfl, rfl, HN.out, ((HRD3.out).setNew HKB.out HVK.out 0 _).setNew HKB.out HVK.out 1 _, Blk.set (Blk.set HBK3.out 0 _) 1 _, HG⟩
              · have ek : (K0 == 0) = false := by simpa using hk0
                have fk : (K0 != 0) = true := by simpa using hk0
                have hce : charE true K0 KC0 = (15, 0) := by unfold charE; simp [hk0]
                have HG2 := HG.out
                rw [hce] at HG2
                have HG3 := Lib.hid HG2
                clear HG HG2 hce hk0
                go_wp2
                go_meet
                exact ⟨15, 0, n, (f : Int), rfl, rfl, HN.out, ((((HRD3.out).setNew HKB.out HVK.out 0 _).setNew HKB.out HVK.out 1 _).setNew HKB.out HVK.out 0 _).setNew HKB.out HVK.out 1 _, Blk.set (Blk.set (Blk.set (Blk.set HBK3.out 0 _) 1 _) 0 _) 1 _, HG3⟩
      case rest =>
        obtain ⟨K, KC, n, er, rfl, rfl, hn, HRDX, HBKX, HE⟩ := hcut
        have hrx := HRDX.out
        have hbx := HBKX.out
        have y0 := hbx.cell (j := 0) (v := .int .i64 K) rfl
        have y1 := hbx.cell (j := 1) (v := .int .i64 KC) rfl
        have yl := hbx.lt
        have tl := hrx.told.lt
        have rl := hrx.res.lt
        clear hrx hbx
        rcases HE.out with ⟨he, hnone⟩ | ⟨he, hsome⟩
        · have kq : (er != 0) = true := by simpa using he
          have hF := HF.out
          rw [drain_none hnone] at hF
          have hF2 : Hid (R = (ks, l.drop i, ps)) := by unfold Hid; rw [← hF]; simp
          have hbw : But [] wc (wc.alloc (.cells #[] 5)) := (But.refl [] wc).alloc _
          have hwb : Below w.heap.size w (wc.alloc (.cells #[] 5)) := (HRDX.out.but.trans hbw).below (Nat.le_refl _) (by simp)
          have hsrc := HCUT.out.below hwb
          have hown0 := OwnB.new wc (w.heap.size + 2) #[] [] rfl (by omega) (by decide)
          have hbase : w.heap.size + 2 ≤ (wc.alloc (.cells #[] 5)).heap.size := by have := hbw.size; omega
          have hbd : ([] : List UInt8).length + (l.drop i).length ≤ 140737488355328 := by rw [HLD.out]; simp; omega
          have HSRC := Lib.hid hsrc
          have HOWN0 := Lib.hid hown0
          have HBASE := Lib.hid hbase
          have HBD := Lib.hid hbd
          have hcn2 : ¬ cap = i := by omega
          clear hF HF hnone HE he hbw hwb hsrc hown0 hbase hbd
          go_wp2_with (at_builtin; (refine wpList_append_bytes (B := w.heap.size + 2) (l := []) (src := l.drop i) rfl _ _ rfl rfl HOWN0.out rfl HLD.out HSRC.out HBD.out HBASE.out ?_))
          intro v' w3 hown3 hg3
          have hb3 : But [] wc w3 := But.of_grown ((But.refl [] wc).alloc _) hg3 (fun k hk => Or.inr (by cases hk; exact Nat.le_refl _))
          have hrd3 := HRDX.out.go hb3 (by simp) (by simp)
          obtain ⟨A3, c3, rfl, _, _, _, _⟩ := OwnB.form hown3
          have HOW3 := Lib.hid hown3
          have HRD3 := Lib.hid hrd3
          have t0 := hrd3.told.cell (j := 0) (v := .slice A5 ks.length c5) rfl
          have t1 := hrd3.told.cell (j := 1) (v := .slice none 0 0) rfl
          have t2 := hrd3.told.cell (j := 2) (v := .bool ps) rfl
          have tf1 := hrd3.told.free 1
          have r0 := hrd3.res.cell (j := 0) (v := .slice none 0 0) rfl
          have r1 := hrd3.res.cell (j := 1) (v := .slice none 0 0) rfl
          have r2 := hrd3.res.cell (j := 2) (v := .bool false) rfl
          have rf0 := hrd3.res.free 0
          have rf1 := hrd3.res.free 1
          have rf2 := hrd3.res.free 2
          have hrl := hrd3.res.lt
          have htl := hrd3.told.lt
          clear hown3 hg3 hb3 hrd3 y0 y1
          go_wp2
          (try simp only [Exit.inBlock, Exit.then])
          refine bodyPost_ret (results_key rfl _ _ w.heap.size 59 _ _ rfl (Blk.set (Blk.set (Blk.set (Blk.other HRD3.out.res (a := ⟨w.heap.size + 1, 1, none⟩) (by simp) _) 0 _) 1 _) 2 _) Tryd.underlying59 rfl (by kernel_rfl)) rfl ?_
          rw [hF2.out]
          have how := HOW3.out
          rw [HLD.out] at how
          have hbs : But [w.heap.size, w.heap.size + 1] w3 ((((w3.setCell ⟨w.heap.size + 1, 1, none⟩ (.slice A3 (l.length - i) c3)).setCell ⟨w.heap.size, 0, none⟩ (.slice A5 ks.length c5)).setCell ⟨w.heap.size, 1, none⟩ (.slice A3 (l.length - i) c3)).setCell ⟨w.heap.size, 2, none⟩ (.bool ps)) := ((((But.refl _ _).set (Or.inl (by simp)) _).set (Or.inl (by simp)) _).set (Or.inl (by simp)) _).set (Or.inl (by simp)) _
          refine ⟨_, _, rfl, (HRD3.out.own.but hbs (by simp)).base (by omega), (OwnB.baseR (OwnB.butR how hbs (by simp)) (by omega)), ?_⟩
          exact ((((HRD3.out.but.set (Or.inr (by simp)) _).set (Or.inr (Nat.le_refl _)) _).set (Or.inr (Nat.le_refl _)) _).set (Or.inr (Nat.le_refl _)) _).below (Nat.le_refl _) (by simp)
        · subst he
          have hF := HF.out
          rw [drain_some hsome, List.drop_drop] at hF
          obtain ⟨hn1, hn2⟩ := nxE_some hsome
          rw [HLD.out] at hn2
          by_cases k13 : K = 13
          · subst k13
            have HFF := Lib.hid hF
            rw [if_pos (Or.inl rfl)] at HFF
            clear hF
            have hbw : But [w.heap.size + 1] wc (wc.setCell ⟨w.heap.size + 1, 2, none⟩ (.bool true)) := But.set (But.refl [w.heap.size + 1] wc) (Or.inl (by simp)) _
            have hal : Below (wc.setCell ⟨w.heap.size + 1, 2, none⟩ (.bool true)).heap.size (wc.setCell ⟨w.heap.size + 1, 2, none⟩ (.bool true)) ((wc.setCell ⟨w.heap.size + 1, 2, none⟩ (.bool true)).alloc (.cells #[.int .i64 13, .int .i64 KC] 62)) := (Below.refl _ _).alloc (Nat.le_refl _) _
            have hown : OwnK ((wc.setCell ⟨w.heap.size + 1, 2, none⟩ (.bool true)).alloc (.cells #[.int .i64 13, .int .i64 KC] 62)) (w.heap.size + 2) (.slice A5 ks.length c5) ks := (HRDX.out.own.but hbw (by simp)).below hal
            have hsrc : KeysAt ((wc.setCell ⟨w.heap.size + 1, 2, none⟩ (.bool true)).alloc (.cells #[.int .i64 13, .int .i64 KC] 62)) (some ⟨(wc.setCell ⟨w.heap.size + 1, 2, none⟩ (.bool true)).heap.size, 0, none⟩) [(13, KC)] := CellsAt.new _ #[.int .i64 13, .int .i64 KC] _ (cellsK [(13, KC)]) rfl
            have htold : Blk ((wc.setCell ⟨w.heap.size + 1, 2, none⟩ (.bool true)).alloc (.cells #[.int .i64 13, .int .i64 KC] 62)) (w.heap.size + 1) #[.slice A5 ks.length c5, .slice none 0 0, .bool (true)] 59 := Blk.alloc (HRDX.out.told.set 2 _) _
            have hres : Blk ((wc.setCell ⟨w.heap.size + 1, 2, none⟩ (.bool true)).alloc (.cells #[.int .i64 13, .int .i64 KC] 62)) w.heap.size #[.slice none 0 0, .slice none 0 0, .bool false] 59 := Blk.alloc (HRDX.out.res.but hbw (by simp)) _
            have hbt : But [] w ((wc.setCell ⟨w.heap.size + 1, 2, none⟩ (.bool true)).alloc (.cells #[.int .i64 13, .int .i64 KC] 62)) := ((HRDX.out.but.set (Or.inr (by simp)) _).alloc _)
            have hbase : w.heap.size + 2 ≤ ((wc.setCell ⟨w.heap.size + 1, 2, none⟩ (.bool true)).alloc (.cells #[.int .i64 13, .int .i64 KC] 62)).heap.size := by have h1 := hbw.size; have h2 := hal.size; omega
            have hbd : ks.length + [((13 : Int), KC)].length ≤ 1099511627776 := by simp; omega
            have hz : (wc.setCell ⟨w.heap.size + 1, 2, none⟩ (.bool true)).heap.size = wc.heap.size := by simp
            rw [hz] at hsrc
            have HOWN := Lib.hid hown
            have HSRC := Lib.hid hsrc
            have HTOLD := Lib.hid htold
            have HRES := Lib.hid hres
            have HBT := Lib.hid hbt
            have HBASE := Lib.hid hbase
            have HBD := Lib.hid hbd
            have t0 := HRDX.out.told.cell (j := 0) (v := .slice A5 ks.length c5) rfl
            have t2 := HRDX.out.told.cell (j := 2) (v := .bool ps) rfl
            have tf2 := HRDX.out.told.free 2
            have hne2 : w.heap.size + 1 ≠ wr.heap.size := by have := HKB.out; omega
            have hne1 : wr.heap.size ≠ w.heap.size + 1 := by have := HKB.out; omega
            clear hbw hal hown hsrc htold hres hbt hbase hbd HF HE hsome
            go_wp2_with (at_builtin; (refine wpList_append_keys (B := w.heap.size + 2) (l := ks) (src := [(13, KC)]) rfl _ _ rfl rfl HOWN.out rfl rfl HSRC.out HBD.out HBASE.out ?_))
            intro v' w5 hown5 hg5
            have hrow : ∀ k, Option.map (fun x => x.block) A5 = some k → w.heap.size + 2 ≤ k := fun k hk => (HOWN.out.lt (k := k) (by rw [‹(Value.slice A5 ks.length c5).ownBlock = Option.map (fun x => x.block) A5›]; exact hk)).1
            have htold5 := Blk.grown HTOLD.out hg5 (fun k hk => by have := hrow k hk; omega)
            have hres5 := Blk.grown HRES.out hg5 (fun k hk => by have := hrow k hk; omega)
            have hbt5 : But [] w w5 := But.of_grown HBT.out hg5 (fun k hk => Or.inr (by have := hrow k hk; omega))
            obtain ⟨A6, c6, rfl, _, _, _, _⟩ := hown5.form
            have HTOLD5 := Lib.hid htold5
            have HRES5 := Lib.hid hres5
            have HBT5 := Lib.hid hbt5
            have HOWN5 := Lib.hid hown5
            have s0 := htold5.cell (j := 0) (v := .slice A5 ks.length c5) rfl
            have sf0 := htold5.free 0
            have sl := htold5.lt
            have hnsum : IntKind.i64.wrap ((i : Int) + (n : Int)) = (i : Int) + (n : Int) := IntWalk.i64_in _ (by omega)
            clear hown5 hg5 hrow htold5 hres5 hbt5 t0 t2 tf2 y0 y1
            go_wp2
            go_roundw
            case rel =>
              have hl : (ks ++ [(13, KC)] : List (Int × Int)).length = ks.length + 1 := by simp
              have how := HOWN5.out
              rw [hl] at how
              have hbs : But [w.heap.size + 1] w5 (w5.setCell ⟨w.heap.size + 1, 0, none⟩ (.slice A6 (ks.length + 1) c6)) := (But.refl _ _).set (Or.inl (by simp)) _
              refine ⟨i + n, _, ks ++ [(13, KC)], true, by go_num, by omega, by simp; omega, ⟨HRES5.out.but hbs (by simp), Blk.set HTOLD5.out 0 _, how.but hbs (by simp), HBT5.out.set (Or.inr (by simp)) _⟩, ?_⟩
              unfold Hid
              rw [← HFF.out]
              simp
            case measure => simp [RowKit.intOf]; omega
          · by_cases k14 : K = 14
            · subst k14
              have HFF := Lib.hid hF
              rw [if_pos (Or.inr rfl)] at HFF
              clear hF
              have hbw : But [w.heap.size + 1] wc (wc.setCell ⟨w.heap.size + 1, 2, none⟩ (.bool false)) := But.set (But.refl [w.heap.size + 1] wc) (Or.inl (by simp)) _
              have hal : Below (wc.setCell ⟨w.heap.size + 1, 2, none⟩ (.bool false)).heap.size (wc.setCell ⟨w.heap.size + 1, 2, none⟩ (.bool false)) ((wc.setCell ⟨w.heap.size + 1, 2, none⟩ (.bool false)).alloc (.cells #[.int .i64 14, .int .i64 KC] 62)) := (Below.refl _ _).alloc (Nat.le_refl _) _
              have hown : OwnK ((wc.setCell ⟨w.heap.size + 1, 2, none⟩ (.bool false)).alloc (.cells #[.int .i64 14, .int .i64 KC] 62)) (w.heap.size + 2) (.slice A5 ks.length c5) ks := (HRDX.out.own.but hbw (by simp)).below hal
              have hsrc : KeysAt ((wc.setCell ⟨w.heap.size + 1, 2, none⟩ (.bool false)).alloc (.cells #[.int .i64 14, .int .i64 KC] 62)) (some ⟨(wc.setCell ⟨w.heap.size + 1, 2, none⟩ (.bool false)).heap.size, 0, none⟩) [(14, KC)] := CellsAt.new _ #[.int .i64 14, .int .i64 KC] _ (cellsK [(14, KC)]) rfl
              have htold : Blk ((wc.setCell ⟨w.heap.size + 1, 2, none⟩ (.bool false)).alloc (.cells #[.int .i64 14, .int .i64 KC] 62)) (w.heap.size + 1) #[.slice A5 ks.length c5, .slice none 0 0, .bool (false)] 59 := Blk.alloc (HRDX.out.told.set 2 _) _
              have hres : Blk ((wc.setCell ⟨w.heap.size + 1, 2, none⟩ (.bool false)).alloc (.cells #[.int .i64 14, .int .i64 KC] 62)) w.heap.size #[.slice none 0 0, .slice none 0 0, .bool false] 59 := Blk.alloc (HRDX.out.res.but hbw (by simp)) _
              have hbt : But [] w ((wc.setCell ⟨w.heap.size + 1, 2, none⟩ (.bool false)).alloc (.cells #[.int .i64 14, .int .i64 KC] 62)) := ((HRDX.out.but.set (Or.inr (by simp)) _).alloc _)
              have hbase : w.heap.size + 2 ≤ ((wc.setCell ⟨w.heap.size + 1, 2, none⟩ (.bool false)).alloc (.cells #[.int .i64 14, .int .i64 KC] 62)).heap.size := by have h1 := hbw.size; have h2 := hal.size; omega
              have hbd : ks.length + [((14 : Int), KC)].length ≤ 1099511627776 := by simp; omega
              have hz : (wc.setCell ⟨w.heap.size + 1, 2, none⟩ (.bool false)).heap.size = wc.heap.size := by simp
              rw [hz] at hsrc
              have HOWN := Lib.hid hown
              have HSRC := Lib.hid hsrc
              have HTOLD := Lib.hid htold
              have HRES := Lib.hid hres
              have HBT := Lib.hid hbt
              have HBASE := Lib.hid hbase
              have HBD := Lib.hid hbd
              have t0 := HRDX.out.told.cell (j := 0) (v := .slice A5 ks.length c5) rfl
              have t2 := HRDX.out.told.cell (j := 2) (v := .bool ps) rfl
              have tf2 := HRDX.out.told.free 2
              have hne2 : w.heap.size + 1 ≠ wr.heap.size := by have := HKB.out; omega
              have hne1 : wr.heap.size ≠ w.heap.size + 1 := by have := HKB.out; omega
              clear hbw hal hown hsrc htold hres hbt hbase hbd HF HE hsome
              go_wp2_with (at_builtin; (refine wpList_append_keys (B := w.heap.size + 2) (l := ks) (src := [(14, KC)]) rfl _ _ rfl rfl HOWN.out rfl rfl HSRC.out HBD.out HBASE.out ?_))
              intro v' w5 hown5 hg5
              have hrow : ∀ k, Option.map (fun x => x.block) A5 = some k → w.heap.size + 2 ≤ k := fun k hk => (HOWN.out.lt (k := k) (by rw [‹(Value.slice A5 ks.length c5).ownBlock = Option.map (fun x => x.block) A5›]; exact hk)).1
              have htold5 := Blk.grown HTOLD.out hg5 (fun k hk => by have := hrow k hk; omega)
              have hres5 := Blk.grown HRES.out hg5 (fun k hk => by have := hrow k hk; omega)
              have hbt5 : But [] w w5 := But.of_grown HBT.out hg5 (fun k hk => Or.inr (by have := hrow k hk; omega))
              obtain ⟨A6, c6, rfl, _, _, _, _⟩ := hown5.form
              have HTOLD5 := Lib.hid htold5
              have HRES5 := Lib.hid hres5
              have HBT5 := Lib.hid hbt5
              have HOWN5 := Lib.hid hown5
              have s0 := htold5.cell (j := 0) (v := .slice A5 ks.length c5) rfl
              have sf0 := htold5.free 0
              have sl := htold5.lt
              have hnsum : IntKind.i64.wrap ((i : Int) + (n : Int)) = (i : Int) + (n : Int) := IntWalk.i64_in _ (by omega)
              clear hown5 hg5 hrow htold5 hres5 hbt5 t0 t2 tf2 y0 y1
              go_wp2
              go_roundw
              case rel =>
                have hl : (ks ++ [(14, KC)] : List (Int × Int)).length = ks.length + 1 := by simp
                have how := HOWN5.out
                rw [hl] at how
                have hbs : But [w.heap.size + 1] w5 (w5.setCell ⟨w.heap.size + 1, 0, none⟩ (.slice A6 (ks.length + 1) c6)) := (But.refl _ _).set (Or.inl (by simp)) _
                refine ⟨i + n, _, ks ++ [(14, KC)], false, by go_num, by omega, by simp; omega, ⟨HRES5.out.but hbs (by simp), Blk.set HTOLD5.out 0 _, how.but hbs (by simp), HBT5.out.set (Or.inr (by simp)) _⟩, ?_⟩
                unfold Hid
                rw [← HFF.out]
                simp
              case measure => simp [RowKit.intOf]; omega
            · have e13 : (K == 13) = false := by simpa using k13
              have e14 : (K == 14) = false := by simpa using k14
              have HFF := Lib.hid hF
              rw [if_neg (by omega)] at HFF
              clear hF k13 k14
              have hbw : But [w.heap.size + 1] wc wc := But.refl [w.heap.size + 1] wc
              have hal : Below wc.heap.size wc (wc.alloc (.cells #[.int .i64 K, .int .i64 KC] 62)) := (Below.refl _ _).alloc (Nat.le_refl _) _
              have hown : OwnK (wc.alloc (.cells #[.int .i64 K, .int .i64 KC] 62)) (w.heap.size + 2) (.slice A5 ks.length c5) ks := (HRDX.out.own.but hbw (by simp)).below hal
              have hsrc : KeysAt (wc.alloc (.cells #[.int .i64 K, .int .i64 KC] 62)) (some ⟨wc.heap.size, 0, none⟩) [(K, KC)] := CellsAt.new _ #[.int .i64 K, .int .i64 KC] _ (cellsK [(K, KC)]) rfl
              have htold : Blk (wc.alloc (.cells #[.int .i64 K, .int .i64 KC] 62)) (w.heap.size + 1) #[.slice A5 ks.length c5, .slice none 0 0, .bool (ps)] 59 := Blk.alloc HRDX.out.told _
              have hres : Blk (wc.alloc (.cells #[.int .i64 K, .int .i64 KC] 62)) w.heap.size #[.slice none 0 0, .slice none 0 0, .bool false] 59 := Blk.alloc (HRDX.out.res.but hbw (by simp)) _
              have hbt : But [] w (wc.alloc (.cells #[.int .i64 K, .int .i64 KC] 62)) := (HRDX.out.but.alloc _)
              have hbase : w.heap.size + 2 ≤ (wc.alloc (.cells #[.int .i64 K, .int .i64 KC] 62)).heap.size := by have h1 := hbw.size; have h2 := hal.size; omega
              have hbd : ks.length + [((K : Int), KC)].length ≤ 1099511627776 := by simp; omega
              have hz : wc.heap.size = wc.heap.size := by simp
              have HOWN := Lib.hid hown
              have HSRC := Lib.hid hsrc
              have HTOLD := Lib.hid htold
              have HRES := Lib.hid hres
              have HBT := Lib.hid hbt
              have HBASE := Lib.hid hbase
              have HBD := Lib.hid hbd
              have t0 := HRDX.out.told.cell (j := 0) (v := .slice A5 ks.length c5) rfl
              have t2 := HRDX.out.told.cell (j := 2) (v := .bool ps) rfl
              have tf2 := HRDX.out.told.free 2
              have hne2 : w.heap.size + 1 ≠ wr.heap.size := by have := HKB.out; omega
              have hne1 : wr.heap.size ≠ w.heap.size + 1 := by have := HKB.out; omega
              clear hbw hal hown hsrc htold hres hbt hbase hbd HF HE hsome
              go_wp2_with (at_builtin; (refine wpList_append_keys (B := w.heap.size + 2) (l := ks) (src := [(K, KC)]) rfl _ _ rfl rfl HOWN.out rfl rfl HSRC.out HBD.out HBASE.out ?_))
              intro v' w5 hown5 hg5
              have hrow : ∀ k, Option.map (fun x => x.block) A5 = some k → w.heap.size + 2 ≤ k := fun k hk => (HOWN.out.lt (k := k) (by rw [‹(Value.slice A5 ks.length c5).ownBlock = Option.map (fun x => x.block) A5›]; exact hk)).1
              have htold5 := Blk.grown HTOLD.out hg5 (fun k hk => by have := hrow k hk; omega)
              have hres5 := Blk.grown HRES.out hg5 (fun k hk => by have := hrow k hk; omega)
              have hbt5 : But [] w w5 := But.of_grown HBT.out hg5 (fun k hk => Or.inr (by have := hrow k hk; omega))
              obtain ⟨A6, c6, rfl, _, _, _, _⟩ := hown5.form
              have HTOLD5 := Lib.hid htold5
              have HRES5 := Lib.hid hres5
              have HBT5 := Lib.hid hbt5
              have HOWN5 := Lib.hid hown5
              have s0 := htold5.cell (j := 0) (v := .slice A5 ks.length c5) rfl
              have sf0 := htold5.free 0
              have sl := htold5.lt
              have hnsum : IntKind.i64.wrap ((i : Int) + (n : Int)) = (i : Int) + (n : Int) := IntWalk.i64_in _ (by omega)
              clear hown5 hg5 hrow htold5 hres5 hbt5 t0 t2 tf2 y0 y1
              go_wp2
              go_roundw
              case rel =>
                have hl : (ks ++ [(K, KC)] : List (Int × Int)).length = ks.length + 1 := by simp
                have how := HOWN5.out
                rw [hl] at how
                have hbs : But [w.heap.size + 1] w5 (w5.setCell ⟨w.heap.size + 1, 0, none⟩ (.slice A6 (ks.length + 1) c6)) := (But.refl _ _).set (Or.inl (by simp)) _
                refine ⟨i + n, _, ks ++ [(K, KC)], ps, by go_num, by omega, by simp; omega, ⟨HRES5.out.but hbs (by simp), Blk.set HTOLD5.out 0 _, how.but hbs (by simp), HBT5.out.set (Or.inr (by simp)) _⟩, ?_⟩
                unfold Hid
                rw [← HFF.out]
                simp
              case measure => simp [RowKit.intOf]; omega
    · have hil : i = l.length := by omega
      have kk : decide ((i : Int) < (l.length : Int)) = false := by simp; omega
      have kk' : decide (i < l.length) = false := by simp; omega
      have hF := HF.out
      rw [hil, List.drop_length] at hF
      have hF2 : Hid (R = (ks, [], ps)) := by unfold Hid; rw [← hF]; simp [drain, drF]
      have t0 := HRD.out.told.cell (j := 0) (v := .slice A5 ks.length c5) rfl
      have t1 := HRD.out.told.cell (j := 1) (v := .slice none 0 0) rfl
      have t2 := HRD.out.told.cell (j := 2) (v := .bool ps) rfl
      have r0 := HRD.out.res.cell (j := 0) (v := .slice none 0 0) rfl
      have r1 := HRD.out.res.cell (j := 1) (v := .slice none 0 0) rfl
      have r2 := HRD.out.res.cell (j := 2) (v := .bool false) rfl
      have rf0 := HRD.out.res.free 0
      have rf1 := HRD.out.res.free 1
      have rf2 := HRD.out.res.free 2
      have hrl := HRD.out.res.lt
      have htl := HRD.out.told.lt
      clear hlt hil hF HF
      go_wp2
      (try simp only [Exit.inBlock, Exit.then])
      refine bodyPost_ret (results_key rfl _ _ w.heap.size 59 _ _ rfl (Blk.set (Blk.set (Blk.set HRD.out.res 0 _) 1 _) 2 _) Tryd.underlying59 rfl (by kernel_rfl)) rfl ?_
      rw [hF2.out]
      have hbs : But [w.heap.size] wr (((wr.setCell ⟨w.heap.size, 0, none⟩ (.slice A5 ks.length c5)).setCell ⟨w.heap.size, 1, none⟩ (.slice none 0 0)).setCell ⟨w.heap.size, 2, none⟩ (.bool ps)) := (((But.refl _ _).set (Or.inl (by simp)) _).set (Or.inl (by simp)) _).set (Or.inl (by simp)) _
      refine ⟨_, _, rfl, (HRD.out.own.but hbs (by simp)).base (by omega), OwnB.nil _ _, ?_⟩
      exact (((HRD.out.but.set (Or.inr (Nat.le_refl _)) _).set (Or.inr (Nat.le_refl _)) _).set (Or.inr (Nat.le_refl _)) _).below (Nat.le_refl _) (by simp)

end Go.Proofs.YtbflcikfaoojmaaDoor.Edit

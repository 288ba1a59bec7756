/- The key of a sequence: escseq.Next, walked. -/
import Derived.Test.YtbflcikfaoojmaaDoorGK1
import Derived.Deep.RegionWith
import Derived.Deep.CutBlock
import Derived.WalkMore
set_option linter.unusedVariables false
set_option linter.unusedSimpArgs false
namespace Go.Proofs.YtbflcikfaoojmaaDoor.Edit
open Go.RowKit Go.Lib Go.Shelf ChangeShapes Mem Utf UtfP

/-- the sequences that are keys -/
def seqKeys : List (List UInt8 × Int) := [([27, 91, 67], 5), ([27, 79, 67], 5), ([27, 91, 68], 4), ([27, 79, 68], 4), ([27, 91, 72], 6), ([27, 79, 72], 6), ([27, 91, 49, 126], 6), ([27, 91, 55, 126], 6),
  ([27, 91, 70], 7), ([27, 79, 70], 7), ([27, 91, 52, 126], 7), ([27, 91, 56, 126], 7), ([27, 91, 51, 126], 3), ([27, 91, 50, 48, 48, 126], 13), ([27, 91, 50, 48, 49, 126], 14)]

def lookT : List (List UInt8 × Int) → List UInt8 → Option Int
  | [], _ => none
  | (k, v) :: r, s => if s = k then some v else lookT r s
def entsT : List (List UInt8 × Int) → Nat → List MapEntry
  | [], _ => []
  | (k, v) :: r, n => { key := .string (strOf k), val := .int .i64 v, born := n } :: entsT r (n + 1)
theorem seqTab_ents : seqTab.toList = entsT seqKeys 0 := rfl
theorem find_ents (s : List UInt8) : ∀ (l : List (List UInt8 × Int)) (n i : Nat),
    (lookT l s = none ∧ Instr.findNow .string (.string (strOf s)) (entsT l n) i = some none) ∨ ∃ v j, lookT l s = some v ∧ Instr.findNow .string (.string (strOf s)) (entsT l n) i = some (some (j, .int .i64 v)) := by
  intro l
  induction l with
  | nil => intro n i; exact Or.inl ⟨rfl, rfl⟩
  | cons x r ih =>
    obtain ⟨k, v⟩ := x
    intro n i
    by_cases h : s = k
    · refine Or.inr ⟨v, i, by simp [lookT, h], ?_⟩
      have hb : (strOf s == strOf k) = true := by rw [MapKept.bytes_beq, h]
      simp [entsT, Instr.findNow, Instr.sameNow, hb]
    · have hb : (strOf s == strOf k) = false := by
        cases hb : (strOf s == strOf k)
        · rfl
        · rw [MapKept.bytes_beq] at hb
          exact absurd (strOf_inj hb) h
      have e : Instr.findNow .string (.string (strOf s)) (entsT ((k, v) :: r) n) i = Instr.findNow .string (.string (strOf s)) (entsT r (n + 1)) (i + 1) := by
        simp [entsT, Instr.findNow, Instr.sameNow, hb]
      rw [e]
      have e2 : lookT ((k, v) :: r) s = lookT r s := by simp [lookT, h]
      rw [e2]
      exact ih (n + 1) (i + 1)

/-- the key of a whole sequence -/
def seqKey (s : List UInt8) : Int := (lookT seqKeys s).getD 15

/-- the sequence from a place on: the key, its bytes, the error -/
def seqF (l : List UInt8) : Nat → Nat → Bool → Int × Nat × Int
  | 0, _, _ => (0, l.length, 7)
  | n + 1, i, oth =>
    if 64 ≤ bt l i ∧ bt l i ≤ 126 then (seqKey (l.take (i + 1)), i + 1, 0)
    else if bt l 1 = 79 ∨ 34 ≤ i then (15, i, 0)
    else if (48 ≤ bt l i ∧ bt l i ≤ 63) ∧ oth = false then seqF l n (i + 1) oth
    else if 32 ≤ bt l i ∧ bt l i ≤ 47 then seqF l n (i + 1) true
    else (15, i, 0)
/-- the key of the sequence that bytes begin with -/
def seqN (l : List UInt8) : Int × Nat × Int :=
  if l = [] then (0, 0, 6)
  else if bt l 0 ≠ 27 then (0, 0, 8)
  else if 1 < l.length ∧ bt l 1 ≠ 91 ∧ bt l 1 ≠ 79 then (15, 1, 0)
  else seqF l (l.length - 2) 2 false

theorem seq_below {w W : World} {g : Nat} (hW : But [] w W) (hg : w.heap.size ≤ g) (u v : Value) : Below w.heap.size w ((W.setCell ⟨g, 0, none⟩ u).setCell ⟨g, 1, none⟩ v) :=
  ((hW.set (Or.inr hg) _).set (Or.inr hg) _).below (Nat.le_refl _) (by simp)

/-- the sequence's table, looked up -/
theorem look_some {w : World} {b : Nat} (hb : w.heap[b]? = some (.map seqTab 15)) (s : List UInt8) (v : Int) (h : lookT seqKeys s = some v) :
    (Instr.lookup 100 (.map (some b)) (.string (strOf s)) true).run Tryd.prog w = .ok (.tuple #[.int .i64 v, .bool true]) w := by
  rcases find_ents s seqKeys 0 0 with ⟨h1, _⟩ | ⟨v', j, h1, h2⟩
  · rw [h] at h1; cases h1
  · rw [h] at h1
    cases h1
    rw [← seqTab_ents] at h2
    exact run_lookS w Tryd.underlying100 Tryd.underlying9 b seqTab 15 hb _ _ _ h2
theorem look_none {w : World} {b : Nat} (hb : w.heap[b]? = some (.map seqTab 15)) (s : List UInt8) (h : lookT seqKeys s = none) :
    (Instr.lookup 100 (.map (some b)) (.string (strOf s)) true).run Tryd.prog w = .ok (.tuple #[.int .i64 0, .bool false]) w := by
  rcases find_ents s seqKeys 0 0 with ⟨h1, h2⟩ | ⟨v', j, h1, h2⟩
  · rw [← seqTab_ents] at h2
    exact run_lookS_none w Tryd.underlying100 Tryd.underlying9 b seqTab 15 hb _ (.int .i64 0) (fun w => by kernel_rfl) h2
  · rw [h] at h1; cases h1

theorem slice_b (B off n cap k : Nat) (x : Int) (hx : x = (k : Int)) (hk : k ≤ cap) (w : World) :
    (Instr.slice 47 (.slice (some ⟨B, off, none⟩) n cap) none (some (.int .i64 x)) none).run Tryd.prog w = .ok (.slice (some ⟨B, off, none⟩) k cap) w := by
  subst hx
  have hj : 0 ≤ (k : Int) ∧ (k : Int) ≤ (cap : Int) := ⟨by omega, by omega⟩
  have hs : (sizeOf 5).run Tryd.prog w = .ok 1 w := by kernel_rfl
  simp [Instr.slice, Instr.sliceBounds, Instr.sliceBound, asIntOf, run_underlying Tryd.underlying47, hj, hk, hs, Result.andThen, Addr.add]

/-- what the loop stands on: the bytes, the two cells -/
structure SeqW (w W : World) (B off : Nat) (l : List UInt8) : Prop where
  lt : B < W.heap.size
  cells : ∀ j, j < l.length → W.cell? ⟨B, off + j, none⟩ = some (.int .u8 (bt l j : Int))
  res : Blk W w.heap.size #[.int .i64 0, .int .i64 0] 62
  ign : Blk W (w.heap.size + 1) #[.int .i64 15, .int .i64 0] 62
  but : But [] w W

theorem SeqW.mk2 {w : World} {B off : Nat} {l : List UInt8} (hB : B < w.heap.size) (hc : ∀ j, j < l.length → w.cell? ⟨B, off + j, none⟩ = some (.int .u8 (bt l j : Int))) :
    SeqW w ((w.alloc (.cells #[.int .i64 0, .int .i64 0] 62)).alloc (.cells #[.int .i64 15, .int .i64 0] 62)) B off l := by
  have h1 : Below w.heap.size w (w.alloc (.cells #[.int .i64 0, .int .i64 0] 62)) := (Below.refl _ _).alloc (Nat.le_refl _) _
  have h2 : Below w.heap.size w ((w.alloc (.cells #[.int .i64 0, .int .i64 0] 62)).alloc (.cells #[.int .i64 15, .int .i64 0] 62)) := h1.alloc h1.size _
  have hs : (w.alloc (.cells #[.int .i64 0, .int .i64 0] 62)).heap.size = w.heap.size + 1 := Array.size_push _
  have hb := Blk.new (w.alloc (.cells #[.int .i64 0, .int .i64 0] 62)) #[.int .i64 15, .int .i64 0] 62
  rw [hs] at hb
  exact ⟨Nat.lt_of_lt_of_le hB h2.size, fun j hj => by rw [World.cell?_of_block (w := w) (h2.block B hB)]; exact hc j hj, (Blk.new w _ _).alloc _, hb, But.of_below h2⟩

theorem SeqW.below {w W : World} {B off : Nat} {l : List UInt8} (h : SeqW w W B off l) {W' : World} (hb : Below W.heap.size W W') : SeqW w W' B off l :=
  ⟨Nat.lt_of_lt_of_le h.lt hb.size, fun j hj => by rw [World.cell?_of_block (w := W) (hb.block B h.lt)]; exact h.cells j hj, h.res.but (But.of_below (S := []) hb) (by simp), h.ign.but (But.of_below (S := []) hb) (by simp), h.but.trans (But.of_below hb)⟩

theorem SeqW.bytes {w W : World} {B off : Nat} {l : List UInt8} (h : SeqW w W B off l) (n : Nat) {W' : World} (hb : Below W.heap.size W W') : BytesAt W' (some ⟨B, off, none⟩) (l.take n) := by
  intro hne
  refine ⟨B, off, rfl, Nat.lt_of_lt_of_le h.lt hb.size, fun j hj => ?_⟩
  rw [List.length_take] at hj
  have e : bt (l.take n) j = bt l j := by
    unfold bt
    rw [List.getD_eq_getElem?_getD, List.getD_eq_getElem?_getD, List.getElem?_take_of_lt (by omega)]
  rw [World.cell?_of_block (w := W) (hb.block B h.lt), e]
  exact h.cells j (by omega)

theorem SeqW.conv {w W : World} {B off : Nat} {l : List UInt8} (h : SeqW w W B off l) {j : Nat} (hj : j < l.length) (cap : Nat) {W' : World} (hb : Below W.heap.size W W') :
    (convert 47 9 (.slice (some ⟨B, off, none⟩) (j + 1) cap)).run Tryd.prog W' = .ok (.string (strOf (l.take (j + 1)))) W' := by
  have := conv_str (cap := cap) (h.bytes (j + 1) hb)
  rw [List.length_take, Nat.min_eq_left (by omega)] at this
  exact this

set_option maxRecDepth 100000 in
set_option maxHeartbeats 4000000 in
theorem escseq_next (l : List UInt8) (A : Option Addr) (cap : Nat) (w : World) (hA : BytesAt w A l) (hcap : l.length ≤ cap) (hm : l.length ≤ 1000000) :
    Calls Tryd.prog 49 #[.slice A l.length cap] w fun e w' => e = .returned (.tuple #[.agg #[.int .i64 (seqN l).1, .int .i64 0], .int .i64 ((seqN l).2.1 : Int), .int .i64 (seqN l).2.2]) ∧ Below w.heap.size w w' := by
  by_cases h0 : l = []
  · subst h0
    have hs : seqN [] = (0, 0, 6) := rfl
    rw [hs]
    clear hA hcap hm
    show Calls _ _ #[.slice A 0 cap] _ _
    go_enter Tryd.func49, Tryd.ntmps49
    go_wp2
    go_step3
    go_wp2
    (try simp only [Exit.noGoto_ret, Exit.inBlock, Exit.then])
    refine bodyPost_ret (results_cell3 rfl _ _ w.heap.size 62 #[.int .i64 0, .int .i64 0] _ rfl (Blk.new w _ _) Tryd.underlying62 rfl (by kernel_rfl)) rfl ?_
    exact ⟨rfl, (Below.refl _ _).alloc (Nat.le_refl _) _⟩
  · have hpos : 0 < l.length := List.length_pos_iff.2 h0
    obtain ⟨B, off, rfl, hB, hc⟩ := hA h0
    have hsz := hB
    have HC := Lib.hid hc
    have q0 : w.cell? ⟨B, off, none⟩ = _ := hc 0 hpos
    obtain ⟨x, hx⟩ : ∃ x, bt l 0 = x := ⟨_, rfl⟩
    rw [hx] at q0
    have hsN : seqN l = (if x ≠ 27 then (0, 0, 8) else if 1 < l.length ∧ bt l 1 ≠ 91 ∧ bt l 1 ≠ 79 then (15, 1, 0) else seqF l (l.length - 2) 2 false) := by
      unfold seqN; rw [if_neg h0, hx]
    obtain ⟨R, hR⟩ : ∃ R, seqN l = R := ⟨_, rfl⟩
    rw [hR] at hsN ⊢
    have HR := Lib.hid hsN
    have k0 : (0 : Int) < (l.length : Int) := by omega
    have kz : ((l.length : Int) == 0) = false := by simp; omega
    clear hc hx hsN hR h0
    by_cases hx : x = 27
    · subst hx
      by_cases hI : 1 < l.length ∧ bt l 1 ≠ 91 ∧ bt l 1 ≠ 79
      · obtain ⟨h1, hA1, hA2⟩ := hI
        have q1 := HC.out 1 h1
        obtain ⟨y, hy⟩ : ∃ y, bt l 1 = y := ⟨_, rfl⟩
        rw [hy] at q1
        have HR2 : Hid (R = (15, 1, 0)) := by
          have := HR.out
          rw [if_neg (by simp), if_pos ⟨h1, hA1, hA2⟩] at this
          exact this
        have y1 : ((y : Int) != 91) = true := by rw [bne_iff_ne]; omega
        have y2 : ((y : Int) != 79) = true := by rw [bne_iff_ne]; omega
        have kl : (1 : Int) < (l.length : Int) := by omega
        clear hA1 hA2 hy
        go_enter Tryd.func49, Tryd.ntmps49
        go_wp2
        go_step3
        go_wp2
        (try simp only [Exit.noGoto_ret, Exit.inBlock, Exit.then])
        refine bodyPost_ret (results_cell3 rfl _ _ w.heap.size 62 #[.int .i64 15, .int .i64 0] _ rfl ((Blk.new w _ _).alloc _) Tryd.underlying62 rfl (by kernel_rfl)) rfl ?_
        have hal : Below w.heap.size w (w.alloc (.cells #[.int .i64 15, .int .i64 0] 62)) := (Below.refl _ _).alloc (Nat.le_refl _) _
        exact ⟨by rw [HR2.out]; rfl, hal.alloc hal.size _⟩
      · have HS := Lib.hid (SeqW.mk2 hB HC.out)
        obtain ⟨W, hW⟩ : ∃ W, (w.alloc (.cells #[.int .i64 0, .int .i64 0] 62)).alloc (.cells #[.int .i64 15, .int .i64 0] 62) = W := ⟨_, rfl⟩
        rw [hW] at HS
        have HW := Lib.hid hW
        have HR2 : Hid (seqF l (l.length - 2) 2 false = R) := by
          have := HR.out
          rw [if_neg (by simp), if_neg hI] at this
          exact this.symm
        have H1 : Hid (1 < l.length → bt l 1 = 91 ∨ bt l 1 = 79) := by
          intro h
          by_cases e : bt l 1 = 91
          · exact Or.inl e
          · by_cases e2 : bt l 1 = 79
            · exact Or.inr e2
            · exact absurd ⟨h, e, e2⟩ hI
        clear hI hW hA HR
        by_cases h1 : 1 < l.length
        · have q1 := HC.out 1 h1
          obtain ⟨y, hy⟩ : ∃ y, bt l 1 = y := ⟨_, rfl⟩
          rw [hy] at q1
          have kl : (1 : Int) < (l.length : Int) := by omega
          have HY := Lib.hid hy
          have hyy := H1.out h1
          rw [hy] at hyy
          clear hy
          go_enter Tryd.func49, Tryd.ntmps49
          rcases hyy with rfl | rfl
          · skip
            go_wp2
            go_step3
            go_wp2
            rw [HW.out]
            go_step3
            go_wp2
            go_loopw [6, 7] (fun o i wr => ∃ (oth : Bool) (j : Nat), o = .bool oth ∧ i = .int .i64 (j : Int) ∧ W = wr ∧ 2 ≤ j ∧ j ≤ l.length ∧ Hid (seqF l (l.length - j) j oth = R)) (fun o i _ => l.length - (RowKit.intOf i).toNat)
            case atStart => exact ⟨false, 2, rfl, rfl, rfl, Nat.le_refl _, h1, HR2⟩
            case round =>
              obtain ⟨oth, j, rfl, rfl, hwr, hj2, hjl, HF⟩ := hrel
              obtain rfl := hwr
              have hBW := HS.out.lt
              have r0 := HS.out.res.cell (j := 0) (v := .int .i64 0) rfl
              have r1 := HS.out.res.cell (j := 1) (v := .int .i64 0) rfl
              have rf0 := HS.out.res.free 0
              have rf1 := HS.out.res.free 1
              have i0 := HS.out.ign.cell (j := 0) (v := .int .i64 15) rfl
              have i1 := HS.out.ign.cell (j := 1) (v := .int .i64 0) rfl
              have hrl := HS.out.res.lt
              have hil := HS.out.ign.lt
              have q1 : W.cell? ⟨B, off + 1, none⟩ = some (.int .u8 91) := by rw [HS.out.cells 1 h1, HY.out]; rfl
              by_cases hlt : j < l.length
              · have k0 : (j : Int) < (l.length : Int) := by omega
                have qj := HS.out.cells j hlt
                have hd : l.length - j = (l.length - (j + 1)) + 1 := by omega
                have hF := HF.out
                rw [hd] at hF
                unfold seqF at hF
                rw [HY.out] at hF
                obtain ⟨c, hc⟩ : ∃ c, bt l j = c := ⟨_, rfl⟩
                rw [hc] at qj hF
                clear hc hd HF
                by_cases hA : 64 ≤ c ∧ c ≤ 126
                · rw [if_pos hA] at hF
                  have HB64 : Hid (∀ V, Calls Tryd.prog 61 #[.int .u8 (c : Int), .int .u8 64, .int .u8 126] V fun e w' => e = .returned (.bool true) ∧ w' = V) := fun V => (between_c c 64 126 V).mono fun e w' ⟨he, hw⟩ => ⟨by rw [he]; congr 2; simp; omega, hw⟩
                  have hjw : (j : Int) + 1 ≤ (cap : Int) := by omega
                  have hj0 : (0 : Int) ≤ (j : Int) + 1 := by omega
                  have HKN := Lib.hid (fun V => known_c V)
                  have HCV := Lib.hid (fun (V : World) (hb : Below W.heap.size W V) => HS.out.conv hlt cap hb)
                  have hwr : IntKind.i64.wrap ((j : Int) + 1) = ((j + 1 : Nat) : Int) := by
                    have : ∀ x : Int, 0 ≤ x → x ≤ 2000000 → IntKind.i64.wrap x = x := fun x h1 h2 => by simp [IntKind.wrap, IntKind.bits, IntKind.signed]; omega
                    rw [this _ (by omega) (by omega)]; omega
                  have hs1 := fun V => slice_b B off l.length cap (j + 1) _ hwr (by omega) V
                  have HLT := Lib.hid hlt
                  clear hA
                  cases hk : lookT seqKeys (l.take (j + 1)) with
                  | none =>
                    have HR3 : Hid ((15, j + 1, 0) = R) := by rw [← hF]; unfold seqKey; rw [hk]; rfl
                    have HLK := Lib.hid (fun (V : World) (b : Nat) (hb : V.heap[b]? = some (.map seqTab 15)) => look_none hb _ hk)
                    clear hF hk
                    go_wp2_with (go_at_call 61; (with_reducible refine (HB64.out _).mono ?_); rintro e w1 ⟨rfl, hq⟩; obtain rfl := hq.symm)
                    have cvD := HCV.out W.drew ((Below.refl _ _).drew)
                    go_region_with (go_at_call 62; (with_reducible refine (HKN.out _).mono ?_); rintro e w2 ⟨rfl, hm2, hb2⟩; have cv2 := HCV.out w2 ((Below.refl W.heap.size W).drew.trans hb2); have lk2 := HLK.out w2 W.heap.size hm2)
                    go_goals
                    all_goals
                      have HS2 := HS.out.below ((Below.refl W.heap.size W).drew.trans hb2)
                      have r0 := HS2.res.cell (j := 0) (v := .int .i64 0) rfl
                      have r1 := HS2.res.cell (j := 1) (v := .int .i64 0) rfl
                      have rf0 := HS2.res.free 0
                      have rf1 := HS2.res.free 1
                      have i0 := HS2.ign.cell (j := 0) (v := .int .i64 15) rfl
                      have i1 := HS2.ign.cell (j := 1) (v := .int .i64 0) rfl
                      have hrl := HS2.res.lt
                      have hil := HS2.ign.lt
                      go_wp2
                      (try simp only [Exit.noGoto_ret, Exit.inBlock, Exit.then])
                      refine bodyPost_ret (results_cell3 rfl _ _ w.heap.size 62 _ _ rfl (Blk.set (Blk.set (HS2.res) 0 _) 1 _) Tryd.underlying62 rfl (by kernel_rfl)) rfl ?_
                      refine ⟨?_, seq_below (HS2.but) (Nat.le_refl _) _ _⟩
                      rw [← HR3.out]
                      (first | rfl | (simp only [hwr]; rfl))
                  | some v =>
                    have HR3 : Hid ((v, j + 1, 0) = R) := by rw [← hF]; unfold seqKey; rw [hk]; rfl
                    have HLK := Lib.hid (fun (V : World) (b : Nat) (hb : V.heap[b]? = some (.map seqTab 15)) => look_some hb _ v hk)
                    clear hF hk
                    go_wp2_with (go_at_call 61; (with_reducible refine (HB64.out _).mono ?_); rintro e w1 ⟨rfl, hq⟩; obtain rfl := hq.symm)
                    have cvD := HCV.out W.drew ((Below.refl _ _).drew)
                    go_region_with (go_at_call 62; (with_reducible refine (HKN.out _).mono ?_); rintro e w2 ⟨rfl, hm2, hb2⟩; have cv2 := HCV.out w2 ((Below.refl W.heap.size W).drew.trans hb2); have lk2 := HLK.out w2 W.heap.size hm2)
                    go_goals
                    all_goals
                      have HS2 := HS.out.below ((Below.refl W.heap.size W).drew.trans hb2)
                      have r0 := HS2.res.cell (j := 0) (v := .int .i64 0) rfl
                      have r1 := HS2.res.cell (j := 1) (v := .int .i64 0) rfl
                      have rf0 := HS2.res.free 0
                      have rf1 := HS2.res.free 1
                      have i0 := HS2.ign.cell (j := 0) (v := .int .i64 15) rfl
                      have i1 := HS2.ign.cell (j := 1) (v := .int .i64 0) rfl
                      have hrl := HS2.res.lt
                      have hil := HS2.ign.lt
                      go_wp2
                      (try simp only [Exit.noGoto_ret, Exit.inBlock, Exit.then])
                      refine bodyPost_ret (results_cell3 rfl _ _ w.heap.size 62 _ _ rfl (Blk.set (Blk.set (HS2.res) 0 _) 1 _) Tryd.underlying62 rfl (by kernel_rfl)) rfl ?_
                      refine ⟨?_, seq_below (HS2.but) (Nat.le_refl _) _ _⟩
                      rw [← HR3.out]
                      (first | rfl | (simp only [hwr]; rfl))
                · rw [if_neg hA] at hF
                  have HB64 : Hid (∀ V, Calls Tryd.prog 61 #[.int .u8 (c : Int), .int .u8 64, .int .u8 126] V fun e w' => e = .returned (.bool false) ∧ w' = V) := fun V => (between_c c 64 126 V).mono fun e w' ⟨he, hw⟩ => ⟨by rw [he]; congr 2; simp; omega, hw⟩
                  by_cases h34 : 34 ≤ j
                  · rw [if_pos (Or.inr h34)] at hF
                    have kf : decide ((34 : Int) ≤ (j : Int)) = true := by simp; omega
                    have HR3 := Lib.hid hF
                    clear hF hA
                    go_wp2_with (first | (go_at_call 61; (with_reducible refine (HB64.out _).mono ?_); rintro e w1 ⟨rfl, hq⟩; obtain rfl := hq.symm) | (go_at_call 61; (with_reducible refine (HB48.out _).mono ?_); rintro e w1 ⟨rfl, hq⟩; obtain rfl := hq.symm) | (go_at_call 61; (with_reducible refine (HB32.out _).mono ?_); rintro e w1 ⟨rfl, hq⟩; obtain rfl := hq.symm))
                    (try simp only [Exit.noGoto_ret, Exit.inBlock, Exit.then])
                    refine bodyPost_ret (results_cell3 rfl _ _ w.heap.size 62 _ _ rfl (Blk.set (Blk.set (HS.out.res) 0 _) 1 _) Tryd.underlying62 rfl (by kernel_rfl)) rfl ?_
                    refine ⟨?_, seq_below (HS.out.but) (Nat.le_refl _) _ _⟩
                    rw [← HR3.out]
                    (first | rfl | (simp only [hwr]; rfl))
                  · rw [if_neg (by omega)] at hF
                    have kf : decide ((34 : Int) ≤ (j : Int)) = false := by simp; omega
                    by_cases h48 : 48 ≤ c ∧ c ≤ 63
                    · have HB48 : Hid (∀ V, Calls Tryd.prog 61 #[.int .u8 (c : Int), .int .u8 48, .int .u8 63] V fun e w' => e = .returned (.bool true) ∧ w' = V) := fun V => (between_c c 48 63 V).mono fun e w' ⟨he, hw⟩ => ⟨by rw [he]; congr 2; simp; omega, hw⟩
                      have HB32 : Hid (∀ V, Calls Tryd.prog 61 #[.int .u8 (c : Int), .int .u8 32, .int .u8 47] V fun e w' => e = .returned (.bool false) ∧ w' = V) := fun V => (between_c c 32 47 V).mono fun e w' ⟨he, hw⟩ => ⟨by rw [he]; congr 2; simp; omega, hw⟩
                      cases oth
                      · rw [if_pos ⟨h48, rfl⟩] at hF
                        have HR3 := Lib.hid hF
                        clear hF hA h48 h34
                        go_wp2_with (first | (go_at_call 61; (with_reducible refine (HB64.out _).mono ?_); rintro e w1 ⟨rfl, hq⟩; obtain rfl := hq.symm) | (go_at_call 61; (with_reducible refine (HB48.out _).mono ?_); rintro e w1 ⟨rfl, hq⟩; obtain rfl := hq.symm) | (go_at_call 61; (with_reducible refine (HB32.out _).mono ?_); rintro e w1 ⟨rfl, hq⟩; obtain rfl := hq.symm))
                        go_roundw
                        case rel => exact ⟨false, j + 1, rfl, by go_num, trivial, by omega, by omega, HR3⟩
                        case measure => simp [RowKit.intOf]; omega
                      · rw [if_neg (by simp), if_neg (by omega)] at hF
                        have HR3 := Lib.hid hF
                        clear hF hA h48 h34
                        go_wp2_with (first | (go_at_call 61; (with_reducible refine (HB64.out _).mono ?_); rintro e w1 ⟨rfl, hq⟩; obtain rfl := hq.symm) | (go_at_call 61; (with_reducible refine (HB48.out _).mono ?_); rintro e w1 ⟨rfl, hq⟩; obtain rfl := hq.symm) | (go_at_call 61; (with_reducible refine (HB32.out _).mono ?_); rintro e w1 ⟨rfl, hq⟩; obtain rfl := hq.symm))
                        (try simp only [Exit.noGoto_ret, Exit.inBlock, Exit.then])
                        refine bodyPost_ret (results_cell3 rfl _ _ w.heap.size 62 _ _ rfl (Blk.set (Blk.set (HS.out.res) 0 _) 1 _) Tryd.underlying62 rfl (by kernel_rfl)) rfl ?_
                        refine ⟨?_, seq_below (HS.out.but) (Nat.le_refl _) _ _⟩
                        rw [← HR3.out]
                        (first | rfl | (simp only [hwr]; rfl))
                    · have HB48 : Hid (∀ V, Calls Tryd.prog 61 #[.int .u8 (c : Int), .int .u8 48, .int .u8 63] V fun e w' => e = .returned (.bool false) ∧ w' = V) := fun V => (between_c c 48 63 V).mono fun e w' ⟨he, hw⟩ => ⟨by rw [he]; congr 2; simp; omega, hw⟩
                      rw [if_neg (fun h => h48 h.1)] at hF
                      by_cases h32 : 32 ≤ c ∧ c ≤ 47
                      · have HB32 : Hid (∀ V, Calls Tryd.prog 61 #[.int .u8 (c : Int), .int .u8 32, .int .u8 47] V fun e w' => e = .returned (.bool true) ∧ w' = V) := fun V => (between_c c 32 47 V).mono fun e w' ⟨he, hw⟩ => ⟨by rw [he]; congr 2; simp; omega, hw⟩
                        rw [if_pos h32] at hF
                        have HR3 := Lib.hid hF
                        clear hF hA h48 h34 h32
                        go_wp2_with (first | (go_at_call 61; (with_reducible refine (HB64.out _).mono ?_); rintro e w1 ⟨rfl, hq⟩; obtain rfl := hq.symm) | (go_at_call 61; (with_reducible refine (HB48.out _).mono ?_); rintro e w1 ⟨rfl, hq⟩; obtain rfl := hq.symm) | (go_at_call 61; (with_reducible refine (HB32.out _).mono ?_); rintro e w1 ⟨rfl, hq⟩; obtain rfl := hq.symm))
                        go_roundw
                        case rel => exact ⟨true, j + 1, rfl, by go_num, trivial, by omega, by omega, HR3⟩
                        case measure => simp [RowKit.intOf]; omega
                      · have HB32 : Hid (∀ V, Calls Tryd.prog 61 #[.int .u8 (c : Int), .int .u8 32, .int .u8 47] V fun e w' => e = .returned (.bool false) ∧ w' = V) := fun V => (between_c c 32 47 V).mono fun e w' ⟨he, hw⟩ => ⟨by rw [he]; congr 2; simp; omega, hw⟩
                        rw [if_neg h32] at hF
                        have HR3 := Lib.hid hF
                        clear hF hA h48 h34 h32
                        go_wp2_with (first | (go_at_call 61; (with_reducible refine (HB64.out _).mono ?_); rintro e w1 ⟨rfl, hq⟩; obtain rfl := hq.symm) | (go_at_call 61; (with_reducible refine (HB48.out _).mono ?_); rintro e w1 ⟨rfl, hq⟩; obtain rfl := hq.symm) | (go_at_call 61; (with_reducible refine (HB32.out _).mono ?_); rintro e w1 ⟨rfl, hq⟩; obtain rfl := hq.symm))
                        (try simp only [Exit.noGoto_ret, Exit.inBlock, Exit.then])
                        refine bodyPost_ret (results_cell3 rfl _ _ w.heap.size 62 _ _ rfl (Blk.set (Blk.set (HS.out.res) 0 _) 1 _) Tryd.underlying62 rfl (by kernel_rfl)) rfl ?_
                        refine ⟨?_, seq_below (HS.out.but) (Nat.le_refl _) _ _⟩
                        rw [← HR3.out]
                        (first | rfl | (simp only [hwr]; rfl))
              · have HR3 : Hid ((0, l.length, 7) = R) := by
                  have hF := HF.out
                  rw [show l.length - j = 0 by omega] at hF
                  exact hF
                have kk : decide ((j : Int) < (l.length : Int)) = false := by simp; omega
                have kk' : decide (j < l.length) = false := by simp; omega
                clear hlt
                go_wp2
                (try simp only [Exit.noGoto_ret, Exit.inBlock, Exit.then])
                refine bodyPost_ret (results_cell3 rfl _ _ w.heap.size 62 _ _ rfl (Blk.set (Blk.set (HS.out.res) 0 _) 1 _) Tryd.underlying62 rfl (by kernel_rfl)) rfl ?_
                refine ⟨?_, seq_below (HS.out.but) (Nat.le_refl _) _ _⟩
                rw [← HR3.out]
                (first | rfl | (simp only [hwr]; rfl))
          · skip
            go_wp2
            go_step3
            go_wp2
            rw [HW.out]
            go_step3
            go_wp2
            go_loopw [6, 7] (fun o i wr => ∃ (oth : Bool) (j : Nat), o = .bool oth ∧ i = .int .i64 (j : Int) ∧ W = wr ∧ 2 ≤ j ∧ j ≤ l.length ∧ Hid (seqF l (l.length - j) j oth = R)) (fun o i _ => l.length - (RowKit.intOf i).toNat)
            case atStart => exact ⟨false, 2, rfl, rfl, rfl, Nat.le_refl _, h1, HR2⟩
            case round =>
              obtain ⟨oth, j, rfl, rfl, hwr, hj2, hjl, HF⟩ := hrel
              obtain rfl := hwr
              have hBW := HS.out.lt
              have r0 := HS.out.res.cell (j := 0) (v := .int .i64 0) rfl
              have r1 := HS.out.res.cell (j := 1) (v := .int .i64 0) rfl
              have rf0 := HS.out.res.free 0
              have rf1 := HS.out.res.free 1
              have i0 := HS.out.ign.cell (j := 0) (v := .int .i64 15) rfl
              have i1 := HS.out.ign.cell (j := 1) (v := .int .i64 0) rfl
              have hrl := HS.out.res.lt
              have hil := HS.out.ign.lt
              have q1 : W.cell? ⟨B, off + 1, none⟩ = some (.int .u8 79) := by rw [HS.out.cells 1 h1, HY.out]; rfl
              by_cases hlt : j < l.length
              · have k0 : (j : Int) < (l.length : Int) := by omega
                have qj := HS.out.cells j hlt
                have hd : l.length - j = (l.length - (j + 1)) + 1 := by omega
                have hF := HF.out
                rw [hd] at hF
                unfold seqF at hF
                rw [HY.out] at hF
                obtain ⟨c, hc⟩ : ∃ c, bt l j = c := ⟨_, rfl⟩
                rw [hc] at qj hF
                clear hc hd HF
                by_cases hA : 64 ≤ c ∧ c ≤ 126
                · rw [if_pos hA] at hF
                  have HB64 : Hid (∀ V, Calls Tryd.prog 61 #[.int .u8 (c : Int), .int .u8 64, .int .u8 126] V fun e w' => e = .returned (.bool true) ∧ w' = V) := fun V => (between_c c 64 126 V).mono fun e w' ⟨he, hw⟩ => ⟨by rw [he]; congr 2; simp; omega, hw⟩
                  have hjw : (j : Int) + 1 ≤ (cap : Int) := by omega
                  have hj0 : (0 : Int) ≤ (j : Int) + 1 := by omega
                  have HKN := Lib.hid (fun V => known_c V)
                  have HCV := Lib.hid (fun (V : World) (hb : Below W.heap.size W V) => HS.out.conv hlt cap hb)
                  have hwr : IntKind.i64.wrap ((j : Int) + 1) = ((j + 1 : Nat) : Int) := by
                    have : ∀ x : Int, 0 ≤ x → x ≤ 2000000 → IntKind.i64.wrap x = x := fun x h1 h2 => by simp [IntKind.wrap, IntKind.bits, IntKind.signed]; omega
                    rw [this _ (by omega) (by omega)]; omega
                  have hs1 := fun V => slice_b B off l.length cap (j + 1) _ hwr (by omega) V
                  have HLT := Lib.hid hlt
                  clear hA
                  cases hk : lookT seqKeys (l.take (j + 1)) with
                  | none =>
                    have HR3 : Hid ((15, j + 1, 0) = R) := by rw [← hF]; unfold seqKey; rw [hk]; rfl
                    have HLK := Lib.hid (fun (V : World) (b : Nat) (hb : V.heap[b]? = some (.map seqTab 15)) => look_none hb _ hk)
                    clear hF hk
                    go_wp2_with (go_at_call 61; (with_reducible refine (HB64.out _).mono ?_); rintro e w1 ⟨rfl, hq⟩; obtain rfl := hq.symm)
                    have cvD := HCV.out W.drew ((Below.refl _ _).drew)
                    go_region_with (go_at_call 62; (with_reducible refine (HKN.out _).mono ?_); rintro e w2 ⟨rfl, hm2, hb2⟩; have cv2 := HCV.out w2 ((Below.refl W.heap.size W).drew.trans hb2); have lk2 := HLK.out w2 W.heap.size hm2)
                    go_goals
                    all_goals
                      have HS2 := HS.out.below ((Below.refl W.heap.size W).drew.trans hb2)
                      have r0 := HS2.res.cell (j := 0) (v := .int .i64 0) rfl
                      have r1 := HS2.res.cell (j := 1) (v := .int .i64 0) rfl
                      have rf0 := HS2.res.free 0
                      have rf1 := HS2.res.free 1
                      have i0 := HS2.ign.cell (j := 0) (v := .int .i64 15) rfl
                      have i1 := HS2.ign.cell (j := 1) (v := .int .i64 0) rfl
                      have hrl := HS2.res.lt
                      have hil := HS2.ign.lt
                      go_wp2
                      (try simp only [Exit.noGoto_ret, Exit.inBlock, Exit.then])
                      refine bodyPost_ret (results_cell3 rfl _ _ w.heap.size 62 _ _ rfl (Blk.set (Blk.set (HS2.res) 0 _) 1 _) Tryd.underlying62 rfl (by kernel_rfl)) rfl ?_
                      refine ⟨?_, seq_below (HS2.but) (Nat.le_refl _) _ _⟩
                      rw [← HR3.out]
                      (first | rfl | (simp only [hwr]; rfl))
                  | some v =>
                    have HR3 : Hid ((v, j + 1, 0) = R) := by rw [← hF]; unfold seqKey; rw [hk]; rfl
                    have HLK := Lib.hid (fun (V : World) (b : Nat) (hb : V.heap[b]? = some (.map seqTab 15)) => look_some hb _ v hk)
                    clear hF hk
                    go_wp2_with (go_at_call 61; (with_reducible refine (HB64.out _).mono ?_); rintro e w1 ⟨rfl, hq⟩; obtain rfl := hq.symm)
                    have cvD := HCV.out W.drew ((Below.refl _ _).drew)
                    go_region_with (go_at_call 62; (with_reducible refine (HKN.out _).mono ?_); rintro e w2 ⟨rfl, hm2, hb2⟩; have cv2 := HCV.out w2 ((Below.refl W.heap.size W).drew.trans hb2); have lk2 := HLK.out w2 W.heap.size hm2)
                    go_goals
                    all_goals
                      have HS2 := HS.out.below ((Below.refl W.heap.size W).drew.trans hb2)
                      have r0 := HS2.res.cell (j := 0) (v := .int .i64 0) rfl
                      have r1 := HS2.res.cell (j := 1) (v := .int .i64 0) rfl
                      have rf0 := HS2.res.free 0
                      have rf1 := HS2.res.free 1
                      have i0 := HS2.ign.cell (j := 0) (v := .int .i64 15) rfl
                      have i1 := HS2.ign.cell (j := 1) (v := .int .i64 0) rfl
                      have hrl := HS2.res.lt
                      have hil := HS2.ign.lt
                      go_wp2
                      (try simp only [Exit.noGoto_ret, Exit.inBlock, Exit.then])
                      refine bodyPost_ret (results_cell3 rfl _ _ w.heap.size 62 _ _ rfl (Blk.set (Blk.set (HS2.res) 0 _) 1 _) Tryd.underlying62 rfl (by kernel_rfl)) rfl ?_
                      refine ⟨?_, seq_below (HS2.but) (Nat.le_refl _) _ _⟩
                      rw [← HR3.out]
                      (first | rfl | (simp only [hwr]; rfl))
                · rw [if_neg hA] at hF
                  have HB64 : Hid (∀ V, Calls Tryd.prog 61 #[.int .u8 (c : Int), .int .u8 64, .int .u8 126] V fun e w' => e = .returned (.bool false) ∧ w' = V) := fun V => (between_c c 64 126 V).mono fun e w' ⟨he, hw⟩ => ⟨by rw [he]; congr 2; simp; omega, hw⟩
                  rw [if_pos (Or.inl rfl)] at hF
                  have HR3 := Lib.hid hF
                  clear hF hA
                  go_wp2_with (first | (go_at_call 61; (with_reducible refine (HB64.out _).mono ?_); rintro e w1 ⟨rfl, hq⟩; obtain rfl := hq.symm) | (go_at_call 61; (with_reducible refine (HB48.out _).mono ?_); rintro e w1 ⟨rfl, hq⟩; obtain rfl := hq.symm) | (go_at_call 61; (with_reducible refine (HB32.out _).mono ?_); rintro e w1 ⟨rfl, hq⟩; obtain rfl := hq.symm))
                  (try simp only [Exit.noGoto_ret, Exit.inBlock, Exit.then])
                  refine bodyPost_ret (results_cell3 rfl _ _ w.heap.size 62 _ _ rfl (Blk.set (Blk.set (HS.out.res) 0 _) 1 _) Tryd.underlying62 rfl (by kernel_rfl)) rfl ?_
                  refine ⟨?_, seq_below (HS.out.but) (Nat.le_refl _) _ _⟩
                  rw [← HR3.out]
                  (first | rfl | (simp only [hwr]; rfl))
              · have HR3 : Hid ((0, l.length, 7) = R) := by
                  have hF := HF.out
                  rw [show l.length - j = 0 by omega] at hF
                  exact hF
                have kk : decide ((j : Int) < (l.length : Int)) = false := by simp; omega
                have kk' : decide (j < l.length) = false := by simp; omega
                clear hlt
                go_wp2
                (try simp only [Exit.noGoto_ret, Exit.inBlock, Exit.then])
                refine bodyPost_ret (results_cell3 rfl _ _ w.heap.size 62 _ _ rfl (Blk.set (Blk.set (HS.out.res) 0 _) 1 _) Tryd.underlying62 rfl (by kernel_rfl)) rfl ?_
                refine ⟨?_, seq_below (HS.out.but) (Nat.le_refl _) _ _⟩
                rw [← HR3.out]
                (first | rfl | (simp only [hwr]; rfl))
        · have hl1 : l.length = 1 := by omega
          have HR3 : Hid ((0, l.length, 7) = R) := by
            have h2 := HR2.out
            rw [show l.length - 2 = 0 by omega] at h2
            exact h2
          have hBW := HS.out.lt
          have r0 := HS.out.res.cell (j := 0) (v := .int .i64 0) rfl
          have r1 := HS.out.res.cell (j := 1) (v := .int .i64 0) rfl
          have rf0 := HS.out.res.free 0
          have rf1 := HS.out.res.free 1
          have hrl := HS.out.res.lt
          rw [hl1] at HR3 ⊢
          have q0w := HS.out.cells 0 hpos
          clear h1 hl1
          go_enter Tryd.func49, Tryd.ntmps49
          go_wp2
          go_step3
          go_wp2
          rw [HW.out]
          go_step3
          go_wp2
          go_loopw [6, 7] (fun o i wr => o = .bool false ∧ i = .int .i64 2 ∧ W = wr) (fun _ _ _ => 0)
          case atStart => exact ⟨rfl, rfl, rfl⟩
          case round =>
            obtain ⟨rfl, rfl, hwr⟩ := hrel
            obtain rfl := hwr
            go_wp2
            (try simp only [Exit.noGoto_ret, Exit.inBlock, Exit.then])
            refine bodyPost_ret (results_cell3 rfl _ _ w.heap.size 62 _ _ rfl (Blk.set (Blk.set (HS.out.res) 0 _) 1 _) Tryd.underlying62 rfl (by kernel_rfl)) rfl ?_
            refine ⟨?_, seq_below (HS.out.but) (Nat.le_refl _) _ _⟩
            rw [← HR3.out]
            (first | rfl | (simp only [hwr]; rfl))
    · have hxx : ((x : Int) != 27) = true := by rw [bne_iff_ne]; omega
      go_enter Tryd.func49, Tryd.ntmps49
      go_wp2
      go_step3
      go_wp2
      (try simp only [Exit.noGoto_ret, Exit.inBlock, Exit.then])
      refine bodyPost_ret (results_cell3 rfl _ _ w.heap.size 62 #[.int .i64 0, .int .i64 0] _ rfl (Blk.new w _ _) Tryd.underlying62 rfl (by kernel_rfl)) rfl ?_
      refine ⟨?_, (Below.refl _ _).alloc (Nat.le_refl _) _⟩
      rw [HR.out, if_pos hx]
      rfl

end Go.Proofs.YtbflcikfaoojmaaDoor.Edit

/- Texts joined: Kd18; Kd19; Kd20. -/
import Derived.Test.YtcakeolnokninaaDoorGK4
import Derived.Test.YtcakeolnokninaaDoorGF
import Derived.Laws.IdiomRangeMap
import Derived.Lib.SlBytesConst
import Derived.Maps.RangeRun
/- The bytes that a key is told by: keys.check, keys.Bytes, walked. -/
set_option linter.unusedVariables false
set_option linter.unusedSimpArgs false
namespace Go.Proofs.YtcakeolnokninaaDoor.Edit
open Go.RowKit Go.Lib Go.Shelf ChangeShapes Mem Utf UtfP

/-- what is wrong with a key -/
def checkE (k kc : Int) : Int := if k < 0 ∨ 16 ≤ k then 9 else if (k = 0 ∧ printC kc = false) ∨ (k ≠ 0 ∧ kc ≠ 0) then 2 else 0

set_option maxHeartbeats 1000000 in
theorem check_c (k kc : Int) (w : World) : Calls Tryd.prog 52 #[.agg #[.int .i64 k, .int .i64 kc]] w fun e w' => e = .returned (.int .i64 (checkE k kc)) ∧ Below w.heap.size w w' := by
  have HAL : Hid (Below w.heap.size w (w.alloc (.cells #[.int .i64 k, .int .i64 kc] 54))) := (Below.refl _ _).alloc (Nat.le_refl _) _
  have HP := Lib.hid (fun W => printable kc W)
  obtain ⟨R, hR⟩ : ∃ R, checkE k kc = R := ⟨_, rfl⟩
  rw [hR]
  unfold checkE at hR
  by_cases h1 : k < 0
  · rw [if_pos (Or.inl h1)] at hR
    have k1 : decide (k < 0) = true := by simpa using h1
    have HR := Lib.hid hR
    clear hR h1
    go_enter Tryd.func52, Tryd.ntmps52
    go_wp2
    go_ret
    exact ⟨by rw [← HR.out]; rfl, HAL.out⟩
  · have k1 : decide (k < 0) = false := by simp; omega
    by_cases h2 : 16 ≤ k
    · rw [if_pos (Or.inr h2)] at hR
      have k2 : decide (16 ≤ k) = true := by simpa using h2
      have HR := Lib.hid hR
      clear hR h1 h2
      go_enter Tryd.func52, Tryd.ntmps52
      go_wp2
      go_ret
      exact ⟨by rw [← HR.out]; rfl, HAL.out⟩
    · have k2 : decide (16 ≤ k) = false := by simp; omega
      rw [if_neg (by omega)] at hR
      by_cases h3 : k = 0
      · subst h3
        cases hp : printC kc
        · rw [if_pos (Or.inl ⟨rfl, hp⟩)] at hR
          rw [hp] at HP
          have HR := Lib.hid hR
          clear hR h1 h2 hp
          go_enter Tryd.func52, Tryd.ntmps52
          go_wp2_with fail
          refine (HP.out _).mono ?_
          rintro e w1 ⟨rfl, hb⟩
          have HB : Hid (Below w.heap.size w w1) := HAL.out.trans (hb.mono HAL.out.size)
          clear hb
          go_wp2
          go_ret
          exact ⟨by rw [← HR.out]; rfl, HB.out⟩
        · rw [if_neg (by simp [hp])] at hR
          rw [hp] at HP
          have HR := Lib.hid hR
          clear hR h1 h2 hp
          have c0 : (w.alloc (.cells #[.int .i64 0, .int .i64 kc] 54)).cell? ⟨w.heap.size, 0, none⟩ = some (.int .i64 0) := (Blk.new _ _ _).cell rfl
          have HC0 := Lib.hid c0
          have hsz : w.heap.size < (w.alloc (.cells #[.int .i64 0, .int .i64 kc] 54)).heap.size := (Blk.new w #[.int .i64 0, .int .i64 kc] 54).lt
          have HSZ := Lib.hid hsz
          clear c0 hsz
          go_enter Tryd.func52, Tryd.ntmps52
          go_wp2_with fail
          refine (HP.out _).mono ?_
          rintro e w1 ⟨rfl, hb⟩
          have HB : Hid (Below w.heap.size w w1) := HAL.out.trans (hb.mono HAL.out.size)
          have c1 : w1.cell? ⟨w.heap.size, 0, none⟩ = some (.int .i64 0) := (World.cell?_of_block (w := w.alloc (.cells #[.int .i64 0, .int .i64 kc] 54)) (a := ⟨w.heap.size, 0, none⟩) (hb.block _ HSZ.out)).trans HC0.out
          clear hb
          go_wp2
          go_ret
          exact ⟨by rw [← HR.out]; rfl, HB.out⟩
      · have k3 : (k == 0) = false := by simpa using h3
        have k5 : (k != 0) = true := by simpa using h3
        by_cases h4 : kc = 0
        · subst h4
          rw [if_neg (by simp [h3])] at hR
          have HR := Lib.hid hR
          clear hR h1 h2 h3
          go_enter Tryd.func52, Tryd.ntmps52
          go_wp2
          go_ret
          exact ⟨by rw [← HR.out]; rfl, HAL.out⟩
        · have k4 : (kc != 0) = true := by simpa using h4
          rw [if_pos (Or.inr ⟨h3, h4⟩)] at hR
          have HR := Lib.hid hR
          clear hR h1 h2 h3 h4
          go_enter Tryd.func52, Tryd.ntmps52
          go_wp2
          go_ret
          exact ⟨by rw [← HR.out]; rfl, HAL.out⟩

/-- the control character that a kind is told by -/
def chOf (k : Int) : Int := if k = 4 then 2 else if k = 5 then 6 else if k = 6 then 1 else if k = 7 then 5 else if k = 8 then 21 else if k = 9 then 11 else if k = 10 then 12 else if k = 11 then 3 else 4
theorem chOf_ins : ∀ y ∈ chIns, 4 ≤ y.2.2 → y.2.1 = chOf y.2.2 := by decide
theorem chOf_mem {k : Int} (h1 : 4 ≤ k) (h2 : k ≤ 12) : ∃ y ∈ chIns, y.2.2 = k ∧ y.2.1 = chOf k := by
  have hk : k = 4 ∨ k = 5 ∨ k = 6 ∨ k = 7 ∨ k = 8 ∨ k = 9 ∨ k = 10 ∨ k = 11 ∨ k = 12 := by omega
  rcases hk with rfl | rfl | rfl | rfl | rfl | rfl | rfl | rfl | rfl
  all_goals first | exact ⟨(9, 2, 4), by decide, rfl, rfl⟩ | exact ⟨(11, 6, 5), by decide, rfl, rfl⟩ | exact ⟨(13, 1, 6), by decide, rfl, rfl⟩ | exact ⟨(15, 5, 7), by decide, rfl, rfl⟩ | exact ⟨(17, 21, 8), by decide, rfl, rfl⟩ | exact ⟨(19, 11, 9), by decide, rfl, rfl⟩ | exact ⟨(21, 12, 10), by decide, rfl, rfl⟩ | exact ⟨(23, 3, 11), by decide, rfl, rfl⟩ | exact ⟨(25, 4, 12), by decide, rfl, rfl⟩
theorem chOf_bd (k : Int) : 1 ≤ chOf k ∧ chOf k ≤ 21 := by
  unfold chOf
  repeat' split
  all_goals omega

/-- the bytes that a key is told by -/
noncomputable def bytesOf (k kc : Int) : List UInt8 :=
  if k = 0 then enc kc else if k = 3 then [27, 91, 51, 126] else if k = 13 then [27, 91, 50, 48, 48, 126] else if k = 14 then [27, 91, 50, 48, 49, 126]
  else if k = 1 then [13] else if k = 2 then [127] else if 4 ≤ k ∧ k ≤ 12 then [(chOf k).toNat.toUInt8] else [0]

theorem conv_litK (w : World) (C : Array Value) (n c : Nat) : (convert 22 22 (.slice (some ⟨w.heap.size, 0, none⟩) n c)).run Tryd.prog (w.alloc (.cells C 5)) = .ok (.slice (some ⟨w.heap.size, 0, none⟩) n c) (w.alloc (.cells C 5 (C.size, C.size + 1))) :=
  Lib.run_convert_bytes_const w 22 5 C n c Tryd.underlying22 Tryd.underlying5
theorem bytes_litK (w : World) (l : List UInt8) (C : Array Value) (t : TypeId) (fr : Nat × Nat) (hC : C = (l.map fun c => Value.int .u8 (c.toNat : Int)).toArray) : BytesAt (w.alloc (.cells C t fr)) (some ⟨w.heap.size, 0, none⟩) l := by
  intro hne
  refine ⟨w.heap.size, 0, rfl, by simp, fun j hj => ?_⟩
  have h : (w.alloc (.cells C t fr)).heap[w.heap.size]? = some (.cells C t fr) := heap_alloc_new w _
  rw [cell_of_row _ _ _ C t fr h, hC]
  simp only [Nat.zero_add, List.getElem?_toArray, List.getElem?_map, List.getElem?_eq_getElem hj, Option.map_some]
  unfold bt
  rw [List.getD_eq_getElem?_getD, List.getElem?_eq_getElem hj]; rfl

/-- what Bytes tells of a key that may be -/
def BytesOk (k kc : Int) (w : World) (e : Ending) (w' : World) : Prop := ∃ A cap, e = .returned (.tuple #[.slice A (bytesOf k kc).length cap, .int .i64 0]) ∧ (bytesOf k kc).length ≤ cap ∧ BytesAt w' A (bytesOf k kc) ∧ (∀ ad, A = some ad → w.heap.size ≤ ad.block) ∧ Below w.heap.size w w'

end Go.Proofs.YtcakeolnokninaaDoor.Edit

/- The bytes that a key is told by: keys.Bytes, walked. -/
set_option linter.unusedVariables false
set_option linter.unusedSimpArgs false
namespace Go.Proofs.YtcakeolnokninaaDoor.Edit
open Go.RowKit Go.Lib Go.Shelf ChangeShapes Mem Utf UtfP

/-- what stands behind the check -/
structure ByW (w w2 : World) (k kc : Int) : Prop where
  bel : Below w.heap.size w w2
  blk : Blk w2 w.heap.size #[.int .i64 k, .int .i64 kc] 54

theorem bytes_bad (k kc : Int) (w : World) (h : checkE k kc ≠ 0) : Calls Tryd.prog 32 #[.agg #[.int .i64 k, .int .i64 kc]] w fun e w' => (∃ x : Int, x ≠ 0 ∧ e = .returned (.tuple #[.slice none 0 0, .int .i64 x])) ∧ Below w.heap.size w w' := by
  have HAL : Hid (Below w.heap.size w (w.alloc (.cells #[.int .i64 k, .int .i64 kc] 54))) := (Below.refl _ _).alloc (Nat.le_refl _) _
  have HC := Lib.hid (check_c k kc (w.alloc (.cells #[.int .i64 k, .int .i64 kc] 54)))
  obtain ⟨x, hx⟩ : ∃ x, checkE k kc = x := ⟨_, rfl⟩
  rw [hx] at HC h
  have hx0 : (x != 0) = true := by simpa using h
  have HX := Lib.hid h
  clear hx h
  go_enter Tryd.func32, Tryd.ntmps32
  go_wp2_with fail
  refine (HC.out).mono ?_
  rintro e w2 ⟨rfl, hb2⟩
  have HB2 : Hid (Below w.heap.size w w2) := HAL.out.trans (hb2.mono HAL.out.size)
  clear hb2
  go_wp2
  go_ret2
  exact ⟨⟨x, HX.out, rfl⟩, HB2.out⟩

attribute [local go_sem ↓] conv_litK in
set_option maxHeartbeats 1000000 in
theorem bytes_3 (kc : Int) (w : World) (h : checkE 3 kc = 0) : Calls Tryd.prog 32 #[.agg #[.int .i64 3, .int .i64 kc]] w (BytesOk 3 kc w) := by
  have HAL : Hid (Below w.heap.size w (w.alloc (.cells #[.int .i64 3, .int .i64 kc] 54))) := (Below.refl _ _).alloc (Nat.le_refl _) _
  have hch := check_c 3 kc (w.alloc (.cells #[.int .i64 3, .int .i64 kc] 54))
  rw [h] at hch
  have HC := Lib.hid hch
  have HBK := Lib.hid (Blk.new w #[.int .i64 3, .int .i64 kc] 54)
  clear hch h
  go_enter Tryd.func32, Tryd.ntmps32
  go_wp2_with fail
  refine (HC.out).mono ?_
  rintro e w2 ⟨rfl, hb2⟩
  have hblk : Blk w2 w.heap.size #[.int .i64 3, .int .i64 kc] 54 := HBK.out.but (But.of_below (S := []) hb2) (by simp)
  have HBL := Lib.hid hblk
  have HB2 : Hid (Below w.heap.size w w2) := HAL.out.trans (hb2.mono HAL.out.size)
  have c0 := hblk.cell (j := 0) (v := .int .i64 3) rfl
  have c1 := hblk.cell (j := 1) (v := .int .i64 kc) rfl
  have hsz := hblk.lt
  clear hb2 hblk
  go_wp2
  go_ret2
  have hb : bytesOf 3 kc = [27, 91, 51, 126] := rfl
  unfold BytesOk
  rw [hb]
  exact ⟨_, _, rfl, by decide, bytes_litK w2 [27, 91, 51, 126] #[.int .u8 27, .int .u8 91, .int .u8 51, .int .u8 126] _ (4, 5) rfl, fun ad had => by cases had; exact HB2.out.size, HB2.out.alloc HB2.out.size _⟩

attribute [local go_sem ↓] conv_litK in
set_option maxHeartbeats 1000000 in
theorem bytes_13 (kc : Int) (w : World) (h : checkE 13 kc = 0) : Calls Tryd.prog 32 #[.agg #[.int .i64 13, .int .i64 kc]] w (BytesOk 13 kc w) := by
  have HAL : Hid (Below w.heap.size w (w.alloc (.cells #[.int .i64 13, .int .i64 kc] 54))) := (Below.refl _ _).alloc (Nat.le_refl _) _
  have hch := check_c 13 kc (w.alloc (.cells #[.int .i64 13, .int .i64 kc] 54))
  rw [h] at hch
  have HC := Lib.hid hch
  have HBK := Lib.hid (Blk.new w #[.int .i64 13, .int .i64 kc] 54)
  clear hch h
  go_enter Tryd.func32, Tryd.ntmps32
  go_wp2_with fail
  refine (HC.out).mono ?_
  rintro e w2 ⟨rfl, hb2⟩
  have hblk : Blk w2 w.heap.size #[.int .i64 13, .int .i64 kc] 54 := HBK.out.but (But.of_below (S := []) hb2) (by simp)
  have HBL := Lib.hid hblk
  have HB2 : Hid (Below w.heap.size w w2) := HAL.out.trans (hb2.mono HAL.out.size)
  have c0 := hblk.cell (j := 0) (v := .int .i64 13) rfl
  have c1 := hblk.cell (j := 1) (v := .int .i64 kc) rfl
  have hsz := hblk.lt
  clear hb2 hblk
  go_wp2
  go_ret2
  have hb : bytesOf 13 kc = [27, 91, 50, 48, 48, 126] := rfl
  unfold BytesOk
  rw [hb]
  exact ⟨_, _, rfl, by decide, bytes_litK w2 [27, 91, 50, 48, 48, 126] #[.int .u8 27, .int .u8 91, .int .u8 50, .int .u8 48, .int .u8 48, .int .u8 126] _ (6, 7) rfl, fun ad had => by cases had; exact HB2.out.size, HB2.out.alloc HB2.out.size _⟩

attribute [local go_sem ↓] conv_litK in
set_option maxHeartbeats 1000000 in
theorem bytes_14 (kc : Int) (w : World) (h : checkE 14 kc = 0) : Calls Tryd.prog 32 #[.agg #[.int .i64 14, .int .i64 kc]] w (BytesOk 14 kc w) := by
  have HAL : Hid (Below w.heap.size w (w.alloc (.cells #[.int .i64 14, .int .i64 kc] 54))) := (Below.refl _ _).alloc (Nat.le_refl _) _
  have hch := check_c 14 kc (w.alloc (.cells #[.int .i64 14, .int .i64 kc] 54))
  rw [h] at hch
  have HC := Lib.hid hch
  have HBK := Lib.hid (Blk.new w #[.int .i64 14, .int .i64 kc] 54)
  clear hch h
  go_enter Tryd.func32, Tryd.ntmps32
  go_wp2_with fail
  refine (HC.out).mono ?_
  rintro e w2 ⟨rfl, hb2⟩
  have hblk : Blk w2 w.heap.size #[.int .i64 14, .int .i64 kc] 54 := HBK.out.but (But.of_below (S := []) hb2) (by simp)
  have HBL := Lib.hid hblk
  have HB2 : Hid (Below w.heap.size w w2) := HAL.out.trans (hb2.mono HAL.out.size)
  have c0 := hblk.cell (j := 0) (v := .int .i64 14) rfl
  have c1 := hblk.cell (j := 1) (v := .int .i64 kc) rfl
  have hsz := hblk.lt
  clear hb2 hblk
  go_wp2
  go_ret2
  have hb : bytesOf 14 kc = [27, 91, 50, 48, 49, 126] := rfl
  unfold BytesOk
  rw [hb]
  exact ⟨_, _, rfl, by decide, bytes_litK w2 [27, 91, 50, 48, 49, 126] #[.int .u8 27, .int .u8 91, .int .u8 50, .int .u8 48, .int .u8 49, .int .u8 126] _ (6, 7) rfl, fun ad had => by cases had; exact HB2.out.size, HB2.out.alloc HB2.out.size _⟩

set_option maxHeartbeats 1000000 in
theorem bytes_1 (kc : Int) (w : World) (h : checkE 1 kc = 0) : Calls Tryd.prog 32 #[.agg #[.int .i64 1, .int .i64 kc]] w (BytesOk 1 kc w) := by
  have HAL : Hid (Below w.heap.size w (w.alloc (.cells #[.int .i64 1, .int .i64 kc] 54))) := (Below.refl _ _).alloc (Nat.le_refl _) _
  have hch := check_c 1 kc (w.alloc (.cells #[.int .i64 1, .int .i64 kc] 54))
  rw [h] at hch
  have HC := Lib.hid hch
  have HBK := Lib.hid (Blk.new w #[.int .i64 1, .int .i64 kc] 54)
  clear hch h
  go_enter Tryd.func32, Tryd.ntmps32
  go_wp2_with fail
  refine (HC.out).mono ?_
  rintro e w2 ⟨rfl, hb2⟩
  have hblk : Blk w2 w.heap.size #[.int .i64 1, .int .i64 kc] 54 := HBK.out.but (But.of_below (S := []) hb2) (by simp)
  have HBL := Lib.hid hblk
  have HB2 : Hid (Below w.heap.size w w2) := HAL.out.trans (hb2.mono HAL.out.size)
  have c0 := hblk.cell (j := 0) (v := .int .i64 1) rfl
  have c1 := hblk.cell (j := 1) (v := .int .i64 kc) rfl
  have hsz := hblk.lt
  clear hb2 hblk
  go_wp2
  go_ret2
  have hb : bytesOf 1 kc = [13] := rfl
  unfold BytesOk
  rw [hb]
  exact ⟨_, _, rfl, by decide, bytes_litK w2 [13] #[.int .u8 13] _ (0, 0) rfl, fun ad had => by cases had; exact HB2.out.size, HB2.out.alloc HB2.out.size _⟩

set_option maxHeartbeats 1000000 in
theorem bytes_2 (kc : Int) (w : World) (h : checkE 2 kc = 0) : Calls Tryd.prog 32 #[.agg #[.int .i64 2, .int .i64 kc]] w (BytesOk 2 kc w) := by
  have HAL : Hid (Below w.heap.size w (w.alloc (.cells #[.int .i64 2, .int .i64 kc] 54))) := (Below.refl _ _).alloc (Nat.le_refl _) _
  have hch := check_c 2 kc (w.alloc (.cells #[.int .i64 2, .int .i64 kc] 54))
  rw [h] at hch
  have HC := Lib.hid hch
  have HBK := Lib.hid (Blk.new w #[.int .i64 2, .int .i64 kc] 54)
  clear hch h
  go_enter Tryd.func32, Tryd.ntmps32
  go_wp2_with fail
  refine (HC.out).mono ?_
  rintro e w2 ⟨rfl, hb2⟩
  have hblk : Blk w2 w.heap.size #[.int .i64 2, .int .i64 kc] 54 := HBK.out.but (But.of_below (S := []) hb2) (by simp)
  have HBL := Lib.hid hblk
  have HB2 : Hid (Below w.heap.size w w2) := HAL.out.trans (hb2.mono HAL.out.size)
  have c0 := hblk.cell (j := 0) (v := .int .i64 2) rfl
  have c1 := hblk.cell (j := 1) (v := .int .i64 kc) rfl
  have hsz := hblk.lt
  clear hb2 hblk
  go_wp2
  go_ret2
  have hb : bytesOf 2 kc = [127] := rfl
  unfold BytesOk
  rw [hb]
  exact ⟨_, _, rfl, by decide, bytes_litK w2 [127] #[.int .u8 127] _ (0, 0) rfl, fun ad had => by cases had; exact HB2.out.size, HB2.out.alloc HB2.out.size _⟩

set_option maxHeartbeats 1000000 in
theorem bytes_0 (kc : Int) (w : World) (h : checkE 0 kc = 0) : Calls Tryd.prog 32 #[.agg #[.int .i64 0, .int .i64 kc]] w (BytesOk 0 kc w) := by
  have hp : printC kc = true := by
    cases hp : printC kc
    · unfold checkE at h; rw [if_neg (by omega), if_pos (Or.inl ⟨rfl, hp⟩)] at h; cases h
    · rfl
  have HPT := Lib.hid (fun W => put_ok kc W (printC_fine hp))
  have HAL : Hid (Below w.heap.size w (w.alloc (.cells #[.int .i64 0, .int .i64 kc] 54))) := (Below.refl _ _).alloc (Nat.le_refl _) _
  have hch := check_c 0 kc (w.alloc (.cells #[.int .i64 0, .int .i64 kc] 54))
  rw [h] at hch
  have HC := Lib.hid hch
  have HBK := Lib.hid (Blk.new w #[.int .i64 0, .int .i64 kc] 54)
  clear hch h hp
  go_enter Tryd.func32, Tryd.ntmps32
  go_wp2_with fail
  refine (HC.out).mono ?_
  rintro e w2 ⟨rfl, hb2⟩
  have hblk : Blk w2 w.heap.size #[.int .i64 0, .int .i64 kc] 54 := HBK.out.but (But.of_below (S := []) hb2) (by simp)
  have HBL := Lib.hid hblk
  have HB2 : Hid (Below w.heap.size w w2) := HAL.out.trans (hb2.mono HAL.out.size)
  have c0 := hblk.cell (j := 0) (v := .int .i64 0) rfl
  have c1 := hblk.cell (j := 1) (v := .int .i64 kc) rfl
  have hsz := hblk.lt
  clear hb2 hblk
  go_wp2_with fail
  refine (HPT.out _).mono ?_
  rintro e w3 ⟨v, rfl, ho, hb3⟩
  obtain ⟨A, cap, rfl, hc, hby, hA, _⟩ := OwnB.form ho
  have HBY := Lib.hid hby
  have HA := Lib.hid hA
  have HC3 := Lib.hid hc
  have HB3 : Hid (Below w.heap.size w w3) := HB2.out.trans (hb3.mono HB2.out.size)
  clear ho hb3 hby hA hc
  go_wp2
  go_ret2
  have hb : bytesOf 0 kc = enc kc := rfl
  unfold BytesOk
  rw [hb]
  exact ⟨A, cap, rfl, HC3.out, HBY.out, fun ad had => Nat.le_trans HB2.out.size (HA.out ad had).1, HB3.out⟩

theorem setBlock_but (w : World) (r : Nat) (o : Obj) : But [r] w (ChangeMaps.setBlock w r o) := by
  refine ⟨rfl, rfl, rfl, by simp [ChangeMaps.setBlock], fun k hk hs => ?_⟩
  have hne : r ≠ k := fun e => hs (by simp [e])
  simp [ChangeMaps.setBlock, Array.getElem?_setIfInBounds_ne hne]
theorem setBlock_at (w : World) (r : Nat) (o : Obj) (h : r < w.heap.size) : (ChangeMaps.setBlock w r o).heap[r]? = some o := by
  simp [ChangeMaps.setBlock, h]
theorem iterSeen_of {w : World} {r : Nat} {a : Option Nat} {b c : Nat} {s : Array Nat} (h : w.heap[r]? = some (.mapIter a b s c)) : w.iterSeen r = s := by
  unfold World.iterSeen; rw [h]

theorem ofNat_wrap {c : Int} (h1 : 1 ≤ c) (h2 : c ≤ 21) : (c.toNat.toUInt8).toNat = c.toNat ∧ ((c.toNat : Nat) : Int) = c := by
  refine ⟨?_, by omega⟩
  show (UInt8.ofNat c.toNat).toNat = _
  rw [UInt8.toNat_ofNat']
  omega

set_option maxRecDepth 100000 in
set_option maxHeartbeats 2000000 in
theorem bytes_else (k kc : Int) (w : World) (h : checkE k kc = 0) (hk : (4 ≤ k ∧ k ≤ 12) ∨ k = 15) : Calls Tryd.prog 32 #[.agg #[.int .i64 k, .int .i64 kc]] w (BytesOk k kc w) := by
  have k0 : (k == 0) = false := by simp; omega
  have k1 : (k == 1) = false := by simp; omega
  have k2 : (k == 2) = false := by simp; omega
  have k3 : (k == 3) = false := by simp; omega
  have k13 : (k == 13) = false := by simp; omega
  have k14 : (k == 14) = false := by simp; omega
  have HK := Lib.hid hk
  have HAL : Hid (Below w.heap.size w (w.alloc (.cells #[.int .i64 k, .int .i64 kc] 54))) := (Below.refl _ _).alloc (Nat.le_refl _) _
  have hch := check_c k kc (w.alloc (.cells #[.int .i64 k, .int .i64 kc] 54))
  rw [h] at hch
  have HC := Lib.hid hch
  have HBK := Lib.hid (Blk.new w #[.int .i64 k, .int .i64 kc] 54)
  clear hch h hk
  go_enter Tryd.func32, Tryd.ntmps32
  go_wp2_with fail
  refine (HC.out).mono ?_
  rintro e w2 ⟨rfl, hb2⟩
  have hblk : Blk w2 w.heap.size #[.int .i64 k, .int .i64 kc] 54 := HBK.out.but (But.of_below (S := []) hb2) (by simp)
  have HBL := Lib.hid hblk
  have HB2 : Hid (Below w.heap.size w w2) := HAL.out.trans (hb2.mono HAL.out.size)
  have c0 := hblk.cell (j := 0) (v := .int .i64 k) rfl
  have c1 := hblk.cell (j := 1) (v := .int .i64 kc) rfl
  have hsz := hblk.lt
  clear hb2 hblk
  have HCH := Lib.hid (chars_c w2)
  go_wp2_with fail
  refine (HCH.out).mono ?_
  rintro e w3 ⟨es, rfl, hm, hst, htab, hb3⟩
  have hblk3 : Blk w3 w.heap.size #[.int .i64 k, .int .i64 kc] 54 := HBL.out.but (But.of_below (S := []) hb3) (by simp)
  have HBL3 := Lib.hid hblk3
  have HB3 : Hid (Below w.heap.size w w3) := HB2.out.trans (hb3.mono HB2.out.size)
  have hrg := run_range_map (P := Tryd.prog) w3 89 3 3 w2.heap.size es _ Tryd.underlying89 hm
  have HM := Lib.hid hm
  have HST := Lib.hid hst
  have HTAB := Lib.hid htab
  clear c0 c1 hsz hb3 hblk3 hm hst htab
  go_wp2
  go_loopw [] (fun wr => ∃ seen : Array Nat, wr.heap[w3.heap.size]? = some (.mapIter (some w2.heap.size) es.size seen es.size) ∧ Hid (But [] w3 wr) ∧ ∀ x ∈ es.toList, seen.contains x.born = true → ¬ valOf x.val = k) (fun wr => (leftOf es (wr.iterSeen w3.heap.size)).size)
  case atStart => exact ⟨#[], heap_alloc_new _ _, Lib.hid ((But.refl [] w3).alloc _), fun x _ h => by simp at h⟩
  case round =>
    obtain ⟨seen, hr, HBT, hno⟩ := hrel
    have hmlt : w2.heap.size < w3.heap.size := by
      rcases Nat.lt_or_ge w2.heap.size w3.heap.size with h' | h'
      · exact h'
      · have := HM.out; rw [Array.getElem?_eq_none h'] at this; cases this
    have hb1 : wr.heap[w2.heap.size]? = some (.map es es.size) := by rw [HBT.out.block _ hmlt (by simp)]; exact HM.out
    have hbel : Below w.heap.size w wr := HB3.out.trans (HBT.out.below HB3.out.size (by simp))
    have HBEL := Lib.hid hbel
    have HR := Lib.hid hr
    have law := run_next_at (P := Tryd.prog) wr 0 w3.heap.size w2.heap.size es.size es.size seen es es.size hr hb1 HST.out.1 (Nat.le_refl _)
    rcases law with ⟨h0, hrun⟩ | ⟨e, he, w1, hal, hrun⟩
    · have hnx : ∀ ty, (Instr.next (.pointer (some ⟨w3.heap.size, 0, none⟩)) false ty).run Tryd.prog wr = _ := fun _ => hrun
      have hk15 : bytesOf k kc = [0] := by
        rcases HK.out with h | h
        · exfalso
          obtain ⟨y, hy, hyk, _⟩ := chOf_mem h.1 h.2
          obtain ⟨x, hx, hxk⟩ := HTAB.out.2 y hy
          obtain ⟨y2, hy2, hk2', hv2⟩ := HTAB.out.1 x hx
          have hkk : y2.2.1 = y.2.1 := by rw [hxk] at hk2'; injection hk2' with _ h; exact h.symm
          have hinj : ∀ a ∈ chIns, ∀ b ∈ chIns, a.2.1 = b.2.1 → a.2.2 = b.2.2 := by decide
          have := hinj y2 hy2 y hy hkk
          refine hno x hx (all_seen es seen h0 x hx) ?_
          rw [hv2]
          show y2.2.2 = k
          omega
        · subst h; rfl
      have HK15 := Lib.hid hk15
      clear hk15 hno h0 hbel hr hb1 hmlt
      go_wp2
      go_ret2
      unfold BytesOk
      rw [HK15.out]
      exact ⟨_, _, rfl, by decide, bytes_litK _ [0] #[.int .u8 0] _ (0, 0) rfl, fun ad had => by cases had; exact HBEL.out.size, HBEL.out.alloc HBEL.out.size _⟩
    · obtain ⟨y, hy, hyk, hyv⟩ := HTAB.out.1 e (mem_left he).1
      obtain ⟨w5, hw5⟩ : ∃ w5, ChangeMaps.setBlock w1 w3.heap.size (.mapIter (some w2.heap.size) es.size (seen.push e.born) es.size) = w5 := ⟨_, rfl⟩
      rw [hyk, hyv, hw5] at hrun
      have hnx : ∀ ty, (Instr.next (.pointer (some ⟨w3.heap.size, 0, none⟩)) false ty).run Tryd.prog wr = _ := fun _ => hrun
      have hb51 : But [w3.heap.size] wr w5 := by
        rw [← hw5]
        rcases hal with rfl | rfl
        · exact setBlock_but _ _ _
        · exact (But.refl _ _).drew.trans (setBlock_but _ _ _)
      have hr5 : w5.heap[w3.heap.size]? = some (.mapIter (some w2.heap.size) es.size (seen.push e.born) es.size) := by
        rw [← hw5]
        have hlt : w3.heap.size < wr.heap.size := (Array.getElem?_eq_some_iff.1 HR.out).1
        rcases hal with rfl | rfl
        · exact setBlock_at _ _ _ hlt
        · exact setBlock_at _ _ _ hlt
      have hb5 : w5.heap[w2.heap.size]? = some (.map es es.size) := by
        rw [hb51.block _ (Nat.lt_of_lt_of_le hmlt HBT.out.size) (by simp; omega)]
        exact hb1
      have hbt5 : But [] w3 w5 := (HBT.out.mono (by simp) : But [w3.heap.size] w3 wr).trans hb51 |>.mono (by simp)
      have HBT5 := Lib.hid hbt5
      have hen := run_entry_at (P := Tryd.prog) w5 w3.heap.size w2.heap.size es.size seen es es.size e hr5 hb5 (mem_left he).1 HST.out.2.1
      rw [hyk, hyv] at hen
      have hbk5 : Blk w5 w.heap.size #[.int .i64 k, .int .i64 kc] 54 := HBL3.out.but hbt5 (by simp)
      have c0 := hbk5.cell (j := 0) (v := .int .i64 k) rfl
      have hblt := hbk5.lt
      have HBEL5 : Hid (Below w.heap.size w w5) := HB3.out.trans (hbt5.below HB3.out.size (by simp))
      have HR5 := Lib.hid hr5
      clear hw5 hr5 hb5 hbt5 hb51 hbk5 hr hb1 hbel
      by_cases hval : y.2.2 = k
      · have kv : (y.2.2 == k) = true := by simpa using hval
        have hk4 : 4 ≤ k ∧ k ≤ 12 := by
          rcases HK.out with h | h
          · exact h
          · exact absurd (by rw [hval]; exact h) (kindOf_of y hy).2
        have hch := chOf_ins y hy (by omega)
        rw [hval] at hch
        have hbd := chOf_bd k
        have hb : bytesOf k kc = [(chOf k).toNat.toUInt8] := by
          unfold bytesOf
          rw [if_neg (by omega), if_neg (by omega), if_neg (by omega), if_neg (by omega), if_neg (by omega), if_neg (by omega), if_pos hk4]
        have HBB := Lib.hid hb
        rw [hch] at hnx hen
        obtain ⟨x, hx⟩ : ∃ x, chOf k = x := ⟨_, rfl⟩
        rw [hx] at hnx hen hbd HBB
        have hwr : IntKind.u8.wrap x = x := by rw [IntKind.wrap_u8]; omega
        obtain ⟨o1, o2⟩ := ofNat_wrap hbd.1 hbd.2
        have HO := Lib.hid (And.intro o1 o2)
        rw [hval] at hnx hen
        have kk : (k == k) = true := by simp
        clear hno hb hch hx o1 o2 hk4 hval hyk hyv kv hrun
        go_wp2
        go_ret2
        unfold BytesOk
        rw [HBB.out]
        exact ⟨_, _, rfl, Nat.le_refl _, bytes_litK _ [x.toNat.toUInt8] #[.int .u8 x] _ (0, 0) (by simp [HO.out.1, HO.out.2]), fun ad had => by cases had; exact HBEL5.out.size, HBEL5.out.alloc HBEL5.out.size _⟩
      · have kv : (y.2.2 == k) = false := by simpa using hval
        have HVAL := Lib.hid hval
        have HV := Lib.hid hyv
        clear hval hrun
        go_wp2
        go_roundw
        case rel =>
          refine ⟨seen.push e.born, HR5.out, HBT5, fun x hx hc => ?_⟩
          rw [contains_push] at hc
          rcases Bool.or_eq_true _ _ ▸ hc with h1 | h1
          · exact hno x hx h1
          · have : x = e := born_inj HST.out.2.1 hx (mem_left he).1 (beq_iff_eq.1 h1)
            subst this
            rw [HV.out]
            exact HVAL.out
        case measure =>
          rw [iterSeen_of HR5.out, iterSeen_of HR.out]
          exact left_shrinks es seen e he

theorem bytes_c (k kc : Int) (w : World) (h : checkE k kc = 0) : Calls Tryd.prog 32 #[.agg #[.int .i64 k, .int .i64 kc]] w (BytesOk k kc w) := by
  have hk : k = 0 ∨ k = 3 ∨ k = 13 ∨ k = 14 ∨ k = 1 ∨ k = 2 ∨ ((4 ≤ k ∧ k ≤ 12) ∨ k = 15) := by
    have h2 := h
    unfold checkE at h2
    by_cases hh : k < 0 ∨ 16 ≤ k
    · rw [if_pos hh] at h2; cases h2
    · omega
  rcases hk with rfl | rfl | rfl | rfl | rfl | rfl | hk
  · exact bytes_0 kc w h
  · exact bytes_3 kc w h
  · exact bytes_13 kc w h
  · exact bytes_14 kc w h
  · exact bytes_1 kc w h
  · exact bytes_2 kc w h
  · exact bytes_else k kc w h hk

end Go.Proofs.YtcakeolnokninaaDoor.Edit

/- Keys told by their bytes, fed: in plain Lean. -/
set_option linter.unusedVariables false
set_option linter.unusedSimpArgs false
namespace Go.Proofs.YtcakeolnokninaaDoor.Edit
open Go.RowKit Go.Lib Go.Shelf ChangeShapes Mem Utf UtfP

/-- what is told of a key, by whether a paste is begun: the key, whether one is begun then -/
def wantE (ps : Bool) (k kc : Int) : (Int × Int) × Bool :=
  if (ps = false ∧ k = 14) ∨ (ps = true ∧ k ≠ 0 ∧ k ≠ 14) then ((15, 0), ps)
  else if k = 13 ∨ k = 14 then ((k, kc), decide (k = 13))
  else ((k, kc), ps)

theorem feed_rune (ps : Bool) {c : Int} (h : printC c = true) : feed (enc c) [] ps = ([(0, c)], [], ps) := by
  rw [feed_drain _ _ _ rfl, List.nil_append]
  have hn := next_enc (c := c) [] (printC_fine h)
  rw [List.append_nil] at hn
  have hne := enc_ne c
  have hp := List.length_pos_iff.2 hne
  have h32 := (printC_iff.1 h).2.1
  have h27 : ¬ bt (enc c) 0 = 27 := by
    intro e
    have h2 : (next (enc c)).1 = 27 := by
      unfold next nextN
      rw [if_neg (by omega), e]
      have hs : size1 27 = 1 := by decide
      rw [hs]
      rfl
    rw [hn] at h2
    simp only at h2
    omega
  have hx : nxE (enc c) ps = some ((0, c), (enc c).length, ps) := by
    unfold nxE
    rw [if_neg hne, if_neg h27, hn]
    show (if (0 : Nat) = 7 then none else some (charK ps (if (0 : Nat) = 8 then 65533 else ((c.toNat : Nat) : Int)), (enc c).length, ps)) = _
    rw [if_neg (by decide), if_neg (by decide), show ((c.toNat : Nat) : Int) = c by omega, charK_print ps h]
  rw [drain_some hx, List.drop_length]
  rfl

theorem feed_k (ps : Bool) : feed [27, 91, 51, 126] [] ps = ([(wantE ps 3 0).1], [], (wantE ps 3 0).2) ∧ feed [27, 91, 50, 48, 48, 126] [] ps = ([(wantE ps 13 0).1], [], (wantE ps 13 0).2) ∧ feed [27, 91, 50, 48, 49, 126] [] ps = ([(wantE ps 14 0).1], [], (wantE ps 14 0).2) ∧
    feed [13] [] ps = ([(wantE ps 1 0).1], [], (wantE ps 1 0).2) ∧ feed [127] [] ps = ([(wantE ps 2 0).1], [], (wantE ps 2 0).2) ∧ feed [0] [] ps = ([(wantE ps 15 0).1], [], (wantE ps 15 0).2) := by
  cases ps
  · exact ⟨by kernel_rfl, by kernel_rfl, by kernel_rfl, by kernel_rfl, by kernel_rfl, by kernel_rfl⟩
  · exact ⟨by kernel_rfl, by kernel_rfl, by kernel_rfl, by kernel_rfl, by kernel_rfl, by kernel_rfl⟩
theorem feed_ch (ps : Bool) {k : Int} (h1 : 4 ≤ k) (h2 : k ≤ 12) : feed [(chOf k).toNat.toUInt8] [] ps = ([(wantE ps k 0).1], [], (wantE ps k 0).2) := by
  have hk : k = 4 ∨ k = 5 ∨ k = 6 ∨ k = 7 ∨ k = 8 ∨ k = 9 ∨ k = 10 ∨ k = 11 ∨ k = 12 := by omega
  rcases hk with rfl | rfl | rfl | rfl | rfl | rfl | rfl | rfl | rfl <;> (clear h1 h2; cases ps) <;> (show feed _ _ _ = _; kernel_rfl)

theorem feed_bytes (ps : Bool) (k kc : Int) (h : checkE k kc = 0) : feed (bytesOf k kc) [] ps = ([(wantE ps k kc).1], [], (wantE ps k kc).2) := by
  have hh := h
  unfold checkE at hh
  by_cases h0 : k < 0 ∨ 16 ≤ k
  · rw [if_pos h0] at hh; cases hh
  · rw [if_neg h0] at hh
    by_cases h1 : (k = 0 ∧ printC kc = false) ∨ (k ≠ 0 ∧ kc ≠ 0)
    · rw [if_pos h1] at hh; cases hh
    · have hk : k = 0 ∨ k = 3 ∨ k = 13 ∨ k = 14 ∨ k = 1 ∨ k = 2 ∨ (4 ≤ k ∧ k ≤ 12) ∨ k = 15 := by omega
      obtain ⟨f1, f2, f3, f4, f5, f6⟩ := feed_k ps
      rcases hk with rfl | hk
      · have hp : printC kc = true := by
          cases hp : printC kc
          · exact absurd (Or.inl ⟨rfl, hp⟩) h1
          · rfl
        have e : wantE ps 0 kc = ((0, kc), ps) := by unfold wantE; simp
        rw [e]
        exact feed_rune ps hp
      · have hz : kc = 0 := by
          rcases Int.lt_trichotomy kc 0 with h | h | h
          · exact absurd (Or.inr ⟨by omega, by omega⟩) h1
          · exact h
          · exact absurd (Or.inr ⟨by omega, by omega⟩) h1
        subst hz
        rcases hk with rfl | rfl | rfl | rfl | rfl | ⟨h4, h12⟩ | rfl
        · exact f1
        · exact f2
        · exact f3
        · exact f4
        · exact f5
        · have e : bytesOf k 0 = [(chOf k).toNat.toUInt8] := by
            unfold bytesOf
            rw [if_neg (by omega), if_neg (by omega), if_neg (by omega), if_neg (by omega), if_neg (by omega), if_neg (by omega), if_pos ⟨h4, h12⟩]
          rw [e]
          exact feed_ch ps h4 h12
        · exact f6

theorem bytesOf_le (k kc : Int) : (bytesOf k kc).length ≤ 6 := by
  unfold bytesOf
  split
  · have := (enc_length kc).2; omega
  · repeat' split
    all_goals first | decide | exact (by show 1 ≤ 6; decide)

end Go.Proofs.YtcakeolnokninaaDoor.Edit

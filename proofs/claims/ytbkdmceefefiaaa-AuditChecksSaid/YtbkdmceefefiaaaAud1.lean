/- The audit's stands, walked one by one. -/
import Derived.Test.YtbkdmceefefiaaaByt
import Derived.Deep.QuietTactic
import Derived.Deep.RegionHeldLaw
import Derived.BigQuiet
import Derived.Lib.SlBytesConst
set_option linter.unusedVariables false
namespace Go.Proofs.Ytbkdmceefefiaaa.Aud
open Go.RowKit Go.Lib Mem Byt

attribute [local go_sem ↓] conv_str
attribute [local go_sem] strOf_toList

theorem equal (l m : List UInt8) (A B : Option Addr) (c c' : Nat) (w : World) (hA : BytesAt w A l) (hB : BytesAt w B m) :
    Calls Try.prog 25 #[.slice A l.length c, .slice B m.length c'] w fun e w' => e = .returned (.bool (decide (l = m))) ∧ Below w.heap.size w w' := by
  have hd := Lib.hid (rfl : decide (l = m) = decide (l = m))
  have hw := Lib.hid (Below.refl w.heap.size w)
  go_enter Try.func25, Try.ntmps25
  go_wp2
  go_ret
  refine ⟨?_, hw.out⟩
  rw [show decide (l = m) = (l == m) from (by rw [Bool.eq_iff_iff]; simp)]
  rfl

theorem bytes_lit (w : World) (l : List UInt8) (C : Array Value) (t : TypeId) (fr : Nat × Nat) (hC : C = (l.map fun c => Value.int .u8 (c.toNat : Int)).toArray) : BytesAt (w.alloc (.cells C t fr)) (some ⟨w.heap.size, 0, none⟩) l := by
  intro hne
  refine ⟨w.heap.size, 0, rfl, by simp, fun j hj => ?_⟩
  have h : (w.alloc (.cells C t fr)).heap[w.heap.size]? = some (.cells C t fr) := heap_alloc_new w _
  rw [cell_of_row _ _ _ C t fr h, hC]
  simp only [Nat.zero_add, List.getElem?_toArray, List.getElem?_map, List.getElem?_eq_getElem hj, Option.map_some]
  unfold bt
  rw [List.getD_eq_getElem?_getD, List.getElem?_eq_getElem hj]; rfl

theorem conv_lit (w : World) (C : Array Value) (n c : Nat) : (convert 42 42 (.slice (some ⟨w.heap.size, 0, none⟩) n c)).run Try.prog (w.alloc (.cells C 5)) = .ok (.slice (some ⟨w.heap.size, 0, none⟩) n c) (w.alloc (.cells C 5 (C.size, C.size + 1))) :=
  Lib.run_convert_bytes_const w 42 5 C n c Try.underlying42 Try.underlying5

def startB : List UInt8 := [27, 91, 63, 50, 48, 48, 52, 104]
def stopB : List UInt8 := [27, 91, 63, 50, 48, 48, 52, 108]
attribute [local go_sem ↓] conv_lit
theorem start (w : World) : Calls Try.prog 26 #[] w fun e w' => ∃ B c, e = .returned (.slice B startB.length c) ∧ BytesAt w' B startB ∧ Below w.heap.size w w' := by
  go_enter Try.func26, Try.ntmps26
  go_wp2
  go_ret
  exact ⟨_, _, rfl, bytes_lit w startB _ _ _ rfl, (Below.refl _ _).alloc (Nat.le_refl _) _⟩
theorem stop (w : World) : Calls Try.prog 28 #[] w fun e w' => ∃ B c, e = .returned (.slice B stopB.length c) ∧ BytesAt w' B stopB ∧ Below w.heap.size w w' := by
  go_enter Try.func28, Try.ntmps28
  go_wp2
  go_ret
  exact ⟨_, _, rfl, bytes_lit w stopB _ _ _ rfl, (Below.refl _ _).alloc (Nat.le_refl _) _⟩
theorem bell (w : World) : Calls Try.prog 18 #[] w fun e w' => ∃ B c, e = .returned (.slice B [(7 : UInt8)].length c) ∧ BytesAt w' B [7] ∧ Below w.heap.size w w' := by
  go_enter Try.func18, Try.ntmps18
  go_wp2
  go_ret
  exact ⟨_, _, rfl, bytes_lit w [7] _ _ _ rfl, (Below.refl _ _).alloc (Nat.le_refl _) _⟩

/-- An effect's cells. -/
def effC (k fl mn tm : Int) (d : Value) (n : Int) (ok : Bool) : Array Value := #[.int .i64 k, .int .u32 fl, .int .u8 mn, .int .u8 tm, d, .int .i64 n, .bool ok]
/-- An auditor's cells. -/
def audC (fl mn tm wr rd sg inn out be : Int) (rs ov : Bool) : Array Value := #[.int .u32 fl, .int .u8 mn, .int .u8 tm, .int .i64 wr, .int .i64 rd, .int .i64 sg, .int .i64 inn, .int .i64 out, .int .i64 be, .bool rs, .bool ov]

theorem wrote_no (k fl mn tm : Int) (d : Value) (n : Int) (ok : Bool) (m : Nat) (B : Option Addr) (c' : Nat) (w : World) (hk : (k == 2) = false) :
    Calls Try.prog 17 #[.agg (effC k fl mn tm d n ok), .slice B m c'] w fun e w' => e = .returned (.bool false) ∧ Below w.heap.size w w' := by
  unfold effC
  have hw := Lib.hid ((Below.refl w.heap.size w).alloc (Nat.le_refl _) (.cells #[.int .i64 k, .int .u32 fl, .int .u8 mn, .int .u8 tm, d, .int .i64 n, .bool ok] 44))
  go_enter Try.func17, Try.ntmps17
  go_wp2
  go_ret
  exact ⟨rfl, hw.out⟩

theorem wrote_is (fl mn tm : Int) (A : Option Addr) (l : List UInt8) (c : Nat) (n : Int) (ok : Bool) (m : List UInt8) (B : Option Addr) (c' : Nat) (w : World) (hA : BytesAt w A l) (hB : BytesAt w B m) :
    Calls Try.prog 17 #[.agg (effC 2 fl mn tm (.slice A l.length c) n ok), .slice B m.length c'] w fun e w' => e = .returned (.bool (decide (l = m))) ∧ Below w.heap.size w w' := by
  unfold effC
  have hw := (Below.refl w.heap.size w).alloc (Nat.le_refl _) (.cells #[.int .i64 2, .int .u32 fl, .int .u8 mn, .int .u8 tm, .slice A l.length c, .int .i64 n, .bool ok] 44)
  have H1 := Lib.hid (equal l m A B c c' _ (hA.below hw) (hB.below hw))
  have hd := Lib.hid (rfl : Ending.returned (.bool (decide (l = m))) = Ending.returned (.bool (decide (l = m))))
  generalize decide (l = m) = q at *
  have Hw := Lib.hid hw
  clear hA hB hw
  go_enter Try.func17, Try.ntmps17
  go_wp2_with (go_at_call 25; refine (H1.out).mono ?_; rintro e w1 ⟨rfl, hb1⟩)
  go_ret
  exact ⟨rfl, Hw.out.trans (hb1.mono Hw.out.size)⟩

theorem wrote (k fl mn tm : Int) (A : Option Addr) (l : List UInt8) (c : Nat) (n : Int) (ok : Bool) (m : List UInt8) (B : Option Addr) (c' : Nat) (w : World) (hA : BytesAt w A l) (hB : BytesAt w B m) :
    Calls Try.prog 17 #[.agg (effC k fl mn tm (.slice A l.length c) n ok), .slice B m.length c'] w fun e w' => e = .returned (.bool (k == 2 && decide (l = m))) ∧ Below w.heap.size w w' := by
  cases h : k == 2 with
  | false => exact wrote_no k fl mn tm _ n ok _ B c' w h
  | true =>
    obtain rfl : k = 2 := by simpa using h
    exact wrote_is fl mn tm A l c n ok m B c' w hA hB

theorem set1 (k fl mn tm fl' mn' tm' : Int) (d : Value) (n : Int) (ok : Bool) (w : World) (hk : (k == 1) = false) :
    Calls Try.prog 21 #[.agg (effC k fl mn tm d n ok), .agg #[.int .u32 fl', .int .u8 mn', .int .u8 tm']] w fun e w' => e = .returned (.int .i64 11) ∧ Below w.heap.size w w' := by
  unfold effC
  have hw := Lib.hid (((Below.refl w.heap.size w).alloc (Nat.le_refl _) (.cells #[.int .i64 k, .int .u32 fl, .int .u8 mn, .int .u8 tm, d, .int .i64 n, .bool ok] 44)).alloc (by simp) (.cells #[.int .u32 fl', .int .u8 mn', .int .u8 tm'] 41))
  go_enter Try.func21, Try.ntmps21
  go_wp2
  go_ret
  exact ⟨rfl, hw.out⟩

theorem set2 (fl mn tm fl' mn' tm' : Int) (d : Value) (n : Int) (ok : Bool) (w : World) :
    Calls Try.prog 21 #[.agg (effC 1 fl mn tm d n ok), .agg #[.int .u32 fl', .int .u8 mn', .int .u8 tm']] w fun e w' => e = .returned (.int .i64 (if fl = fl' ∧ mn = mn' ∧ tm = tm' then 0 else 2)) ∧ Below w.heap.size w w' := by
  unfold effC
  have hw := Lib.hid (((Below.refl w.heap.size w).alloc (Nat.le_refl _) (.cells #[.int .i64 1, .int .u32 fl, .int .u8 mn, .int .u8 tm, d, .int .i64 n, .bool ok] 44)).alloc (by simp) (.cells #[.int .u32 fl', .int .u8 mn', .int .u8 tm'] 41))
  go_enter Try.func21, Try.ntmps21
  go_wp2
  all_goals
    go_ret
    exact ⟨rfl, ((Below.refl _ _).alloc (Nat.le_refl _) _).alloc (by simp) _⟩

def setErr (k fl mn tm fl' mn' tm' : Int) : Int := if (k == 1) = true then (if fl = fl' ∧ mn = mn' ∧ tm = tm' then 0 else 2) else 11

theorem set (k fl mn tm fl' mn' tm' : Int) (d : Value) (n : Int) (ok : Bool) (w : World) :
    Calls Try.prog 21 #[.agg (effC k fl mn tm d n ok), .agg #[.int .u32 fl', .int .u8 mn', .int .u8 tm']] w fun e w' => e = .returned (.int .i64 (setErr k fl mn tm fl' mn' tm')) ∧ Below w.heap.size w w' := by
  unfold setErr
  cases h : k == 1 with
  | false => exact set1 k fl mn tm fl' mn' tm' d n ok w h
  | true =>
    obtain rfl : k = 1 := by simpa using h
    exact set2 fl mn tm fl' mn' tm' d n ok w

/-- Attributes without the flags of a line's editing. -/
def rawFl (fl : Int) : Int := bits .andNot .u32 fl 63
theorem attrsRaw (fl mn tm : Int) (w : World) :
    Calls Try.prog 22 #[.agg #[.int .u32 fl, .int .u8 mn, .int .u8 tm]] w fun e w' => e = .returned (.agg #[.int .u32 (rawFl fl), .int .u8 1, .int .u8 0]) ∧ Below w.heap.size w w' := by
  have hd := Lib.hid (rfl : rawFl fl = rawFl fl)
  unfold rawFl
  go_enter Try.func22, Try.ntmps22
  go_wp2
  (try simp only [Exit.inBlock, Exit.then])
  refine bodyPost_ret (results_cell_row rfl _ _ (w.heap.size + 1) 41 _ (0, 0) _ rfl (by have h := Blk.new (w.alloc (.cells #[.int .u32 fl, .int .u8 mn, .int .u8 tm] 41)) #[.int .u32 (bits .andNot .u32 fl 63), .int .u8 1, .int .u8 0] 41; simpa [Blk] using h) Try.underlying41 rfl (by kernel_rfl)) rfl ?_
  exact ⟨rfl, ((Below.refl _ _).alloc (Nat.le_refl _) _).alloc (by simp) _⟩

/-- The auditor's block. -/
def Aud (w : World) (b : Nat) (fl mn tm wr rd sg inn out be : Int) (rs ov : Bool) : Prop := Blk w b (audC fl mn tm wr rd sg inn out be rs ov) 47

section
variable {w : World} {b : Nat} {fl mn tm wr rd sg inn out be : Int} {rs ov : Bool}
theorem Aud.c0 (h : Aud w b fl mn tm wr rd sg inn out be rs ov) : w.cell? ⟨b, 0, none⟩ = some (.int .u32 fl) := Blk.cell h rfl
theorem Aud.c1 (h : Aud w b fl mn tm wr rd sg inn out be rs ov) : w.cell? ⟨b, 1, none⟩ = some (.int .u8 mn) := Blk.cell h rfl
theorem Aud.c2 (h : Aud w b fl mn tm wr rd sg inn out be rs ov) : w.cell? ⟨b, 2, none⟩ = some (.int .u8 tm) := Blk.cell h rfl
end

/-- What a callee that only makes blocks leaves. -/
theorem lift {P : Program} {f : FuncId} {args : Array Value} {v : Value} (h : ∀ w, Calls P f args w fun e w' => e = .returned v ∧ Below w.heap.size w w') {w1 : World} : ∀ W, Below w1.heap.size w1 W → Calls P f args W fun e w' => e = .returned v ∧ Below w1.heap.size w1 w' :=
  fun W hW => (h W).mono fun _ _ ⟨he, hb⟩ => ⟨he, hW.trans (hb.mono hW.size)⟩

def stV (b : Nat) (f : Nat) : Value := .func (.func f) #[.pointer (some ⟨b, 0, none⟩)] #[]

theorem raw1 (b : Nat) (k fl mn tm : Int) (d : Value) (n : Int) (ok : Bool) (sf sm st wr rd sg inn out be : Int) (rs ov : Bool) (w : World) (ha : Aud w b sf sm st wr rd sg inn out be rs ov) (x : Int) (hx : setErr k fl mn tm (rawFl sf) 1 0 = x) :
    Calls Try.prog 16 #[.pointer (some ⟨b, 0, none⟩), .agg (effC k fl mn tm d n ok)] w fun e w' => e = .returned (.tuple #[if x ≠ 0 then .nilFunc else if ok then stV b 24 else stV b 23, .int .i64 x]) ∧ Below w.heap.size w w' := by
  obtain ⟨o, ho⟩ : ∃ o : Obj, o = .cells (effC k fl mn tm d n ok) 44 := ⟨_, rfl⟩
  have hn : Blk (w.alloc o) w.heap.size (effC k fl mn tm d n ok) 44 := by rw [ho]; exact Blk.new _ _ _
  have ha1 : Aud (w.alloc o) b sf sm st wr rd sg inn out be rs ov := ha.alloc _
  have hlt := ha.lt
  have hS : ∀ W, Below (w.alloc o).heap.size (w.alloc o) W → Below (w.alloc o).heap.size (w.alloc o) W ∧ W.cell? ⟨b, 0, none⟩ = some (.int .u32 sf) ∧ W.cell? ⟨b, 1, none⟩ = some (.int .u8 sm) ∧ W.cell? ⟨b, 2, none⟩ = some (.int .u8 st) ∧
      W.cell? ⟨w.heap.size, 0, none⟩ = some (.int .i64 k) ∧ W.cell? ⟨w.heap.size, 1, none⟩ = some (.int .u32 fl) ∧ W.cell? ⟨w.heap.size, 2, none⟩ = some (.int .u8 mn) ∧ W.cell? ⟨w.heap.size, 3, none⟩ = some (.int .u8 tm) ∧ W.cell? ⟨w.heap.size, 4, none⟩ = some d ∧ W.cell? ⟨w.heap.size, 5, none⟩ = some (.int .i64 n) ∧ W.cell? ⟨w.heap.size, 6, none⟩ = some (.bool ok) := fun W hW => by
    have hb : b < (w.alloc o).heap.size := ha1.lt
    have hb' : w.heap.size < (w.alloc o).heap.size := hn.lt
    have q : ∀ j v, (w.alloc o).cell? ⟨b, j, none⟩ = some v → W.cell? ⟨b, j, none⟩ = some v := fun j v h => by rw [hW.cell (p := ⟨b, j, none⟩) hb]; exact h
    have q' : ∀ j v, (w.alloc o).cell? ⟨w.heap.size, j, none⟩ = some v → W.cell? ⟨w.heap.size, j, none⟩ = some v := fun j v h => by rw [hW.cell (p := ⟨w.heap.size, j, none⟩) hb']; exact h
    exact ⟨hW, q _ _ ha1.c0, q _ _ ha1.c1, q _ _ ha1.c2, q' _ _ (hn.cell rfl), q' _ _ (hn.cell rfl), q' _ _ (hn.cell rfl), q' _ _ (hn.cell rfl), q' _ _ (hn.cell rfl), q' _ _ (hn.cell rfl), q' _ _ (hn.cell rfl)⟩
  have hS6 : ∀ W, Below (w.alloc o).heap.size (w.alloc o) W → W.cell? ⟨w.heap.size, 6, none⟩ = some (.bool ok) := fun W hW => (hS W hW).2.2.2.2.2.2.2.2.2.2
  have hb0 := Lib.hid ((Below.refl w.heap.size w).alloc (Nat.le_refl _) o)
  have HS := Lib.hid hS
  have HS6 := Lib.hid hS6
  have H1 := Lib.hid (lift (w1 := w.alloc o) (attrsRaw sf sm st))
  have H2 := Lib.hid (lift (w1 := w.alloc o) (set k fl mn tm (rawFl sf) 1 0 d n ok))
  have hd0 : Below (w.alloc o).heap.size (w.alloc o) (w.alloc o).drew := (Below.refl _ _).drew
  rw [hx] at H2
  have HO := Lib.hid ho
  clear hS hS6 ha ha1 hn hx ho
  unfold effC at *
  go_enter Try.func16, Try.ntmps16
  go_wp2
  rw [← HO.out]
  go_region_held_law (fun W => Below (w.alloc o).heap.size (w.alloc o) W ∧ W.cell? ⟨b, 0, none⟩ = some (.int .u32 sf) ∧ W.cell? ⟨b, 1, none⟩ = some (.int .u8 sm) ∧ W.cell? ⟨b, 2, none⟩ = some (.int .u8 st) ∧
      W.cell? ⟨w.heap.size, 0, none⟩ = some (.int .i64 k) ∧ W.cell? ⟨w.heap.size, 1, none⟩ = some (.int .u32 fl) ∧ W.cell? ⟨w.heap.size, 2, none⟩ = some (.int .u8 mn) ∧ W.cell? ⟨w.heap.size, 3, none⟩ = some (.int .u8 tm) ∧ W.cell? ⟨w.heap.size, 4, none⟩ = some d ∧ W.cell? ⟨w.heap.size, 5, none⟩ = some (.int .i64 n) ∧ W.cell? ⟨w.heap.size, 6, none⟩ = some (.bool ok))
    (first | assumption | exact HS.out _ (by assumption)) (first
    | (go_at_call 22; refine (H1.out _ ?_).mono ?_; (go_split_ands; assumption); rintro e w2 ⟨rfl, hb2⟩)
    | (go_at_call 21; refine (H2.out _ ?_).mono ?_; (go_split_ands; assumption); rintro e w3 ⟨rfl, hb3⟩))
  have h6 := HS6.out _ hb3
  by_cases hx0 : x = 0
  · subst hx0
    cases ok
    · go_wp2
      go_ret2
      exact ⟨rfl, hb0.out.trans (hb3.mono hb0.out.size)⟩
    · go_wp2
      go_ret2
      exact ⟨rfl, hb0.out.trans (hb3.mono hb0.out.size)⟩
  · have hx1 : (x == 0) = false := by simpa using hx0
    go_wp2
    go_ret2
    exact ⟨rfl, hb0.out.trans (hb3.mono hb0.out.size)⟩

end Go.Proofs.Ytbkdmceefefiaaa.Aud

/- The document's examples of a sink, walked. -/
import Derived.Test.YtcakeolnokninaaDoorSink
import Derived.Lib.SlBytesConst
set_option linter.unusedVariables false
namespace Go.Proofs.YtcakeolnokninaaDoor.Snk
open Go.RowKit Go.Lib Go.Shelf ChangeShapes Mem Utf Edit

theorem conv_lit (w : World) (C : Array Value) (n c : Nat) : (convert 22 22 (.slice (some ⟨w.heap.size, 0, none⟩) n c)).run Tryd.prog (w.alloc (.cells C 5)) = .ok (.slice (some ⟨w.heap.size, 0, none⟩) n c) (w.alloc (.cells C 5 (C.size, C.size + 1))) :=
  Lib.run_convert_bytes_const w 22 5 C n c Tryd.underlying22 Tryd.underlying5

theorem win_lit (w : World) (l : List UInt8) (C : Array Value) (hC : C = (cellsB l).toArray) : Win (w.alloc (.cells C 5 (C.size, C.size + 1))) w.heap.size 0 (cellsB l) := by
  have h : (w.alloc (.cells C 5 (C.size, C.size + 1))).heap[w.heap.size]? = some (.cells C 5 (C.size, C.size + 1)) := heap_alloc_new w _
  refine ⟨fun j v hj => ?_, fun j hj => ?_⟩
  · rw [cell_of_row _ _ _ C 5 (C.size, C.size + 1) h, hC, Nat.zero_add]
    simpa using hj
  · have hs : C.size = (cellsB l).length := by rw [hC]; simp
    unfold World.frozen?
    rw [h]
    simp
    omega

theorem Win.bytes {w : World} {g off : Nat} {l : List UInt8} (h : Win w g off (cellsB l)) : BytesAt w (some ⟨g, off, none⟩) l := by
  intro hne
  have h0 : 0 < l.length := List.length_pos_iff.2 hne
  refine ⟨g, off, rfl, ?_, fun j hj => h.cell j _ (cellsB_get l j hj)⟩
  have := World.block_lt_of_cell? _ _ (h.cell 0 _ (cellsB_get l 0 h0))
  exact this

attribute [local go_sem ↓] conv_lit conv_str
attribute [local go_sem] strOf_toList

def L5 : List UInt8 := [49, 50, 51, 52, 53]
def Labc : List UInt8 := [97, 98, 99]
def Labcdef : List UInt8 := [97, 98, 99, 100, 101, 102]
theorem right3 : rightT Labc = Labc := by decide
theorem right6 : rightT Labcdef = Labcdef := by decide

set_option maxRecDepth 100000 in
set_option maxHeartbeats 2000000 in
theorem alive (w : World) (hT : Tabs w) : Calls Tryd.prog 13 #[] w fun e w' => e = .returned (.bool true) ∧ Below w.heap.size w w' := by
  have HT := Lib.hid hT
  clear hT
  go_enter Tryd.func13, Tryd.ntmps13
  go_wp2_with fail
  have hw0 : Below w.heap.size w (w.alloc (.cells #[.int .u8 49, .int .u8 50, .int .u8 51, .int .u8 52, .int .u8 53] 5 (5, 6))) := (Below.refl _ _).alloc (Nat.le_refl _) _
  have hwin0 := win_lit w L5 #[.int .u8 49, .int .u8 50, .int .u8 51, .int .u8 52, .int .u8 53] rfl
  refine (newS _ 5 5 (by omega) (by intro h; cases h) _).mono ?_
  rintro e w1 ⟨rfl, hs1, hb1⟩
  have hwin1 : Win w1 w.heap.size 0 (cellsB L5) := hwin0.but (But.of_below (S := []) hb1) (by simp) (by simp)
  have hw1 : Below w.heap.size w w1 := hw0.trans (hb1.mono (by simp))
  obtain ⟨sk, hsk⟩ : ∃ sk, sk = (w.alloc (.cells #[.int .u8 49, .int .u8 50, .int .u8 51, .int .u8 52, .int .u8 53] 5 (5, 6))).heap.size := ⟨_, rfl⟩
  have hskg : sk = w.heap.size + 1 := by rw [hsk]; simp
  rw [show (w.alloc (.cells #[.int .u8 49, .int .u8 50, .int .u8 51, .int .u8 52, .int .u8 53] 5 (5, 6))).heap.size = sk from hsk.symm] at hs1 ⊢
  have hlt1 := hs1.lt
  have HW1 := Lib.hid hw1
  have HWIN1 := Lib.hid hwin1
  have HS1 := Lib.hid hs1
  have HSK := Lib.hid hskg
  clear hsk hskg hb1 hwin0 hw0 hw1 hwin1 hs1
  go_wp2_with fail
  have hw1' : Below w.heap.size w (w1.alloc (.cells #[.int .u8 97, .int .u8 98, .int .u8 99] 5 (3, 4))) := HW1.out.alloc HW1.out.size _
  refine (buffer Labc (some ⟨w1.heap.size, 0, none⟩) 3 _ (HT.out.below hw1') (Win.bytes (win_lit w1 Labc #[.int .u8 97, .int .u8 98, .int .u8 99] rfl)) (by decide) (by decide)).mono ?_
  rintro e w2 ⟨b, ba, bc, bp, rfl, hlb, hla, hlc, hbuf, hb2⟩
  rw [right3] at hbuf
  have HW2 : Hid (Below w.heap.size w w2) := hw1'.trans (hb2.mono hw1'.size)
  have HWIN2 : Hid (Win w2 w.heap.size 0 (cellsB L5)) := HWIN1.out.but (But.of_below (S := []) (((Below.refl _ _).alloc (Nat.le_refl _) _).trans (hb2.mono (by simp)))) (by simp) (by have := HSK.out; omega)
  have HS2 : Hid (Blk w2 sk (sinkC (some ⟨w.heap.size, 0, none⟩) 5 0 false) 73) := (HS1.out.alloc _).but (But.of_below (S := []) hb2) (by simp)
  have HBUF2 := Lib.hid hbuf
  have HLB : Hid (w1.heap.size + 1 ≤ b ∧ w1.heap.size + 1 ≤ ba ∧ w1.heap.size + 1 ≤ bc) := by simp at hlb hla hlc; exact ⟨hlb, hla, hlc⟩
  clear hw1' hbuf hlb hla hlc hb2
  go_wp2_with fail
  have hw2' : Below w.heap.size w (w2.alloc (.cells #[.int .u8 97, .int .u8 98, .int .u8 99, .int .u8 100, .int .u8 101, .int .u8 102] 5 (6, 7))) := HW2.out.alloc HW2.out.size _
  refine (buffer Labcdef (some ⟨w2.heap.size, 0, none⟩) 6 _ (HT.out.below hw2') (Win.bytes (win_lit w2 Labcdef #[.int .u8 97, .int .u8 98, .int .u8 99, .int .u8 100, .int .u8 101, .int .u8 102] rfl)) (by decide) (by decide)).mono ?_
  rintro e w3 ⟨c, ca, cc, cp, rfl, hlb, hla, hlc, hbuf, hb3⟩
  rw [right6] at hbuf
  have hbb : Below w2.heap.size w2 w3 := ((Below.refl _ _).alloc (Nat.le_refl _) _).trans (hb3.mono (by simp))
  have HW3 : Hid (Below w.heap.size w w3) := hw2'.trans (hb3.mono hw2'.size)
  have hl2 := HLB.out
  have HWIN3 : Hid (Win w3 w.heap.size 0 (cellsB L5)) := HWIN2.out.but (But.of_below (S := []) hbb) (by simp) (by have := HS2.out.lt; have := HSK.out; omega)
  have HS3 : Hid (Blk w3 sk (sinkC (some ⟨w.heap.size, 0, none⟩) 5 0 false) 73) := HS2.out.but (But.of_below (S := []) hbb) (by simp)
  have HB3 : Hid (Buf w3 b ba bc 1024 Labc bp) := HBUF2.out.but (But.of_below (S := []) hbb) (by simp) (by simp) (by simp)
  have HC3 := Lib.hid hbuf
  clear hw2' hbuf hlb hla hlc hb3 hbb hl2
  go_wp2_with fail
  refine (deliver_small sk _ 5 w3 HS3.out HC3.out (by decide)).mono ?_
  rintro e w4 ⟨rfl, hb4⟩
  have hlt4 := hb4.size
  have HS4 : Hid (Blk w4 sk (sinkC (some ⟨w.heap.size, 0, none⟩) 5 0 false) 73) := HS3.out.but hb4 (by simp)
  have HB4 : Hid (Buf w4 b ba bc 1024 Labc bp) := HB3.out.but hb4 (by simp) (by simp) (by simp)
  have HWIN4 : Hid (Win w4 w.heap.size 0 (cellsB L5)) := HWIN3.out.but hb4 (by simp) (by have := HS3.out.lt; have := HSK.out; omega)
  have HW4 : Hid (Below w.heap.size w w4) := HW3.out.trans (hb4.below HW3.out.size (by simp))
  clear hb4
  go_wp2_with fail
  refine (deliver_ok sk _ 5 w.heap.size 0 (cellsB L5) w4 HS4.out HB4.out (by decide) HWIN4.out (fun _ => rfl) (by decide) (by have := HSK.out; omega)).mono ?_
  rintro e w5 ⟨rfl, hs5, hwin5, hb5⟩
  have hA5 : BytesAt w5 (some ⟨w.heap.size, 0, none⟩) [97, 98, 99, 52, 53] := Win.bytes (by exact hwin5)
  have HW5 : Hid (Below w.heap.size w w5) := HW4.out.trans (hb5.below HW4.out.size (by simp; have := HSK.out; omega))
  have hcv : (convert 22 9 (.slice (some ⟨w.heap.size, 0, none⟩) 5 5)).run Tryd.prog w5 = .ok (.string (strOf [97, 98, 99, 52, 53])) w5 := conv_str (cap := 5) hA5
  clear hb5 hwin5 hs5
  go_wp2
  go_ret
  exact ⟨rfl, HW5.out⟩

end Go.Proofs.YtcakeolnokninaaDoor.Snk

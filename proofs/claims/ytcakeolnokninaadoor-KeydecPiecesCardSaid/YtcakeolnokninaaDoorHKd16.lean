/- An arena's bytes as a text. -/
import Derived.Test.YtcakeolnokninaaDoorGK3
set_option linter.unusedVariables false
set_option linter.unusedSimpArgs false
namespace Go.Proofs.YtcakeolnokninaaDoor.Edit
open Go.RowKit Go.Lib Go.Shelf ChangeShapes Mem Utf UtfP

set_option maxRecDepth 100000 in
set_option maxHeartbeats 1000000 in
theorem text_k {a c N : Nat} {t : List UInt8} (w : World) (h : Ar w a c N t) (ht : t.length ≤ 64) :
    Calls Tryd.prog 23 #[.pointer (some ⟨a, 0, none⟩)] w fun e w' => e = .returned (.string (strOf t)) ∧ Below w.heap.size w w' := by
  have H := Lib.hid h
  clear h
  obtain ⟨n, hn⟩ : ∃ n, t.length = n := ⟨_, rfl⟩
  have e1 : max (0 : Int) (min (n : Int) 64) = (n : Int) := by omega
  have e2 : min (n : Int) 64 = (n : Int) := by omega
  have e3 : max (0 : Int) (n : Int) = (n : Int) := by omega
  rw [hn] at ht
  have hn64 : (n : Int) ≤ 64 := by omega
  have HN := Lib.hid hn
  have hmk : ∀ W : World, (Instr.makeSlice 22 (.int .i64 64) (.int .i64 64)).run Tryd.prog W = .ok (.slice (some ⟨W.heap.size, 0, none⟩) 64 64) (W.alloc (.cells (cellsB (List.replicate 64 0)).toArray 5)) := fun W => make_bytes W 64 (by decide)
  clear hn
  go_enter Tryd.func23, Tryd.ntmps23
  go_wp2_with fail
  have hw1 : Below w.heap.size w (w.alloc (.cells (cellsB (List.replicate 64 0)).toArray 5)) := (Below.refl _ _).alloc (Nat.le_refl _) _
  have har1 : Ar (w.alloc (.cells (cellsB (List.replicate 64 0)).toArray 5)) a c N t := Ar.but H.out (But.of_below (S := []) hw1) (by simp) (by simp)
  have hcp := copy_c (some ⟨w.heap.size, 0, none⟩) 64 64 w.heap.size 0 (cellsB (List.replicate 64 0)) _ har1 (Blk.new _ _ _).win (fun _ => rfl) (by rw [cellsB_length, List.length_replicate]; exact Nat.le_refl _)
  rw [HN.out, Nat.min_eq_right (by omega), List.take_of_length_le (by rw [HN.out]; omega)] at hcp
  refine hcp.mono ?_
  rintro e w2 ⟨rfl, hwin, hb2⟩
  have hby : BytesAt w2 (some ⟨w.heap.size, 0, none⟩) t := win_bytesD hwin
  have hcv : (convert 22 9 (.slice (some ⟨w.heap.size, 0, none⟩) n 64)).run Tryd.prog w2 = .ok (.string (strOf t)) w2 := by
    have := conv_str (cap := 64) hby
    rw [HN.out] at this
    exact this
  have HB2 : Hid (Below w.heap.size w w2) := hw1.trans (hb2.below hw1.size (by simp))
  clear hwin hby hb2 har1 hw1 hcp
  go_wp2
  go_ret
  exact ⟨rfl, HB2.out⟩

end Go.Proofs.YtcakeolnokninaaDoor.Edit

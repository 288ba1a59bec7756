/- Do of any key; a buffer's text; an arena and a buffer in it. -/
import Derived.Test.YtbkpnffgihjikaaDoorEdD
import Derived.Test.YtbkpnffgihjikaaDoorStr
set_option linter.unusedVariables false
namespace Go.Proofs.YtbkpnffgihjikaaDoor.Edit
open Go.RowKit Go.Lib Go.Shelf ChangeShapes Mem Utf UtfP

/-- a character that is typed: the error, what stands ahead of the place -/
def runeE (N : Nat) (cc : Int) (A B : List Int) : Int × List Int :=
  if printC cc then (if (encs A ++ encs B).length + (enc cc).length ≤ N then (0, A ++ [cc]) else (4, A)) else (2, A)

section
variable {b a c N : Nat} {A B : List Int}

theorem put_any (cc : Int) (w : World) (h : Ed w b a c N A B) :
    Calls Tryd.prog 40 #[.pointer (some ⟨b, 0, none⟩), .int .i64 cc] w fun e w' => e = .returned (.int .i64 (runeE N cc A B).1) ∧ Ed w' b a c N (runeE N cc A B).2 B ∧ But [b, a, c] w w' := by
  unfold runeE
  cases hp : printC cc
  · exact (putB_bad cc hp w).mono fun e w' ⟨he, hb⟩ => ⟨by rw [he]; rfl, h.but (But.of_below (S := []) hb) (by simp) (by simp) (by simp), But.of_below hb⟩
  · by_cases hl : (encs A ++ encs B).length + (enc cc).length ≤ N
    · rw [if_pos rfl, if_pos hl]
      refine (putB cc hp w h.buf 0 (encs (A ++ [cc]) ++ encs B) (encs (A ++ [cc])).length (Or.inl ⟨hl, rfl, ?_, ?_⟩)).mono fun e w' ⟨he, hb, hbt⟩ => ⟨he, ⟨hb, ?_⟩, hbt⟩
      · rw [List.take_left, List.drop_left, encs_append, encs_one, List.append_assoc]
      · rw [encs_append, encs_one, List.length_append]
      · intro y hy
        simp at hy
        rcases hy with hy | rfl | hy
        · exact h.pr y (by simp [hy])
        · exact hp
        · exact h.pr y (by simp [hy])
    · rw [if_pos rfl, if_neg hl]
      exact (putB cc hp w h.buf 4 _ _ (Or.inr ⟨by omega, rfl, rfl, rfl⟩)).mono fun e w' ⟨he, hb, hbt⟩ => ⟨he, ⟨hb, h.pr⟩, hbt⟩

theorem do_rune (cc : Int) (w : World) (h : Ed w b a c N A B) :
    Calls Tryd.prog 34 #[.pointer (some ⟨b, 0, none⟩), .agg #[.int .i64 0, .int .i64 cc]] w fun e w' => e = .returned (.tuple #[.bool ((runeE N cc A B).1 == 0), .int .i64 (runeE N cc A B).1]) ∧ Ed w' b a c N (runeE N cc A B).2 B ∧ But [b, a, c] w w' := by
  have hw : Below w.heap.size w (w.alloc (.cells #[.int .i64 0, .int .i64 cc] 52)) := (Below.refl _ _).alloc (Nat.le_refl _) _
  have H1 := Lib.hid ((put_any cc _ (h.but (But.of_below (S := []) hw) (by simp) (by simp) (by simp))).mono (R' := fun e w' => e = .returned (.int .i64 (runeE N cc A B).1) ∧ Ed w' b a c N (runeE N cc A B).2 B ∧ But [b, a, c] w w') fun e w' ⟨he, hb, hbt⟩ => ⟨he, hb, (But.of_below hw).trans hbt⟩)
  obtain ⟨er, her⟩ : ∃ er, (runeE N cc A B).1 = er := ⟨_, rfl⟩
  obtain ⟨A', hA'⟩ : ∃ A', (runeE N cc A B).2 = A' := ⟨_, rfl⟩
  rw [her, hA'] at H1 ⊢
  clear her hA' h hw
  go_enter Tryd.func34, Tryd.ntmps34
  go_wp2_with (go_at_call 40; refine (H1.out).mono ?_; rintro e w1 ⟨rfl, hed, hbt⟩)
  go_ret2
  exact ⟨rfl, hed, hbt⟩

def doE (N : Nat) (k cc : Int) (A B : List Int) : List Int × List Int × Bool × Int :=
  if k = 0 then ((runeE N cc A B).2, B, (runeE N cc A B).1 == 0, (runeE N cc A B).1)
  else ((keyE k A B).1, (keyE k A B).2, chg A B (keyE k A B), 0)

theorem do_any (k cc : Int) (w : World) (h : Ed w b a c N A B) :
    Calls Tryd.prog 34 #[.pointer (some ⟨b, 0, none⟩), .agg #[.int .i64 k, .int .i64 cc]] w fun e w' => e = .returned (.tuple #[.bool (doE N k cc A B).2.2.1, .int .i64 (doE N k cc A B).2.2.2]) ∧ Ed w' b a c N (doE N k cc A B).1 (doE N k cc A B).2.1 ∧ But [b, a, c] w w' := by
  unfold doE
  by_cases hk : k = 0
  · subst hk
    simp only [if_true]
    exact do_rune cc w h
  · simp only [if_neg hk]
    exact do_keys k cc hk w h
end

theorem begin_c (n : Nat) (h1 : 1 ≤ n) (h2 : n ≤ 4096) (w : World) :
    Calls Tryd.prog 30 #[.int .i64 (n : Int)] w fun e w' => ∃ b a c, e = .returned (.tuple #[.pointer (some ⟨a, 0, none⟩), .pointer (some ⟨b, 0, none⟩)]) ∧ w.heap.size ≤ b ∧ w.heap.size ≤ a ∧ w.heap.size ≤ c ∧ Ed w' b a c n [] [] ∧ Below w.heap.size w w' := by
  have H1 := Lib.hid (new n h1 h2 w)
  clear h1 h2
  go_enter Tryd.func30, Tryd.ntmps30
  go_wp2_with fail
  refine (H1.out).mono ?_
  rintro e w1 ⟨rfl, har, hb1⟩
  have H2 := Lib.hid (newB w1 har)
  have HB1 := Lib.hid hb1
  clear har hb1
  go_wp2_with fail
  refine (H2.out).mono ?_
  rintro e w2 ⟨b, rfl, hbs, hbuf, hb2⟩
  have HBUF := Lib.hid hbuf
  have HB2 := Lib.hid hb2
  clear hbuf hb2
  go_wp2
  go_ret2
  exact ⟨b, _, _, rfl, Nat.le_trans HB1.out.size hbs, by omega, Nat.le_refl _, ⟨HBUF.out, by intro y hy; simp at hy⟩, HB1.out.trans (HB2.out.below HB1.out.size (by simp))⟩

set_option maxRecDepth 100000 in
set_option maxHeartbeats 1000000 in
theorem text_c {b a c N p : Nat} {t : List UInt8} (w : World) (h : Buf w b a c N t p) :
    Calls Tryd.prog 35 #[.pointer (some ⟨b, 0, none⟩)] w fun e w' => e = .returned (.string (strOf t)) ∧ Below w.heap.size w w' := by
  have H1 := Lib.hid (lenB w h)
  have hl : t.length ≤ 4096 := by have := h.ar.fit; have := h.ar.max; omega
  have H := Lib.hid h
  clear h
  obtain ⟨n, hn⟩ : ∃ n, t.length = n := ⟨_, rfl⟩
  have e1 : max (0 : Int) (min (n : Int) 4096) = (n : Int) := by omega
  have e2 : min (n : Int) 4096 = (n : Int) := by omega
  have e3 : max (0 : Int) (n : Int) = (n : Int) := by omega
  rw [hn] at H1 hl
  have HN := Lib.hid hn
  have hmk : ∀ W : World, (Instr.makeSlice 22 (.int .i64 (n : Int)) (.int .i64 (n : Int))).run Tryd.prog W = .ok (.slice (some ⟨W.heap.size, 0, none⟩) n n) (W.alloc (.cells (cellsB (List.replicate n 0)).toArray 5)) := fun W => make_bytes W n hl
  clear hn
  go_enter Tryd.func35, Tryd.ntmps35
  go_wp2_with (go_at_call 27; refine (H1.out).mono ?_; rintro e w1 ⟨rfl, hq⟩; obtain rfl := hq.symm)
  have hw1 : Below w.heap.size w (w.alloc (.cells (cellsB (List.replicate n 0)).toArray 5)) := (Below.refl _ _).alloc (Nat.le_refl _) _
  have hbuf1 : Buf (w.alloc (.cells (cellsB (List.replicate n 0)).toArray 5)) b a c N t p := H.out.but (But.of_below (S := []) hw1) (by simp) (by simp) (by simp)
  refine (copyB (some ⟨w.heap.size, 0, none⟩) n n w.heap.size 0 (cellsB (List.replicate n 0)) _ hbuf1 (Blk.new _ _ _).win (fun _ => rfl) (by rw [cellsB_length, List.length_replicate]; exact Nat.le_refl _)).mono ?_
  rintro e w2 ⟨rfl, hwin, hb2⟩
  rw [HN.out, Nat.min_self]
  have hst : splice (cellsB (List.replicate n 0)) 0 (cellsB (t.take n)) = cellsB t := by
    rw [List.take_of_length_le (by rw [HN.out]; exact Nat.le_refl _)]
    exact splice_all _ _ (by rw [cellsB_length, cellsB_length, HN.out, List.length_replicate])
  rw [hst] at hwin
  have hby : BytesAt w2 (some ⟨w.heap.size, 0, none⟩) t := by
    intro hne
    have h0 : 0 < t.length := List.length_pos_iff.2 hne
    refine ⟨w.heap.size, 0, rfl, ?_, fun j hj => hwin.cell j _ (cellsB_get t j hj)⟩
    have := World.block_lt_of_cell? _ _ (hwin.cell 0 _ (cellsB_get t 0 h0))
    exact this
  have hcv : (convert 22 9 (.slice (some ⟨w.heap.size, 0, none⟩) n n)).run Tryd.prog w2 = .ok (.string (strOf t)) w2 := by
    have := conv_str (cap := n) hby
    rw [HN.out] at this
    exact this
  have HB2 : Hid (Below w.heap.size w w2) := hw1.trans (hb2.below hw1.size (by simp))
  clear hwin hby hst hb2 hbuf1 hw1
  go_wp2
  go_ret
  exact ⟨rfl, HB2.out⟩

end Go.Proofs.YtbkpnffgihjikaaDoor.Edit

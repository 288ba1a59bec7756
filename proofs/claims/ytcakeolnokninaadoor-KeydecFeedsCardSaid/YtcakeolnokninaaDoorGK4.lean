/- Texts joined: Kd16; Kd17. -/
import Derived.Test.YtcakeolnokninaaDoorGK3
import Derived.Test.YtcakeolnokninaaDoorGF
/- An arena's bytes as a text. -/
set_option linter.unusedVariables false
set_option linter.unusedSimpArgs false
namespace Go.Proofs.YtcakeolnokninaaDoor.Edit
open Go.RowKit Go.Lib Go.Shelf ChangeShapes Mem Utf UtfP

set_option maxRecDepth 100000 in
set_option maxHeartbeats 1000000 in
theorem text_k {a c N : Nat} {t : List UInt8} (w : World) (h : Ar w a c N t) (ht : t.length ≤ 64) :
    Calls Tryd.prog 23 #[.pointer (some ⟨a, 0, none⟩)] w fun e w' => e = .returned (.string (strOf t)) ∧ Below w.heap.size w w' := by
  have H := Lib.hid h
  clear h
  obtain ⟨n, hn⟩ : ∃ n, t.length = n := ⟨_, rfl⟩
  have e1 : max (0 : Int) (min (n : Int) 64) = (n : Int) := by omega
  have e2 : min (n : Int) 64 = (n : Int) := by omega
  have e3 : max (0 : Int) (n : Int) = (n : Int) := by omega
  rw [hn] at ht
  have hn64 : (n : Int) ≤ 64 := by omega
  have HN := Lib.hid hn
  have hmk : ∀ W : World, (Instr.makeSlice 22 (.int .i64 64) (.int .i64 64)).run Tryd.prog W = .ok (.slice (some ⟨W.heap.size, 0, none⟩) 64 64) (W.alloc (.cells (cellsB (List.replicate 64 0)).toArray 5)) := fun W => make_bytes W 64 (by decide)
  clear hn
  go_enter Tryd.func23, Tryd.ntmps23
  go_wp2_with fail
  have hw1 : Below w.heap.size w (w.alloc (.cells (cellsB (List.replicate 64 0)).toArray 5)) := (Below.refl _ _).alloc (Nat.le_refl _) _
  have har1 : Ar (w.alloc (.cells (cellsB (List.replicate 64 0)).toArray 5)) a c N t := Ar.but H.out (But.of_below (S := []) hw1) (by simp) (by simp)
  have hcp := copy_c (some ⟨w.heap.size, 0, none⟩) 64 64 w.heap.size 0 (cellsB (List.replicate 64 0)) _ har1 (Blk.new _ _ _).win (fun _ => rfl) (by rw [cellsB_length, List.length_replicate]; exact Nat.le_refl _)
  rw [HN.out, Nat.min_eq_right (by omega), List.take_of_length_le (by rw [HN.out]; omega)] at hcp
  refine hcp.mono ?_
  rintro e w2 ⟨rfl, hwin, hb2⟩
  have hby : BytesAt w2 (some ⟨w.heap.size, 0, none⟩) t := win_bytesD hwin
  have hcv : (convert 22 9 (.slice (some ⟨w.heap.size, 0, none⟩) n 64)).run Tryd.prog w2 = .ok (.string (strOf t)) w2 := by
    have := conv_str (cap := 64) hby
    rw [HN.out] at this
    exact this
  have HB2 : Hid (Below w.heap.size w w2) := hw1.trans (hb2.below hw1.size (by simp))
  clear hwin hby hb2 har1 hw1 hcp
  go_wp2
  go_ret
  exact ⟨rfl, HB2.out⟩

end Go.Proofs.YtcakeolnokninaaDoor.Edit

/- Keys of a text without control characters, in plain Lean. -/
set_option linter.unusedVariables false
set_option linter.unusedSimpArgs false
namespace Go.Proofs.YtcakeolnokninaaDoor.Edit
open Go.RowKit Go.Lib Go.Shelf ChangeShapes Mem Utf UtfP

theorem kindOf_big {c : Int} (h : 32 ≤ c) (h2 : c ≠ 127) : kindOf c = 15 := by
  rcases kindOf_tab c with h1 | ⟨y, hy, rfl⟩
  · exact h1
  · have : ∀ y ∈ chIns, y.2.1 < 32 ∨ y.2.1 = 127 := by decide
    rcases this y hy with h3 | h3
    · omega
    · exact absurd h3 h2
theorem next_big {l : List UInt8} (h0 : l ≠ []) (h32 : 32 ≤ bt l 0) (h127 : bt l 0 ≠ 127) (he : (next l).2.2 = 0) : 32 ≤ (next l).1 ∧ (next l).1 ≠ 127 := by
  have hp := List.length_pos_iff.2 h0
  have b0 := bt_lt l 0
  revert he
  unfold next nextN
  rw [if_neg (show ¬ l.length = 0 by omega)]
  generalize bt l 0 = x at *
  generalize bt l 1 = y at *
  generalize bt l 2 = z at *
  generalize bt l 3 = v at *
  by_cases a0 : size1 x = 0
  · rw [if_pos a0]; intro h; cases h
  rw [if_neg a0]
  by_cases a1 : size1 x = 1
  · rw [if_pos a1]; intro _; exact ⟨h32, h127⟩
  rw [if_neg a1]
  by_cases n1 : l.length = 1
  · rw [if_pos n1]; intro h; cases h
  rw [if_neg n1]
  by_cases s1 : sec x y = false
  · rw [if_pos s1]; intro h; cases h
  rw [if_neg s1]
  have hs : lo2 x ≤ y ∧ y ≤ hi2 x := by unfold sec at s1; simpa using s1
  unfold lo2 at hs
  have hsz : (194 ≤ x ∧ x ≤ 223 ∧ size1 x = 2) ∨ (224 ≤ x ∧ x ≤ 239 ∧ size1 x = 3) ∨ (240 ≤ x ∧ x ≤ 244 ∧ size1 x = 4) := by
    unfold size1 at a0 a1 ⊢
    split at a0
    · rename_i h; rw [if_pos h] at a1; exact absurd rfl a1
    · rename_i h
      rw [if_neg h] at a1 ⊢
      split
      · left; omega
      · split
        · right; left; omega
        · split
          · right; right; omega
          · rename_i h1 h2 h3; rw [if_neg h1, if_neg h2, if_neg h3] at a0; exact absurd rfl a0
  rcases hsz with ⟨g1, g2, g3⟩ | ⟨g1, g2, g3⟩ | ⟨g1, g2, g3⟩
  · rw [if_pos g3]; intro _; show 32 ≤ x % 32 * 64 + (y - 128) ∧ x % 32 * 64 + (y - 128) ≠ 127; omega
  · rw [if_neg (show ¬ size1 x = 2 by omega)]
    by_cases n2 : l.length = 2
    · rw [if_pos n2]; intro h; cases h
    rw [if_neg n2]
    by_cases s2 : cont z = false
    · rw [if_pos s2]; intro h; cases h
    rw [if_neg s2, if_pos g3]
    intro _
    show 32 ≤ x % 16 * 4096 + (y - 128) * 64 + (z - 128) ∧ x % 16 * 4096 + (y - 128) * 64 + (z - 128) ≠ 127
    split at hs <;> omega
  · rw [if_neg (show ¬ size1 x = 2 by omega)]
    by_cases n2 : l.length = 2
    · rw [if_pos n2]; intro h; cases h
    rw [if_neg n2]
    by_cases s2 : cont z = false
    · rw [if_pos s2]; intro h; cases h
    rw [if_neg s2, if_neg (show ¬ size1 x = 3 by omega)]
    by_cases n3 : l.length = 3
    · rw [if_pos n3]; intro h; cases h
    rw [if_neg n3]
    by_cases s3 : cont v = false
    · rw [if_pos s3]; intro h; cases h
    rw [if_neg s3]
    intro _
    show 32 ≤ x % 8 * 262144 + (y - 128) * 4096 + (z - 128) * 64 + (v - 128) ∧ x % 8 * 262144 + (y - 128) * 4096 + (z - 128) * 64 + (v - 128) ≠ 127
    split at hs
    · omega
    · split at hs <;> omega

/-- no control characters -/
def NoCtl (l : List UInt8) : Prop := ∀ b ∈ l, 32 ≤ b.toNat ∧ b.toNat ≠ 127
theorem NoCtl.head {l : List UInt8} (h : NoCtl l) (h0 : l ≠ []) : 32 ≤ bt l 0 ∧ bt l 0 ≠ 127 := by
  cases l with
  | nil => exact absurd rfl h0
  | cons x r => exact h x (by simp)
theorem NoCtl.drop {l : List UInt8} (h : NoCtl l) (n : Nat) : NoCtl (l.drop n) := fun b hb => h b (List.mem_of_mem_drop hb)

theorem charK_repl (ps : Bool) : charK ps 65533 = (0, 65533) := by cases ps <;> kernel_rfl
theorem headC_kind {l : List UInt8} (h : NoCtl l) (h0 : l ≠ []) : kindOf (headC l) = 15 := by
  unfold headC
  split
  · rename_i he
    obtain ⟨h1, h2⟩ := next_big h0 (h.head h0).1 (h.head h0).2 he
    exact kindOf_big (by omega) (by omega)
  · rfl
theorem chars_kind : ∀ (n : Nat) (l : List UInt8), l.length ≤ n → NoCtl l → ∀ c ∈ chars l, kindOf c = 15 := by
  intro n
  induction n with
  | zero =>
    intro l hl _ c hc
    have : l = [] := List.eq_nil_of_length_eq_zero (by omega)
    subst this
    rw [chars_nil] at hc
    cases hc
  | succ n ih =>
    intro l hl h c hc
    by_cases h0 : l = []
    · subst h0; rw [chars_nil] at hc; cases hc
    · rw [chars_cons h0] at hc
      rcases List.mem_cons.1 hc with rfl | hc
      · exact headC_kind h h0
      · exact ih _ (by rw [List.length_drop]; have := (next_facts h0).1; have := List.length_pos_iff.2 h0; omega) (h.drop _) c hc

theorem text_keys (ps : Bool) : ∀ (n : Nat) (l : List UInt8), l.length ≤ n → NoCtl l → (drain l ps).1 ++ lastKs (drain l ps).2.1 = (chars l).map (charK ps) := by
  intro n
  induction n with
  | zero =>
    intro l hl _
    have : l = [] := List.eq_nil_of_length_eq_zero (by omega)
    subst this
    rfl
  | succ n ih =>
    intro l hl h
    by_cases h0 : l = []
    · subst h0; rfl
    · have hp := List.length_pos_iff.2 h0
      obtain ⟨hb1, hb2⟩ := h.head h0
      have h27 : ¬ bt l 0 = 27 := by omega
      obtain ⟨f1, f2, f3, f4, f5, f6⟩ := next_facts h0
      by_cases h7 : (next l).2.2 = 7
      · have hx : nxE l ps = none := by unfold nxE; rw [if_neg h0, if_neg h27, if_pos h7]
        rw [drain_none hx, chars_cons h0]
        have e1 : headC l = 65533 := by unfold headC; rw [if_neg (show ¬ (next l).2.2 = 0 by omega)]
        have e2 : l.drop (next l).2.1 = [] := by rw [(f4 h7).1]; exact List.drop_length
        rw [e1, e2, chars_nil]
        unfold lastKs lastK
        rw [if_neg h0, if_neg (show ¬ ((bt l 0 : Nat) : Int) = 27 by omega)]
        simp [charK_repl]
      · have hx : nxE l ps = some (charK ps (headC l), (next l).2.1, ps) := by
          unfold nxE headC
          rw [if_neg h0, if_neg h27, if_neg h7]
          rcases f5 with h | h | h
          · rw [h]; rfl
          · exact absurd h h7
          · rw [h]; rfl
        have := ih (l.drop (next l).2.1) (by rw [List.length_drop]; omega) (h.drop _)
        rw [drain_some (k := charK ps (headC l)) hx, chars_cons h0, List.map_cons, ← this]
        rfl

theorem charK_print (ps : Bool) {c : Int} (h : printC c = true) : charK ps c = (0, c) := by
  unfold charK keyOf charE
  rw [if_pos h]
  cases ps <;> rfl
theorem charK_not (ps : Bool) {c : Int} (h : printC c = false) (h2 : kindOf c = 15) : charK ps c = (15, 0) := by
  have e : keyOf c = (15, 0) := by unfold keyOf; rw [if_neg (by rw [h]; decide), h2]
  unfold charK
  rw [e]
  cases ps <;> rfl

theorem feed_start : feed [27, 91, 50, 48, 48, 126] [] false = ([(13, 0)], [], true) := by kernel_rfl

end Go.Proofs.YtcakeolnokninaaDoor.Edit

/- UtfInvalid, the walks: a byte that is in no character, between two right texts, is one replaced one. -/
import Derived.Test.YtbkdmceefefiaaaDoorTabs
import Derived.Test.YtbkdmceefefiaaaDoorUtfA
import Derived.Test.YtbkdmceefefiaaaDoorText
import Derived.Test.YtbkdmceefefiaaaDoorEncP
import Derived.Test.YtbkdmceefefiaaaDoorStr
import Derived.Deep.RegionWith
set_option linter.unusedVariables false
namespace Go.Proofs.YtbkdmceefefiaaaDoor.UtfInvalid
open Go.ChangeShapes Go.WideShapes Go.ChangeAt Go.RowKit Utf UtfP Law

theorem next_bad {b : UInt8} (m : List UInt8) (h : size1 b.toNat = 0) : next (b :: m) = (0, 1, 8) := by
  unfold next
  have q0 : bt (b :: m) 0 = b.toNat := rfl
  rw [q0]
  unfold nextN
  rw [if_neg (by simp), if_pos h]
theorem text_bad {b : UInt8} (a m : List UInt8) (h : size1 b.toNat = 0) : text ((text a ++ [b]) ++ text m) = (text a ++ [239, 191, 189]) ++ text m := by
  have hc : chars (b :: text m) = 65533 :: chars m := by
    rw [chars_cons (by simp)]
    unfold headC
    rw [next_bad _ h]
    simp only [if_neg (show ¬ (8 : Nat) = 0 by decide), List.drop_succ_cons, List.drop_zero, chars_text]
  have e : enc 65533 = [239, 191, 189] := by decide
  rw [List.append_assoc, List.append_assoc]
  show text (text a ++ b :: text m) = _
  rw [text_append]
  have : text (b :: text m) = [239, 191, 189] ++ text m := by
    unfold text
    rw [show chars (b :: List.flatMap enc (chars m)) = 65533 :: chars m from hc, List.flatMap_cons, e]
  rw [this]

set_option maxHeartbeats 1000000 in
theorem walk_long (n m : Nat) (A B : Option Addr) (cap cap' : Nat) (c : Int) (w : World) (hT : Tabs w) (hl : decide (1000 < (n : Int)) = true ∨ (decide (1000 < (n : Int)) = false ∧ decide (1000 < (m : Int)) = true)) :
    Calls Tryd.prog 5 #[.slice A n cap, .slice B m cap', .int .u8 c] w fun e w' => e = .returned (.bool true) ∧ Below w.heap.size w w' := by
  have H3 := Lib.hid (alive w hT)
  clear hT
  rcases hl with h | ⟨h, h'⟩
  all_goals
    go_enter Tryd.func5, Tryd.ntmps5
    go_wp2_with (go_at_call 8; refine (H3.out).mono ?_; rintro e w3 ⟨rfl, hb3⟩)
    go_ret
    exact ⟨rfl, hb3⟩

theorem OwnB.alloc {w : World} {B : Nat} {v : Value} {l : List UInt8} (h : OwnB w B v l) (o : Obj) : OwnB (w.alloc o) B v l := h.below ((Below.refl _ _).alloc (Nat.le_refl _) o)

theorem text_le (l : List UInt8) : (text l).length ≤ 4 * l.length := by
  unfold text
  have h1 : ∀ cs : List Int, (cs.flatMap enc).length ≤ 4 * cs.length := by
    intro cs
    induction cs with
    | nil => simp
    | cons c cs ih => rw [List.flatMap_cons, List.length_append, List.length_cons]; have := (enc_length c).2; omega
  have h2 : ∀ (n : Nat) (l : List UInt8), l.length ≤ n → (chars l).length ≤ l.length := by
    intro n
    induction n with
    | zero => intro l h; rw [List.eq_nil_of_length_eq_zero (by omega : l.length = 0)]; simp [chars_nil]
    | succ n ih =>
      intro l h
      by_cases hl : l = []
      · subst hl; simp [chars_nil]
      · rw [chars_cons hl]
        obtain ⟨f1, f2, _⟩ := next_facts hl
        have := ih (l.drop (next l).2.1) (by rw [List.length_drop]; omega)
        rw [List.length_drop] at this
        rw [List.length_cons]; omega
  have := h1 (chars l)
  have := h2 _ l (Nat.le_refl _)
  omega

attribute [local go_sem ↓] conv_str
attribute [local go_sem] strOf_toList strOf_append lit_fffd strOf_size
set_option maxHeartbeats 1000000 in
theorem walk_short (a b : List UInt8) (A B : Option Addr) (cap cap' : Nat) (c : Int) (k : Nat) (bad : UInt8) (w : World) (hT : Tabs w) (hA : BytesAt w A a) (hB : BytesAt w B b) (hcap : a.length ≤ cap) (hcap' : b.length ≤ cap') (hla : a.length ≤ 1000) (hlb : b.length ≤ 1000)
    (hc0 : 0 ≤ c) (hc1 : c < 256) (hk : c % 5 = (k : Int)) (hbad : ([192, 193, 245, 250, 255] : List UInt8)[k]? = some bad) (hs : size1 bad.toNat = 0) :
    Calls Tryd.prog 5 #[.slice A a.length cap, .slice B b.length cap', .int .u8 c] w fun e w' => e = .returned (.bool true) ∧ Below w.heap.size w w' := by
  have C1 : ∀ W, Below w.heap.size w W → Calls Tryd.prog 9 #[.slice A a.length cap] W fun e w' => ∃ A' cap', e = .returned (.slice A' (text a).length cap') ∧ Hid (BytesAt w' A' (text a)) ∧ Hid (Below w.heap.size w w') := fun W hW =>
    (textGo a A cap W (hT.below hW) (hA.below hW) hcap (by omega)).mono fun e w' ⟨v, he, hown, hb⟩ => by obtain ⟨A', cap', rfl, _, hba, _⟩ := hown.form; exact ⟨A', cap', he, hba, hW.trans (hb.mono hW.size)⟩
  have C2 : ∀ A1 W, BytesAt W A1 (text a) → Below w.heap.size w W → Calls Tryd.prog 9 #[.slice B b.length cap'] W fun e w' => ∃ A' cap', e = .returned (.slice A' (text b).length cap') ∧ Hid (BytesAt w' A' (text b)) ∧ Hid (BytesAt w' A1 (text a)) ∧ Hid (Below w.heap.size w w') := fun A1 W h1 hW =>
    (textGo b B cap' W (hT.below hW) (hB.below hW) hcap' (by omega)).mono fun e w' ⟨v, he, hown, hb⟩ => by obtain ⟨A', cap', rfl, _, hba, _⟩ := hown.form; exact ⟨A', cap', he, hba, h1.below hb, hW.trans (hb.mono hW.size)⟩
  have hta := text_le a
  have htb := text_le b
  have htx := text_bad a b hs
  obtain ⟨G, hG⟩ : ∃ G, G = (text a ++ [239, 191, 189]) ++ text b := ⟨_, rfl⟩
  rw [← hG] at htx
  have C3 : ∀ A1 A2 A3 cap3 n3 W, ((text a ++ [bad]) ++ text b).length = n3 → n3 ≤ cap3 → BytesAt W A1 (text a) → BytesAt W A2 (text b) → BytesAt W A3 ((text a ++ [bad]) ++ text b) → Below w.heap.size w W → Calls Tryd.prog 9 #[.slice A3 n3 cap3] W fun e w' => ∃ A' cap', e = .returned (.slice A' G.length cap') ∧ BytesAt w' A' G ∧ BytesAt w' A1 (text a) ∧ BytesAt w' A2 (text b) ∧ Hid (Below w.heap.size w w') := fun A1 A2 A3 cap3 n3 W hn hc3 h1 h2 h3 hW => by
    subst hn
    refine (textGo _ A3 cap3 W (hT.below hW) h3 hc3 (by rw [List.length_append, List.length_append, List.length_singleton]; omega)).mono fun e w' ⟨v, he, hown, hb⟩ => ?_
    rw [htx] at hown
    obtain ⟨A', cap', rfl, _, hba, _⟩ := hown.form
    exact ⟨A', cap', he, hba, h1.below hb, h2.below hb, hW.trans (hb.mono hW.size)⟩
  have H0 := Lib.hid (fun G A0 A1 A2 W (h0 : BytesAt W A0 G) (h1 : BytesAt W A1 (text a)) (h2 : BytesAt W A2 (text b)) (hW : Below w.heap.size w W) => (alive W (hT.below hW)).mono (R' := fun e w' => e = .returned (.bool true) ∧ BytesAt w' A0 G ∧ BytesAt w' A1 (text a) ∧ BytesAt w' A2 (text b) ∧ Below w.heap.size w w') fun e w' ⟨he, hb⟩ => ⟨he, h0.below hb, h1.below hb, h2.below hb, hW.trans (hb.mono hW.size)⟩)
  have H1 := Lib.hid C1
  have H2 := Lib.hid C2
  have H3 := Lib.hid C3
  have Hla := Lib.hid (show (text a).length ≤ 4000 by omega)
  have Hlb := Lib.hid (show (text b).length ≤ 4000 by omega)
  have HG := Lib.hid hG
  clear C1 C2 C3 hT hA hB hs htx hta htb hG
  generalize text a = x at *
  generalize text b = y at *
  generalize a.length = n at *
  generalize b.length = m at *
  have k1 : decide (1000 < (n : Int)) = false := by simp; omega
  have k1' : decide (1000 < (m : Int)) = false := by simp; omega
  have hw0 : Below w.heap.size w w := Below.refl _ _
  have hk5 : k < 5 := by
    have := (List.getElem?_eq_some_iff.1 hbad).1
    simpa using this
  have hcell : (#[Value.int .u8 192, Value.int .u8 193, Value.int .u8 245, Value.int .u8 250, Value.int .u8 255] : Array Value)[k]? = some (.int .u8 (bad.toNat : Int)) := by
    rcases (show k = 0 ∨ k = 1 ∨ k = 2 ∨ k = 3 ∨ k = 4 by omega) with rfl | rfl | rfl | rfl | rfl <;> (simp at hbad; subst hbad; rfl)
  have hcell2 : ∀ h : k < ([Value.int .u8 192, Value.int .u8 193, Value.int .u8 245, Value.int .u8 250, Value.int .u8 255] : List Value).length, ([Value.int .u8 192, Value.int .u8 193, Value.int .u8 245, Value.int .u8 250, Value.int .u8 255] : List Value)[k] = .int .u8 (bad.toNat : Int) := by
    intro h
    rcases (show k = 0 ∨ k = 1 ∨ k = 2 ∨ k = 3 ∨ k = 4 by omega) with rfl | rfl | rfl | rfl | rfl <;> (simp at hbad; subst hbad; rfl)
  have k5 : (k : Int) < 5 := by omega
  clear hbad
  go_enter Tryd.func5, Tryd.ntmps5
  go_wp2_with fail
  refine (H1.out _ (below_alloc hw0 (Nat.le_refl _) _)).mono ?_
  rintro e w1 ⟨A1, cap1, rfl, hx1, hb1⟩
  clear hcell hcell2 hk k5
  go_wp2_with fail
  refine (H2.out A1 _ hx1.out hb1.out).mono ?_
  rintro e w2 ⟨A2, cap2, rfl, hy2, hx2, hb2⟩
  have hz2 : w.heap.size ≤ w2.heap.size := hb2.out.size
  go_wp2_with (at_builtin; refine wpList_append_bytes rfl _ _ rfl rfl (OwnB.new w2 w2.heap.size #[] [] rfl (Nat.le_refl _) (by decide)) rfl rfl (hx2.out.below ((Below.refl _ _).alloc (Nat.le_refl _) _)) ?_ ?_ ?_)
  · simp; have := Hla.out; omega
  · simp
  intro v3 w3 hown3 hg3
  have hB3 : Below w2.heap.size w2 w3 := ((Below.refl _ _).alloc (Nat.le_refl _) _).grown hg3 (by simp) (fun k hk => by simp [Value.ownBlock] at hk; omega)
  have HO3 : Hid (OwnB w3 w2.heap.size v3 x) := hown3
  have HB3 := Lib.hid hB3
  clear hown3 hg3 hB3
  go_wp2_with (at_builtin; refine wpList_append_bytes rfl _ _ rfl rfl (HO3.out.alloc _) rfl (src := [bad]) rfl (bytes_new w3 [bad] _ _ rfl) ?_ ?_ ?_)
  · simp; have := Hla.out; omega
  · simp; have := HB3.out.size; omega
  intro v4 w4 hown4 hg4
  have hB4 : Below w2.heap.size w2 w4 := (HB3.out.alloc HB3.out.size _).grown hg4 (by simp; have := HB3.out.size; omega) (fun k hk => (HO3.out.lt hk).1)
  have HO4 : Hid (OwnB w4 w2.heap.size v4 (x ++ [bad])) := hown4
  have HB4 := Lib.hid hB4
  clear hown4 hg4 hB4 HO3 HB3
  go_wp2_with (at_builtin; refine wpList_append_bytes rfl _ _ rfl rfl HO4.out rfl rfl (hy2.out.below HB4.out) ?_ ?_ ?_)
  · rw [List.length_append, List.length_singleton]; have := Hla.out; have := Hlb.out; omega
  · exact HB4.out.size
  intro v5 w5 hown5 hg5
  have hB5 : Below w2.heap.size w2 w5 := HB4.out.grown hg5 HB4.out.size (fun k hk => (HO4.out.lt hk).1)
  have HO5 : Hid (OwnB w5 w2.heap.size v5 ((x ++ [bad]) ++ y)) := by unfold Hid; rw [List.append_assoc]; exact hown5
  have HB5 := Lib.hid hB5
  clear hown5 hg5 hB5 HO4 HB4
  obtain ⟨A5, n5, cap5, rfl, hn5, hc5, hy5⟩ := HO5.out.form'
  have Hn5 := Lib.hid hn5
  have Hc5 := Lib.hid hc5
  have Hy5 := Lib.hid hy5
  clear hc5 hy5 hn5
  have HBw5 : Hid (Below w.heap.size w w5) := hb2.out.trans (HB5.out.mono hb2.out.size)
  have Hx5 : Hid (BytesAt w5 A1 x) := hx2.out.below HB5.out
  have Hyy5 : Hid (BytesAt w5 A2 y) := hy2.out.below HB5.out
  clear hz2
  go_wp2_with fail
  refine (H3.out A1 A2 A5 cap5 n5 _ Hn5.out Hc5.out Hx5.out Hyy5.out Hy5.out HBw5.out).mono ?_
  rintro e w6 ⟨A6, cap6, rfl, h60, h61, h62, hb6⟩
  have bx := Hla.out
  have by_ := Hlb.out
  go_wp2_with (go_at_call 8; refine (H0.out _ _ _ _ _ h60 h61 h62 hb6.out).mono ?_; rintro e w7 ⟨rfl, h70, h71, h72, hb7⟩)
  go_ret
  refine ⟨?_, hb7⟩
  rw [HG.out, List.append_assoc]
  simp

theorem walk (a : List UInt8) (A : Option Addr) (cap : Nat) (b : List UInt8) (B : Option Addr) (cap' : Nat) (c : Int) (w : World) (hT : Tabs w) (hA : BytesAt w A a) (hcap : a.length ≤ cap) (_ : a.length ≤ 140737488355328) (hB : BytesAt w B b) (hcap' : b.length ≤ cap') (_ : b.length ≤ 140737488355328) (hc : (Lit.int .u8 c).wf = true) :
    Calls Tryd.prog 5 #[.slice A a.length cap, .slice B b.length cap', .int .u8 c] w fun e w' => e = .returned (.bool true) ∧ Below w.heap.size w w' := by
  have hc' := wf_u8 hc
  by_cases h1 : 1000 < a.length
  · exact walk_long _ _ _ _ _ _ c w hT (Or.inl (by simp; omega))
  · by_cases h2 : 1000 < b.length
    · exact walk_long _ _ _ _ _ _ c w hT (Or.inr ⟨by simp; omega, by simp; omega⟩)
    · have h5 : c % 5 = 0 ∨ c % 5 = 1 ∨ c % 5 = 2 ∨ c % 5 = 3 ∨ c % 5 = 4 := by omega
      rcases h5 with h | h | h | h | h
      · exact walk_short a b A B cap cap' c 0 192 w hT hA hB hcap hcap' (by omega) (by omega) hc'.1 hc'.2 h rfl (by decide)
      · exact walk_short a b A B cap cap' c 1 193 w hT hA hB hcap hcap' (by omega) (by omega) hc'.1 hc'.2 h rfl (by decide)
      · exact walk_short a b A B cap cap' c 2 245 w hT hA hB hcap hcap' (by omega) (by omega) hc'.1 hc'.2 h rfl (by decide)
      · exact walk_short a b A B cap cap' c 3 250 w hT hA hB hcap hcap' (by omega) (by omega) hc'.1 hc'.2 h rfl (by decide)
      · exact walk_short a b A B cap cap' c 4 255 w hT hA hB hcap hcap' (by omega) (by omega) hc'.1 hc'.2 h rfl (by decide)

end Go.Proofs.YtbkdmceefefiaaaDoor.UtfInvalid

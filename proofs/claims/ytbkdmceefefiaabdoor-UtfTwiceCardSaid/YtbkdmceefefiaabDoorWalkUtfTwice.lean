/- UtfTwice, the walks: a text is itself again, and so are two, one behind the other. -/
import Derived.Test.YtbkdmceefefiaabDoorTabs
import Derived.Test.YtbkdmceefefiaabDoorUtfA
import Derived.Test.YtbkdmceefefiaabDoorText
import Derived.Test.YtbkdmceefefiaabDoorEncP
import Derived.Test.YtbkdmceefefiaabDoorCount
import Derived.Test.YtbkdmceefefiaabDoorStr
import Derived.Deep.RegionHeldLaw
import Derived.Deep.RegionHeld3
set_option linter.unusedVariables false
namespace Go.Proofs.YtbkdmceefefiaabDoor.UtfTwice
open Go.ChangeShapes Go.WideShapes Go.ChangeAt Go.RowKit Utf UtfP Law

set_option maxHeartbeats 1000000 in
theorem walk_long (n m : Nat) (A B : Option Addr) (cap cap' : Nat) (w : World) (hT : Tabs w) (hl : decide (1500 < (n : Int)) = true ∨ (decide (1500 < (n : Int)) = false ∧ decide (1500 < (m : Int)) = true)) :
    Calls Tryd.prog 6 #[.slice A n cap, .slice B m cap'] w fun e w' => e = .returned (.bool true) ∧ Below w.heap.size w w' := by
  have H3 := Lib.hid (alive w hT)
  clear hT
  rcases hl with h | ⟨h, h'⟩
  all_goals
    go_enter Tryd.func6, Tryd.ntmps6
    go_wp2_with (go_at_call 8; refine (H3.out).mono ?_; rintro e w3 ⟨rfl, hb3⟩)
    go_ret
    exact ⟨rfl, hb3⟩

theorem text_le (l : List UInt8) : (text l).length ≤ 4 * l.length ∧ (chars l).length ≤ l.length := by
  unfold text
  have h1 : ∀ cs : List Int, (cs.flatMap enc).length ≤ 4 * cs.length := by
    intro cs
    induction cs with
    | nil => simp
    | cons c cs ih => rw [List.flatMap_cons, List.length_append, List.length_cons]; have := (enc_length c).2; omega
  have h2 : ∀ (n : Nat) (l : List UInt8), l.length ≤ n → (chars l).length ≤ l.length := by
    intro n
    induction n with
    | zero => intro l h; rw [List.eq_nil_of_length_eq_zero (by omega : l.length = 0)]; simp [chars_nil]
    | succ n ih =>
      intro l h
      by_cases hl : l = []
      · subst hl; simp [chars_nil]
      · rw [chars_cons hl]
        obtain ⟨f1, f2, _⟩ := next_facts hl
        have := ih (l.drop (next l).2.1) (by rw [List.length_drop]; omega)
        rw [List.length_drop] at this
        rw [List.length_cons]; omega
  have := h1 (chars l)
  have := h2 _ l (Nat.le_refl _)
  omega

/-- The bytes as they lie in a world that is nowhere less than w. -/
structure Env (w : World) (A1 A5 : Option Addr) (x z : List UInt8) (W : World) : Prop where
  b : Below w.heap.size w W
  x : BytesAt W A1 x
  z : BytesAt W A5 z
/-- A slice that is a text of itself. -/
structure Tx (w : World) (A1 A5 : Option Addr) (x z : List UInt8) (A : Option Addr) (n cap : Nat) (l : List UInt8) : Prop where
  hn : l.length = n
  hc : n ≤ cap
  hb : n ≤ 20000
  ht : text l = l
  h : ∀ W, Env w A1 A5 x z W → BytesAt W A l
/-- A slice of so many characters. -/
structure Cn (w : World) (A1 A5 : Option Addr) (x z : List UInt8) (A : Option Addr) (n cap : Nat) (l : List UInt8) (k : Int) : Prop where
  hn : l.length = n
  hc : n ≤ cap
  hb : n ≤ 20000
  ht : ((chars l).length : Int) = k
  h : ∀ W, Env w A1 A5 x z W → BytesAt W A l

theorem Env.drew {w : World} {A1 A5 : Option Addr} {x z : List UInt8} {W : World} (h : Env w A1 A5 x z W) : Env w A1 A5 x z W.drew := ⟨h.b.drew, BytesAt.below h.x (Below.refl _ _).drew, BytesAt.below h.z (Below.refl _ _).drew⟩
theorem Env.below {w : World} {A1 A5 : Option Addr} {x z : List UInt8} {W W' : World} (h : Env w A1 A5 x z W) (hb : Below W.heap.size W W') : Env w A1 A5 x z W' := ⟨h.b.trans (hb.mono h.b.size), h.x.below hb, h.z.below hb⟩

attribute [local go_sem ↓] conv_str
attribute [local go_sem] strOf_toList strOf_append lit_fffd strOf_size
set_option maxHeartbeats 2000000 in
theorem walk_short (a b : List UInt8) (A B : Option Addr) (cap cap' : Nat) (w : World) (hT : Tabs w) (hA : BytesAt w A a) (hB : BytesAt w B b) (hcap : a.length ≤ cap) (hcap' : b.length ≤ cap') (hla : a.length ≤ 1500) (hlb : b.length ≤ 1500) :
    Calls Tryd.prog 6 #[.slice A a.length cap, .slice B b.length cap'] w fun e w' => e = .returned (.bool true) ∧ Below w.heap.size w w' := by
  have C1 : ∀ W, Below w.heap.size w W → Calls Tryd.prog 14 #[.slice A a.length cap] W fun e w' => ∃ A' n' cap', e = .returned (.slice A' n' cap') ∧ Hid ((text a).length = n' ∧ n' ≤ cap') ∧ Hid (BytesAt w' A' (text a)) ∧ Hid (Below w.heap.size w w') := fun W hW =>
    (textGo a A cap W (hT.below hW) (hA.below hW) hcap (by omega)).mono fun e w' ⟨v, he, hown, hb⟩ => by obtain ⟨A', n', cap', rfl, hn, hc, hba⟩ := hown.form'; exact ⟨A', n', cap', he, ⟨hn, hc⟩, hba, hW.trans (hb.mono hW.size)⟩
  have C2 : ∀ A1 W, BytesAt W A1 (text a) → Below w.heap.size w W → Calls Tryd.prog 14 #[.slice B b.length cap'] W fun e w' => ∃ A' n' cap', e = .returned (.slice A' n' cap') ∧ Hid ((text b).length = n' ∧ n' ≤ cap') ∧ Hid (BytesAt w' A' (text b)) ∧ Hid (BytesAt w' A1 (text a)) ∧ Hid (Below w.heap.size w w') := fun A1 W h1 hW =>
    (textGo b B cap' W (hT.below hW) (hB.below hW) hcap' (by omega)).mono fun e w' ⟨v, he, hown, hb⟩ => by obtain ⟨A', n', cap', rfl, hn, hc, hba⟩ := hown.form'; exact ⟨A', n', cap', he, ⟨hn, hc⟩, hba, h1.below hb, hW.trans (hb.mono hW.size)⟩
  have CT : ∀ A1 A5 x z (A' : Option Addr) n' cap' l W, Tx w A1 A5 x z A' n' cap' l → Env w A1 A5 x z W → Calls Tryd.prog 14 #[.slice A' n' cap'] W fun e w' => ∃ A'' cap'', e = .returned (.slice A'' n' cap'') ∧ n' ≤ cap'' ∧ BytesAt w' A'' l ∧ BytesAt w' A1 x ∧ BytesAt w' A5 z ∧ Env w A1 A5 x z w' := fun A1 A5 x z A' n' cap' l W ht hE => by
    obtain ⟨hn, hc, hb, ht, h⟩ := ht
    subst hn
    refine (textGo l A' cap' W (hT.below hE.b) (h W hE) hc (by omega)).mono fun e w' ⟨v, he, hown, hb⟩ => ?_
    rw [ht] at hown
    obtain ⟨A'', cap'', rfl, hc, hba, _⟩ := hown.form
    exact ⟨A'', cap'', he, hc, hba, (hE.below hb).x, (hE.below hb).z, hE.below hb⟩
  have CC : ∀ A1 A5 x z (A' : Option Addr) n' cap' l (k : Int) W, Cn w A1 A5 x z A' n' cap' l k → Env w A1 A5 x z W → Calls Tryd.prog 16 #[.slice A' n' cap'] W fun e w' => e = .returned (.int .i64 k) ∧ BytesAt w' A1 x ∧ BytesAt w' A5 z ∧ Env w A1 A5 x z w' := fun A1 A5 x z A' n' cap' l k W hk hE => by
    obtain ⟨hn, hc, hb, ht, h⟩ := hk
    subst hn
    refine (countGo l A' cap' W (hT.below hE.b) (h W hE) hc (by omega)).mono fun e w' ⟨he, hb⟩ => ?_
    rw [ht] at he
    exact ⟨he, (hE.below hb).x, (hE.below hb).z, hE.below hb⟩
  have CA : ∀ A1 A5 x z W, Env w A1 A5 x z W → Calls Tryd.prog 8 #[] W fun e w' => e = .returned (.bool true) ∧ BytesAt w' A1 x ∧ BytesAt w' A5 z ∧ Env w A1 A5 x z w' := fun A1 A5 x z W hE =>
    (alive W (hT.below hE.b)).mono fun e w' ⟨he, hb⟩ => ⟨he, (hE.below hb).x, (hE.below hb).z, hE.below hb⟩
  have hta := text_le a
  have htb := text_le b
  obtain ⟨K1, hK1⟩ : ∃ k, (chars a).length = k := ⟨_, rfl⟩
  obtain ⟨K2, hK2⟩ : ∃ k, (chars b).length = k := ⟨_, rfl⟩
  have FT1 : text (text a) = text a := text_text a
  have FT2 : text (text a ++ text b) = text a ++ text b := by rw [text_append, text_text]
  have FC1 : ((chars (text a)).length : Int) = K1 := by rw [chars_text, hK1]
  have FC2 : ((chars (text a ++ text b)).length : Int) = K1 + K2 := by rw [chars_text_append, chars_text, List.length_append, hK1, hK2]; omega
  have FA : ∀ A1 A5 x z, Cn w A1 A5 x z A a.length cap a K1 := fun A1 A5 x z => ⟨rfl, hcap, by omega, by rw [hK1], fun W hE => hA.below hE.b⟩
  have FB : ∀ A1 A5 x z, Cn w A1 A5 x z B b.length cap' b K2 := fun A1 A5 x z => ⟨rfl, hcap', by omega, by rw [hK2], fun W hE => hB.below hE.b⟩
  have H1 := Lib.hid C1
  have H2 := Lib.hid C2
  have HT := Lib.hid CT
  have HC := Lib.hid CC
  have HA := Lib.hid CA
  have hk1 : K1 ≤ 1500 := by omega
  have hk2 : K2 ≤ 1500 := by omega
  have Hla := Lib.hid (show (text a).length ≤ 6000 by omega)
  have Hlb := Lib.hid (show (text b).length ≤ 6000 by omega)
  clear C1 C2 CT CC CA hT hA hB hta htb hK1 hK2
  generalize text a = x at *
  generalize text b = y at *
  have HFA := Lib.hid FA
  have HFB := Lib.hid FB
  have HF1 := Lib.hid FT1
  have HF2 := Lib.hid FT2
  have HF3 := Lib.hid FC1
  have HF4 := Lib.hid FC2
  clear FA FB FT1 FT2 FC1 FC2
  generalize a.length = n at *
  generalize b.length = m at *
  have k1 : decide (1500 < (n : Int)) = false := by simp; omega
  have k1' : decide (1500 < (m : Int)) = false := by simp; omega
  have hw0 : Below w.heap.size w w := Below.refl _ _
  go_enter Tryd.func6, Tryd.ntmps6
  go_wp2_with fail
  refine (H1.out _ hw0).mono ?_
  rintro e w1 ⟨A1, n1, cap1, rfl, hn1, hx1, hb1⟩
  go_wp2_with fail
  refine (H2.out A1 _ hx1.out hb1.out).mono ?_
  rintro e w2 ⟨A2, n2, cap2, rfl, hn2, hy2, hx2, hb2⟩
  go_wp2_with (at_builtin; refine wpList_append_bytes rfl _ _ rfl rfl (OwnB.new w2 w2.heap.size #[] [] rfl (Nat.le_refl _) (by decide)) rfl hn1.out.1 (hx2.out.below ((Below.refl _ _).alloc (Nat.le_refl _) _)) ?_ ?_ ?_)
  · simp; have := Hla.out; omega
  · simp
  intro v3 w3 hown3 hg3
  have hB3 : Below w2.heap.size w2 w3 := ((Below.refl _ _).alloc (Nat.le_refl _) _).grown hg3 (by simp) (fun k hk => by simp [Value.ownBlock] at hk; omega)
  have HO3 : Hid (OwnB w3 w2.heap.size v3 x) := hown3
  have HB3 := Lib.hid hB3
  clear hown3 hg3 hB3
  go_wp2_with (at_builtin; refine wpList_append_bytes rfl _ _ rfl rfl HO3.out rfl hn2.out.1 (hy2.out.below HB3.out) ?_ ?_ ?_)
  · have := Hla.out; have := Hlb.out; omega
  · exact HB3.out.size
  intro v5 w5 hown5 hg5
  have hB5 : Below w2.heap.size w2 w5 := HB3.out.grown hg5 HB3.out.size (fun k hk => (HO3.out.lt hk).1)
  have HO5 : Hid (OwnB w5 w2.heap.size v5 (x ++ y)) := hown5
  have HB5 := Lib.hid hB5
  clear hown5 hg5 hB5 HO3 HB3
  obtain ⟨A5, n5, cap5, rfl, hn5, hc5, hy5⟩ := HO5.out.form'
  have hn5' : n5 ≤ 20000 := by rw [← hn5, List.length_append]; have := Hla.out; have := Hlb.out; omega
  have HE : Hid (Env w A1 A5 x (x ++ y) w5) := ⟨hb2.out.trans (HB5.out.mono hb2.out.size), hx2.out.below HB5.out, hy5⟩
  have hn1' : n1 ≤ 20000 := by rw [← hn1.out.1]; have := Hla.out; omega
  have F1 := Lib.hid (show Tx w A1 A5 x (x ++ y) A1 n1 cap1 x from ⟨hn1.out.1, hn1.out.2, hn1', HF1.out, fun W h => h.x⟩)
  have F2 := Lib.hid (show Tx w A1 A5 x (x ++ y) A5 n5 cap5 (x ++ y) from ⟨hn5, hc5, hn5', HF2.out, fun W h => h.z⟩)
  have F3 := Lib.hid (show Cn w A1 A5 x (x ++ y) A1 n1 cap1 x K1 from ⟨hn1.out.1, hn1.out.2, hn1', HF3.out, fun W h => h.x⟩)
  have F4 := Lib.hid (show Cn w A1 A5 x (x ++ y) A5 n5 cap5 (x ++ y) (K1 + K2) from ⟨hn5, hc5, hn5', HF4.out, fun W h => h.z⟩)
  have F5 := Lib.hid (HFA.out A1 A5 x (x ++ y))
  have F6 := Lib.hid (HFB.out A1 A5 x (x ++ y))
  have hsz5 := HO5.out.form
  generalize x ++ y = z at *
  have hzl := hn5
  have hxl := hn1.out.1
  have hcx := hn1.out.2
  have k12 : IntKind.i64.wrap ((K1 : Int) + (K2 : Int)) = (K1 : Int) + (K2 : Int) := IntWalk.i64_in _ (by omega)
  clear hsz5 HO5 HB5 hy5 HFA HFB HF1 HF2 HF3 HF4 hn1 hn2 hx1 hx2 hy2 hb1 hb2 H1 H2 Hla Hlb hla hlb k1 k1' hcap hcap' hn5 hw0
  subst hzl hxl
  go_wp2_with fail
  have hx5 := HE.out.drew.x
  have hz5 := HE.out.drew.z
  have hE5 := HE.out.drew
  go_region_held_law (fun W => BytesAt W A1 x ∧ BytesAt W A5 z ∧ Env w A1 A5 x z W) (first | assumption | (refine ⟨?_, ?_, ?_⟩ <;> assumption)) (first
    | (go_at_call 8; refine (HA.out A1 A5 x z _ ?_).mono ?_; (go_split_ands; assumption); rintro e w6 ⟨rfl, hx6, hz6, hE6⟩)
    | (go_at_call_of 14 A1; refine (HT.out A1 A5 x z A1 _ _ x _ F1.out ?_).mono ?_; (go_split_ands; assumption); rintro e w7 ⟨A7, cap7, rfl, hcap7, hy7, hx7, hz7, hE7⟩)
    | (go_at_call_of 14 A5; refine (HT.out A1 A5 x z A5 _ _ z _ F2.out ?_).mono ?_; (go_split_ands; assumption); rintro e w7 ⟨A7, cap7, rfl, hcap7, hy7, hx7, hz7, hE7⟩)
    | (go_at_call_of 16 A1; refine (HC.out A1 A5 x z A1 _ _ x K1 _ F3.out ?_).mono ?_; (go_split_ands; assumption); rintro e w8 ⟨rfl, hx8, hz8, hE8⟩)
    | (go_at_call_of 16 A5; refine (HC.out A1 A5 x z A5 _ _ z (K1 + K2) _ F4.out ?_).mono ?_; (go_split_ands; assumption); rintro e w8 ⟨rfl, hx8, hz8, hE8⟩)
    | (go_at_call_of 16 A; refine (HC.out A1 A5 x z A _ _ a K1 _ F5.out ?_).mono ?_; (go_split_ands; assumption); rintro e w8 ⟨rfl, hx8, hz8, hE8⟩)
    | (go_at_call_of 16 B; refine (HC.out A1 A5 x z B _ _ b K2 _ F6.out ?_).mono ?_; (go_split_ands; assumption); rintro e w8 ⟨rfl, hx8, hz8, hE8⟩))
  go_wp2
  go_ret
  exact ⟨by simp, (by assumption : Env w A1 A5 x z _).b⟩

theorem walk (a : List UInt8) (A : Option Addr) (cap : Nat) (b : List UInt8) (B : Option Addr) (cap' : Nat) (w : World) (hT : Tabs w) (hA : BytesAt w A a) (hcap : a.length ≤ cap) (_ : a.length ≤ 140737488355328) (hB : BytesAt w B b) (hcap' : b.length ≤ cap') (_ : b.length ≤ 140737488355328) :
    Calls Tryd.prog 6 #[.slice A a.length cap, .slice B b.length cap'] w fun e w' => e = .returned (.bool true) ∧ Below w.heap.size w w' := by
  by_cases h1 : 1500 < a.length
  · exact walk_long _ _ _ _ _ _ w hT (Or.inl (by simp; omega))
  · by_cases h2 : 1500 < b.length
    · exact walk_long _ _ _ _ _ _ w hT (Or.inr ⟨by simp; omega, by simp; omega⟩)
    · exact walk_short a b A B cap cap' w hT hA hB hcap hcap' (by omega) (by omega)

end Go.Proofs.YtbkdmceefefiaabDoor.UtfTwice

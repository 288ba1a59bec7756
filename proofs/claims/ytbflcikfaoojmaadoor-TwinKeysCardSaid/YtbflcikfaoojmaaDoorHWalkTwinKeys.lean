/- whispererlaw20.TwinKeys, walked. -/
import Derived.Deep.RegionHeld3
import Derived.Test.YtbflcikfaoojmaaDoorHTwD
import Derived.Test.YtbflcikfaoojmaaDoorHTwG
import Derived.Test.YtbflcikfaoojmaaDoorHKd23
import Derived.Test.YtbflcikfaoojmaaDoorHLaw
set_option linter.unusedVariables false
set_option linter.unusedSimpArgs false
namespace Go.Proofs.YtbflcikfaoojmaaDoor.TwinKeys
open Go.RowKit Go.Lib Go.Shelf ChangeShapes Mem Utf UtfP Edit

set_option maxRecDepth 200000 in
set_option maxHeartbeats 2000000 in
theorem walk_long (n : Nat) (z : Int) (A : Option Addr) (cap : Nat) (w : World) (hT : Tabs w) (hn : 800 < n) :
    Calls Tryd.prog 8 #[.slice A n cap, .int .i64 z] w fun e w' => e = .returned (.bool true) ∧ Below w.heap.size w w' := by
  have HA := Lib.hid (alive_c w hT)
  have HT := Lib.hid hT
  have k1 : decide ((800 : Int) < (n : Int)) = true := by simp; omega
  clear hT
  go_enter Tryd.func8, Tryd.ntmps8
  go_wp2_with fail
  refine (HA.out).mono ?_
  rintro e w1 ⟨rfl, hb1⟩
  have HB1 := Lib.hid hb1
  have HA1 := Lib.hid (alive_c w1 (HT.out.below hb1))
  clear hb1 HA
  go_wp2_with fail
  refine (HA1.out).mono ?_
  rintro e w2 ⟨rfl, hb2⟩
  go_wp2_with fail
  go_ret
  exact ⟨rfl, HB1.out.trans (hb2.mono HB1.out.size)⟩

theorem drain_keys_len : ∀ (n : Nat) (t : List UInt8) (ps : Bool), t.length ≤ n → (Edit.drain t ps).1.length ≤ t.length := by
  intro n
  induction n with
  | zero =>
    intro t ps h
    obtain rfl := List.eq_nil_of_length_eq_zero (Nat.le_zero.1 h)
    rw [drain_none (nxE_nil ps)]
    exact Nat.le_refl _
  | succ n ih =>
    intro t ps h
    cases hx : nxE t ps with
    | none => rw [drain_none hx]; exact Nat.zero_le _
    | some r =>
      obtain ⟨k, m, ps'⟩ := r
      obtain ⟨h1, h2⟩ := nxE_some hx
      rw [drain_some hx]
      have := ih (t.drop m) ps' (by rw [List.length_drop]; omega)
      rw [List.length_drop] at this
      simp
      omega

/-- what the two readings left -/
def RT (W : World) (ks1 ks2 : List (Int × Int)) (n : Nat) (hd : List UInt8) (p : Bool) (s7 s8 : Value) (wx : World) : Prop :=
  ∃ b7 b8 A1 c1 Ah1 ch1 A2 c2 Ah2 ch2, s7 = .pointer (some ⟨b7, 0, none⟩) ∧ s8 = .pointer (some ⟨b8, 0, none⟩) ∧
    wx.cell? ⟨b7, 0, none⟩ = some (.slice A1 n c1) ∧ wx.cell? ⟨b7, 1, none⟩ = some (.slice Ah1 hd.length ch1) ∧ wx.cell? ⟨b7, 2, none⟩ = some (.bool p) ∧
    wx.cell? ⟨b8, 0, none⟩ = some (.slice A2 n c2) ∧ wx.cell? ⟨b8, 1, none⟩ = some (.slice Ah2 hd.length ch2) ∧ wx.cell? ⟨b8, 2, none⟩ = some (.bool p) ∧ n ≤ c1 ∧ n ≤ c2 ∧ hd.length ≤ ch1 ∧ hd.length ≤ ch2 ∧
    Hid (KeysAt wx A1 ks1) ∧ Hid (BytesAt wx Ah1 hd) ∧ Hid (KeysAt wx A2 ks2) ∧ Hid (BytesAt wx Ah2 hd) ∧ Hid (Below W.heap.size W wx)

theorem blk_ne {b n : Nat} (h : b < n) : b < n ∧ b < n + 1 ∧ ¬ b = n ∧ ¬ b = n + 1 ∧ ¬ n = b ∧ ¬ n + 1 = b := ⟨h, by omega, by omega, by omega, by omega, by omega⟩
theorem hb_rfl (V : World) : Hid (Below V.heap.size V V) := Below.refl _ _

section
variable {W v1 v2 : World} {ks1 ks2 : List (Int × Int)} {nk : Nat} {hd : List UInt8} {p : Bool} {A1 Ah1 A2 Ah2 : Option Addr} {c1 ch1 c2 ch2 : Nat}
/-- what the two calls have told -/
structure Dat (W v1 v2 : World) (ks1 ks2 : List (Int × Int)) (nk : Nat) (hd : List UInt8) (A1 Ah1 A2 Ah2 : Option Addr) (c1 ch1 c2 ch2 : Nat) : Prop where
  n1 : nk ≤ c1
  n2 : nk ≤ c2
  m1 : hd.length ≤ ch1
  m2 : hd.length ≤ ch2
  k1 : KeysAt v1 A1 ks1
  h1 : BytesAt v1 Ah1 hd
  k2 : KeysAt v2 A2 ks2
  h2 : BytesAt v2 Ah2 hd
  b12 : Below v1.heap.size v1 v2
  bW : Below W.heap.size W v2
abbrev told (A : Option Addr) (n c : Nat) (Ah : Option Addr) (m ch : Nat) (p : Bool) : Array Value := #[.slice A n c, .slice Ah m ch, .bool p]
theorem RT_fin {wx : World} {b7 b8 : Nat} (D : Dat W v1 v2 ks1 ks2 nk hd A1 Ah1 A2 Ah2 c1 ch1 c2 ch2) (h7 : Blk wx b7 (told A1 nk c1 Ah1 hd.length ch1 p) 59) (h8 : Blk wx b8 (told A2 nk c2 Ah2 hd.length ch2 p) 59) (hb : But [b7, b8] v2 wx)
    (hW7 : W.heap.size ≤ b7) (hW8 : W.heap.size ≤ b8) (hne : ∀ a, (A1 = some a ∨ Ah1 = some a ∨ A2 = some a ∨ Ah2 = some a) → a.block ≠ b7 ∧ a.block ≠ b8) :
    RT W ks1 ks2 nk hd p (.pointer (some ⟨b7, 0, none⟩)) (.pointer (some ⟨b8, 0, none⟩)) wx := by
  have hm : ∀ a, (A1 = some a ∨ Ah1 = some a ∨ A2 = some a ∨ Ah2 = some a) → a.block ∉ [b7, b8] := by
    intro a ha hk
    have := hne a ha
    simp at hk
    omega
  have hby : ∀ {V : World} {Ah : Option Addr}, (∀ a, Ah = some a → Ah1 = some a ∨ Ah2 = some a) → BytesAt v2 Ah hd → BytesAt wx Ah hd := by
    intro V Ah hA h hx
    obtain ⟨B, off, rfl, hlt, hc⟩ := h hx
    refine ⟨B, off, rfl, Nat.lt_of_lt_of_le hlt hb.size, fun j hj => ?_⟩
    rw [But.cell hb (p := ⟨B, off + j, none⟩) hlt (hm ⟨B, off, none⟩ (by rcases hA _ rfl with h | h <;> simp [h]))]
    exact hc j hj
  exact ⟨b7, b8, A1, c1, Ah1, ch1, A2, c2, Ah2, ch2, rfl, rfl, h7.cell rfl, h7.cell rfl, h7.cell rfl, h8.cell rfl, h8.cell rfl, h8.cell rfl, D.n1, D.n2, D.m1, D.m2,
    (D.k1.but (But.of_below (S := []) D.b12) (fun _ _ => List.not_mem_nil)).but hb (fun a ha => hm a (.inl ha)), hby (V := v1) (fun a h => .inl h) (D.h1.below D.b12), D.k2.but hb (fun a ha => hm a (.inr (.inr (.inl ha)))), hby (V := v1) (fun a h => .inr h) D.h2,
    D.bW.trans (hb.below D.bW.size (by intro k hk; simp at hk; omega))⟩
theorem set3 {V : World} {b : Nat} {x y z : Value} (h : Blk V b #[.slice none 0 0, .slice none 0 0, .bool false] 59) : Blk (((V.setCell ⟨b, 0, none⟩ x).setCell ⟨b, 1, none⟩ y).setCell ⟨b, 2, none⟩ z) b #[x, y, z] 59 := Blk.set (Blk.set (Blk.set h 0 x) 1 y) 2 z
theorem set3_o {V : World} {b g : Nat} {x y z : Value} {cs : Array Value} {t : TypeId} (h : Blk V g cs t) (hne : g ≠ b) : Blk (((V.setCell ⟨b, 0, none⟩ x).setCell ⟨b, 1, none⟩ y).setCell ⟨b, 2, none⟩ z) g cs t := Blk.other (Blk.other (Blk.other h (a := ⟨b, 0, none⟩) hne _) (a := ⟨b, 1, none⟩) hne _) (a := ⟨b, 2, none⟩) hne _
theorem set3_b {V : World} {b : Nat} {x y z : Value} {S : List Nat} {a : World} (h : But S a V) (hb : b ∈ S) : But S a (((V.setCell ⟨b, 0, none⟩ x).setCell ⟨b, 1, none⟩ y).setCell ⟨b, 2, none⟩ z) :=
  But.set (p := ⟨b, 2, none⟩) (But.set (p := ⟨b, 1, none⟩) (But.set (p := ⟨b, 0, none⟩) h (.inl hb) _) (.inl hb) _) (.inl hb) _
theorem RT_1 (D : Dat W v1 v2 ks1 ks2 nk hd A1 Ah1 A2 Ah2 c1 ch1 c2 ch2) (hne : ∀ a, (A1 = some a ∨ Ah1 = some a ∨ A2 = some a ∨ Ah2 = some a) → a.block ≠ v2.heap.size ∧ a.block ≠ v2.heap.size + 1) :
    RT W ks1 ks2 nk hd p (.pointer (some ⟨v2.heap.size, 0, none⟩)) (.pointer (some ⟨v2.heap.size + 1, 0, none⟩)) ((v2.alloc (.cells #[.slice A1 nk c1, .slice Ah1 hd.length ch1, .bool p] 59)).alloc (.cells #[.slice A2 nk c2, .slice Ah2 hd.length ch2, .bool p] 59)) := by
  have h2 := Blk.new (v2.alloc (.cells #[.slice A1 nk c1, .slice Ah1 hd.length ch1, .bool p] 59)) #[.slice A2 nk c2, .slice Ah2 hd.length ch2, .bool p] 59
  rw [World.size_alloc] at h2
  exact RT_fin D ((Blk.new _ _ _).alloc _) h2 (((But.refl _ _).alloc _).alloc _) D.bW.size (Nat.le_succ_of_le D.bW.size) hne
theorem RT_1' (D : Dat W v1 v2 ks1 ks2 nk hd A1 Ah1 A2 Ah2 c1 ch1 c2 ch2) (hne : ∀ a, (A1 = some a ∨ Ah1 = some a ∨ A2 = some a ∨ Ah2 = some a) → a.block ≠ v2.heap.size + 1 ∧ a.block ≠ v2.heap.size) :
    RT W ks1 ks2 nk hd p (.pointer (some ⟨v2.heap.size + 1, 0, none⟩)) (.pointer (some ⟨v2.heap.size, 0, none⟩)) ((v2.alloc (.cells #[.slice A2 nk c2, .slice Ah2 hd.length ch2, .bool p] 59)).alloc (.cells #[.slice A1 nk c1, .slice Ah1 hd.length ch1, .bool p] 59)) := by
  have h2 := Blk.new (v2.alloc (.cells #[.slice A2 nk c2, .slice Ah2 hd.length ch2, .bool p] 59)) #[.slice A1 nk c1, .slice Ah1 hd.length ch1, .bool p] 59
  rw [World.size_alloc] at h2
  exact RT_fin D h2 ((Blk.new _ _ _).alloc _) (((But.refl _ _).alloc _).alloc _) (Nat.le_succ_of_le D.bW.size) D.bW.size hne
theorem size_set3 {V : World} {b : Nat} {x y z : Value} : (((V.setCell ⟨b, 0, none⟩ x).setCell ⟨b, 1, none⟩ y).setCell ⟨b, 2, none⟩ z).heap.size = V.heap.size := by simp [World.setCell]
theorem RT_2 {b : Nat} (D : Dat W v1 v2 ks1 ks2 nk hd A1 Ah1 A2 Ah2 c1 ch1 c2 ch2) (hB : Blk v2 b #[.slice none 0 0, .slice none 0 0, .bool false] 59) (hWb : W.heap.size ≤ b) (hne : ∀ a, (A1 = some a ∨ Ah1 = some a ∨ A2 = some a ∨ Ah2 = some a) → a.block ≠ b ∧ a.block ≠ v2.heap.size) :
    RT W ks1 ks2 nk hd p (.pointer (some ⟨b, 0, none⟩)) (.pointer (some ⟨v2.heap.size, 0, none⟩)) ((((v2.setCell ⟨b, 0, none⟩ (.slice A1 nk c1)).setCell ⟨b, 1, none⟩ (.slice Ah1 hd.length ch1)).setCell ⟨b, 2, none⟩ (.bool p)).alloc (.cells #[.slice A2 nk c2, .slice Ah2 hd.length ch2, .bool p] 59)) := by
  have h2 := Blk.new (((v2.setCell ⟨b, 0, none⟩ (.slice A1 nk c1)).setCell ⟨b, 1, none⟩ (.slice Ah1 hd.length ch1)).setCell ⟨b, 2, none⟩ (.bool p)) #[.slice A2 nk c2, .slice Ah2 hd.length ch2, .bool p] 59
  rw [size_set3] at h2
  exact RT_fin D ((set3 hB).alloc _) h2 ((set3_b (But.refl _ _) (by simp)).alloc _) hWb D.bW.size hne
theorem RT_2' {b : Nat} (D : Dat W v1 v2 ks1 ks2 nk hd A1 Ah1 A2 Ah2 c1 ch1 c2 ch2) (hB : Blk v2 b #[.slice none 0 0, .slice none 0 0, .bool false] 59) (hWb : W.heap.size ≤ b) (hne : ∀ a, (A1 = some a ∨ Ah1 = some a ∨ A2 = some a ∨ Ah2 = some a) → a.block ≠ v2.heap.size ∧ a.block ≠ b) :
    RT W ks1 ks2 nk hd p (.pointer (some ⟨v2.heap.size, 0, none⟩)) (.pointer (some ⟨b, 0, none⟩)) ((((v2.setCell ⟨b, 0, none⟩ (.slice A2 nk c2)).setCell ⟨b, 1, none⟩ (.slice Ah2 hd.length ch2)).setCell ⟨b, 2, none⟩ (.bool p)).alloc (.cells #[.slice A1 nk c1, .slice Ah1 hd.length ch1, .bool p] 59)) := by
  have h2 := Blk.new (((v2.setCell ⟨b, 0, none⟩ (.slice A2 nk c2)).setCell ⟨b, 1, none⟩ (.slice Ah2 hd.length ch2)).setCell ⟨b, 2, none⟩ (.bool p)) #[.slice A1 nk c1, .slice Ah1 hd.length ch1, .bool p] 59
  rw [size_set3] at h2
  exact RT_fin D h2 ((set3 hB).alloc _) ((set3_b (But.refl _ _) (by simp)).alloc _) D.bW.size hWb hne
theorem RT_3 {b7 b8 : Nat} (D : Dat W v1 v2 ks1 ks2 nk hd A1 Ah1 A2 Ah2 c1 ch1 c2 ch2) (h7 : Blk v2 b7 #[.slice none 0 0, .slice none 0 0, .bool false] 59) (h8 : Blk v2 b8 #[.slice none 0 0, .slice none 0 0, .bool false] 59) (hn : b7 ≠ b8) (hW7 : W.heap.size ≤ b7) (hW8 : W.heap.size ≤ b8) (hne : ∀ a, (A1 = some a ∨ Ah1 = some a ∨ A2 = some a ∨ Ah2 = some a) → a.block ≠ b7 ∧ a.block ≠ b8) :
    RT W ks1 ks2 nk hd p (.pointer (some ⟨b7, 0, none⟩)) (.pointer (some ⟨b8, 0, none⟩)) ((((((v2.setCell ⟨b7, 0, none⟩ (.slice A1 nk c1)).setCell ⟨b7, 1, none⟩ (.slice Ah1 hd.length ch1)).setCell ⟨b7, 2, none⟩ (.bool p)).setCell ⟨b8, 0, none⟩ (.slice A2 nk c2)).setCell ⟨b8, 1, none⟩ (.slice Ah2 hd.length ch2)).setCell ⟨b8, 2, none⟩ (.bool p)) :=
  RT_fin D (set3_o (set3 h7) hn) (set3 (set3_o h8 (fun e => hn e.symm))) (set3_b (set3_b (But.refl _ _) (by simp)) (by simp)) hW7 hW8 hne
end

/-- the loop over keys -/
def RL2 (wc : World) (n : Nat) (i : Value) (wr : World) : Prop := ∃ j : Nat, i = .int .i64 (j : Int) ∧ j ≤ n ∧ Hid (Below wc.heap.size wc wr)

set_option maxRecDepth 200000 in
set_option maxHeartbeats 4000000 in
theorem walk_short (l : List UInt8) (z : Int) (A : Option Addr) (cap : Nat) (w : World) (hT : Tabs w) (hA : BytesAt w A l) (hcap : l.length ≤ cap) (hm : l.length ≤ 800) :
    Calls Tryd.prog 8 #[.slice A l.length cap, .int .i64 z] w fun e w' => e = .returned (.bool true) ∧ Below w.heap.size w w' := by
  have HA := Lib.hid (alive_c w hT)
  have HT := Lib.hid hT
  have HBA := Lib.hid hA
  have k1 : decide ((800 : Int) < (l.length : Int)) = false := by simp; omega
  clear hT hA
  go_enter Tryd.func8, Tryd.ntmps8
  go_wp2_with fail
  refine (HA.out).mono ?_
  rintro e w1 ⟨rfl, hb1⟩
  have HB1 := Lib.hid hb1
  have y1 := conv_str (cap := cap) (HBA.out.below hb1)
  have HO1 := Lib.hid (one_c l w1)
  clear hb1 HA
  go_wp2_with fail
  refine (HO1.out).mono ?_
  rintro e w4 ⟨bi4, Ao4, capo4, rfl, hone4, hb4⟩
  have hb14 := HB1.out.trans (hb4.mono HB1.out.size)
  have HPL := Lib.hid (plan1 bi4 Ao4 capo4 l z w4 hone4 (by omega) (HT.out.below hb14))
  have HB4 := Lib.hid hb14
  clear hone4 hb4 hb14 HO1 y1 HB1
  unfold planV at *
  go_wp2_with fail
  refine (HPL.out).mono ?_
  rintro e w5 ⟨g, c0, A12, cap12, rfl, hcell, hcap12, hby12, hb5⟩
  go_upto_region 4 with fail
  obtain ⟨W, hW⟩ : ∃ W, w5.alloc (.cells #[.int .u32 0, .int .u8 0, .int .u8 0, .slice (some ⟨g, 0, none⟩) 1 c0, .slice none 0 0, .slice none 0 0, .slice none 0 0] 35) = W := ⟨_, rfl⟩
  have hw5 : Below w5.heap.size w5 W := by rw [← hW]; exact (Below.refl _ _).alloc (Nat.le_refl _) _
  have hq5 : Blk W w5.heap.size #[.int .u32 0, .int .u8 0, .int .u8 0, .slice (some ⟨g, 0, none⟩) 1 c0, .slice none 0 0, .slice none 0 0, .slice none 0 0] 35 := by rw [← hW]; exact Blk.new _ _ _
  have hgl : g < w5.heap.size := by
    apply Classical.byContradiction
    intro hh
    unfold World.cell? at hcell
    rw [Array.getElem?_eq_none (by show w5.heap.size ≤ g; omega)] at hcell
    cases hcell
  have x1 := (hw5.cell (p := ⟨g, 3, none⟩) hgl).trans hcell
  have x2 := hq5.cell (j := 3) rfl
  have hb45 := HB4.out.trans (hb5.mono HB4.out.size)
  have hbW := hb45.trans (hw5.mono hb45.size)
  have HBAW := Lib.hid (HBA.out.below hbW)
  have HBY12 := Lib.hid (hby12.below hw5)
  have HBW := Lib.hid hbW
  have hqlt := hq5.lt
  clear hcell hby12 hb5 hw5 hq5 hb45 hbW HPL HB4 HBA
  obtain ⟨bq, hbq⟩ : ∃ bq, w5.heap.size = bq := ⟨_, rfl⟩
  rw [hW]
  rw [hbq] at x2 hqlt hgl ⊢
  clear hW hbq
  obtain ⟨t, ht⟩ : ∃ t, planE z l = t := ⟨_, rfl⟩
  have htl : t.length = l.length := by rw [← ht]; exact planE_len z l
  have hks := keys_plan z l
  rw [ht] at hks HBY12
  obtain ⟨⟨ks1, hd, p⟩, hdr1⟩ : ∃ r, Edit.drain l false = r := ⟨_, rfl⟩
  obtain ⟨⟨ks2, hd2, p2⟩, hdr2⟩ : ∃ r, Edit.drain t false = r := ⟨_, rfl⟩
  rw [hdr1, hdr2] at hks
  obtain ⟨hks, hk2⟩ := hks
  simp only at hks hk2
  injection hk2 with e1 e2
  subst e1
  subst e2
  have hkl := hks.len
  have HKS := Lib.hid hks
  obtain ⟨nk, hnk⟩ : ∃ nk, ks1.length = nk := ⟨_, rfl⟩
  have hnk2 : ks2.length = nk := by rw [← hkl]; exact hnk
  have hnkl : nk ≤ 800 := by
    have := drain_keys_len l.length l false (Nat.le_refl _)
    rw [hdr1] at this
    simp only at this
    omega
  have HNK := Lib.hid hnk
  have HNK2 := Lib.hid hnk2
  clear ht hks hkl hnk hnk2
  go_wp2_with fail
  go_cut [7, 8] from 36 to 43 (fun s7 s8 wx => RT W ks1 ks2 nk hd p s7 s8 wx)
  case first =>
    have HRD1 : Hid (∀ V, Hid (Below W.heap.size W V) → Calls Tryd.prog 25 #[.slice A l.length cap] V fun e w' => ∃ A1 c1 Ah1 ch1, e = .returned (.agg #[.slice A1 nk c1, .slice Ah1 hd.length ch1, .bool p]) ∧ nk ≤ c1 ∧ hd.length ≤ ch1 ∧ Hid (∀ a, A1 = some a → V.heap.size ≤ a.block ∧ a.block < w'.heap.size) ∧ Hid (∀ a, Ah1 = some a → V.heap.size ≤ a.block ∧ a.block < w'.heap.size) ∧ Hid (KeysAt w' A1 ks1) ∧ Hid (BytesAt w' Ah1 hd) ∧ Hid (Below W.heap.size W w') ∧ Hid (Below V.heap.size V w')) := fun V hV => (read_c l A cap V (HBAW.out.below hV.out) hcap (by omega)).mono fun e w' ⟨v, hv, he, ho, hoh, hb⟩ => by
      rw [hdr1] at he ho hoh
      have hlt := fun k hk => OwnB.lt hoh (k := k) hk
      obtain ⟨A1, c1, rfl, hc1, hk1, ha1, _⟩ := OwnK.form ho
      obtain ⟨Ah1, ch1, rfl, hch1, hh1, _, hob⟩ := OwnB.form hoh
      rw [hob] at hlt
      rw [HNK.out] at he hc1
      exact ⟨A1, c1, Ah1, ch1, he, hc1, hch1, fun a h => ⟨(ha1 a h).1, (ha1 a h).2.1⟩, fun a h => hlt a.block (by rw [h]; rfl), hk1, hh1, hV.out.trans (hb.mono hV.out.size), hb⟩
    have HRD2 : Hid (∀ v1 V, Hid (Below W.heap.size W V) → Hid (Below v1.heap.size v1 V) → Calls Tryd.prog 25 #[.slice A12 l.length cap12] V fun e w' => ∃ A1 c1 Ah1 ch1, e = .returned (.agg #[.slice A1 nk c1, .slice Ah1 hd.length ch1, .bool p]) ∧ nk ≤ c1 ∧ hd.length ≤ ch1 ∧ Hid (∀ a, A1 = some a → V.heap.size ≤ a.block ∧ a.block < w'.heap.size) ∧ Hid (∀ a, Ah1 = some a → V.heap.size ≤ a.block ∧ a.block < w'.heap.size) ∧ Hid (KeysAt w' A1 ks2) ∧ Hid (BytesAt w' Ah1 hd) ∧ Hid (Below W.heap.size W w') ∧ Hid (Below V.heap.size V w') ∧ Hid (Below v1.heap.size v1 w')) := fun v1 V hV hv1 => by
      have h0 := read_c t A12 cap12 V (HBY12.out.below hV.out) (by omega) (by omega)
      rw [htl] at h0
      refine h0.mono fun e w' ⟨v, hv, he, ho, hoh, hb⟩ => ?_
      rw [hdr2] at he ho hoh
      have hlt := fun k hk => OwnB.lt hoh (k := k) hk
      obtain ⟨A1, c1, rfl, hc1, hk1, ha1, _⟩ := OwnK.form ho
      obtain ⟨Ah1, ch1, rfl, hch1, hh1, _, hob⟩ := OwnB.form hoh
      rw [hob] at hlt
      rw [HNK2.out] at he hc1
      exact ⟨A1, c1, Ah1, ch1, he, hc1, hch1, fun a h => ⟨(ha1 a h).1, (ha1 a h).2.1⟩, fun a h => hlt a.block (by rw [h]; rfl), hk1, hh1, hV.out.trans (hb.mono hV.out.size), hb, hv1.out.trans (hb.mono hv1.out.size)⟩
    have HSW : Hid (∀ V, Hid (Below W.heap.size W V) → V.cell? ⟨bq, 3, none⟩ = some (.slice (some ⟨g, 0, none⟩) 1 c0) ∧ V.cell? ⟨g, 3, none⟩ = some (.slice A12 l.length cap12)) := fun V hV => ⟨(hV.out.cell (p := ⟨bq, 3, none⟩) hqlt).trans x2, (hV.out.cell (p := ⟨g, 3, none⟩) (by show g < _; omega)).trans x1⟩
    have cB0 : Hid (Below W.heap.size W W) := Below.refl _ _
    have hneb : ∀ k, W.heap.size ≤ k → ¬ k = bq := by intro k hk; omega
    have hneb' : ∀ k, W.heap.size ≤ k → ¬ bq = k := by intro k hk; omega
    have hneg : ∀ k, W.heap.size ≤ k → ¬ k = g := by intro k hk; omega
    have hneg' : ∀ k, W.heap.size ≤ k → ¬ g = k := by intro k hk; omega
    have hW1 : W.heap.size ≤ W.heap.size + 1 := by omega
    have nWa := hneb _ (Nat.le_refl W.heap.size)
    have nWb := hneb' _ (Nat.le_refl W.heap.size)
    have nWc := hneg _ (Nat.le_refl W.heap.size)
    have nWd := hneg' _ (Nat.le_refl W.heap.size)
    have nVa := hneb _ hW1
    have nVb := hneb' _ hW1
    have nVc := hneg _ hW1
    have nVd := hneg' _ hW1
    clear hdr1 hdr2 HKS HNK HNK2 HBAW HBY12 HT HBW
    go_region_held3 (fun V => V.cell? ⟨bq, 3, none⟩ = some (.slice (some ⟨g, 0, none⟩) 1 c0) ∧ V.cell? ⟨g, 3, none⟩ = some (.slice A12 l.length cap12))
      (first | (with_reducible assumption) | go_keep)
      (first
      | (go_at_call 25; (with_reducible refine (HRD1.out _ ?_).mono ?_); (first | (with_reducible exact hb_drew cB0) | (with_reducible exact hb_drew (hb_alloc cB0 _)) | (with_reducible exact hb_drew (hb_alloc (hb_alloc cB0 _) _))); rintro e v1 ⟨A1, c1, Ah1, ch1, rfl, hc1, hch1, HA1, HAh1, HK1, HH1, hbv1, HBV1⟩; obtain ⟨t0, t1⟩ := HSW.out _ hbv1; have hz1 := hbv1.out.size; have hz1' : W.heap.size ≤ v1.heap.size + 1 := (by omega); have n1a := hneb _ hz1; have n1b := hneb' _ hz1; have n1c := hneg _ hz1; have n1d := hneg' _ hz1; have n2a := hneb _ hz1'; have n2b := hneb' _ hz1'; have n2c := hneg _ hz1'; have n2d := hneg' _ hz1'; (try ((with_reducible have hq' := (Blk.drew (Blk.new W #[.slice none 0 0, .slice none 0 0, .bool false] 59)).but (But.of_below (S := []) HBV1.out) List.not_mem_nil); have HQa : Hid (Blk v1 W.heap.size #[.slice none 0 0, .slice none 0 0, .bool false] 59) := hq'; clear hq'; have qa0 := HQa.out.cell (j := 0) rfl; have qaf0 := HQa.out.free 0; have qa1 := HQa.out.cell (j := 1) rfl; have qaf1 := HQa.out.free 1; have qa2 := HQa.out.cell (j := 2) rfl; have qaf2 := HQa.out.free 2; obtain ⟨qal1, qal2, qal3, qal4, qal5, qal6⟩ := blk_ne HQa.out.lt)); (try ((with_reducible have hq' := (Blk.drew ((Blk.new W #[.slice none 0 0, .slice none 0 0, .bool false] 59).alloc (.cells #[.slice none 0 0, .slice none 0 0, .bool false] 59))).but (But.of_below (S := []) HBV1.out) List.not_mem_nil); (with_reducible have hq'' := (Blk.drew (Blk.new (W.alloc (.cells #[.slice none 0 0, .slice none 0 0, .bool false] 59)) #[.slice none 0 0, .slice none 0 0, .bool false] 59)).but (But.of_below (S := []) HBV1.out) List.not_mem_nil); have HQa : Hid (Blk v1 W.heap.size #[.slice none 0 0, .slice none 0 0, .bool false] 59) := hq'; have HQb : Hid (Blk v1 (W.heap.size + 1) #[.slice none 0 0, .slice none 0 0, .bool false] 59) := (by rw [World.size_alloc] at hq''; exact hq''); clear hq' hq''; have qa0 := HQa.out.cell (j := 0) rfl; have qaf0 := HQa.out.free 0; have qa1 := HQa.out.cell (j := 1) rfl; have qaf1 := HQa.out.free 1; have qa2 := HQa.out.cell (j := 2) rfl; have qaf2 := HQa.out.free 2; obtain ⟨qal1, qal2, qal3, qal4, qal5, qal6⟩ := blk_ne HQa.out.lt; have qb0 := HQb.out.cell (j := 0) rfl; have qbf0 := HQb.out.free 0; have qb1 := HQb.out.cell (j := 1) rfl; have qbf1 := HQb.out.free 1; have qb2 := HQb.out.cell (j := 2) rfl; have qbf2 := HQb.out.free 2; obtain ⟨qbl1, qbl2, qbl3, qbl4, qbl5, qbl6⟩ := blk_ne HQb.out.lt)))
      | (go_at_call 25; (with_reducible refine (HRD2.out v1 _ ?_ ?_).mono ?_); (first | (with_reducible assumption) | (with_reducible exact hb_alloc (by assumption) _) | (with_reducible exact hb_alloc (hb_alloc (by assumption) _) _)); (first | (with_reducible exact hb_rfl v1) | (with_reducible exact hb_alloc (hb_rfl v1) _) | (with_reducible exact hb_alloc (hb_alloc (hb_rfl v1) _) _)); rintro e v2 ⟨A2, c2, Ah2, ch2, rfl, hc2, hch2, HA2, HAh2, HK2, HH2, hbv2, HBV2, HV12⟩; obtain ⟨t2, t3⟩ := HSW.out _ hbv2; have hz2 := hbv2.out.size; have hz2' : W.heap.size ≤ v2.heap.size + 1 := (by omega); have n3a := hneb _ hz2; have n3b := hneb' _ hz2; have n3c := hneg _ hz2; have n3d := hneg' _ hz2; have n4a := hneb _ hz2'; have n4b := hneb' _ hz2'; have n4c := hneg _ hz2'; have n4d := hneg' _ hz2'; (try (have HQa2 := Lib.hid (HQa.out.but (But.of_below (S := []) HV12.out) List.not_mem_nil); have qe0 := HQa2.out.cell (j := 0) rfl; have qef0 := HQa2.out.free 0; have qe1 := HQa2.out.cell (j := 1) rfl; have qef1 := HQa2.out.free 1; have qe2 := HQa2.out.cell (j := 2) rfl; have qef2 := HQa2.out.free 2; obtain ⟨qel1, qel2, qel3, qel4, qel5, qel6⟩ := blk_ne HQa2.out.lt)); (try (have HQb2 := Lib.hid (HQb.out.but (But.of_below (S := []) HV12.out) List.not_mem_nil); have qg0 := HQb2.out.cell (j := 0) rfl; have qgf0 := HQb2.out.free 0; have qg1 := HQb2.out.cell (j := 1) rfl; have qgf1 := HQb2.out.free 1; have qg2 := HQb2.out.cell (j := 2) rfl; have qgf2 := HQb2.out.free 2; obtain ⟨qgl1, qgl2, qgl3, qgl4, qgl5, qgl6⟩ := blk_ne HQb2.out.lt)); (try ((with_reducible have hq' := (Blk.new v1 #[.slice none 0 0, .slice none 0 0, .bool false] 59).but (But.of_below (S := []) HBV2.out) List.not_mem_nil); have HQc : Hid (Blk v2 v1.heap.size #[.slice none 0 0, .slice none 0 0, .bool false] 59) := hq'; clear hq'; have qc0 := HQc.out.cell (j := 0) rfl; have qcf0 := HQc.out.free 0; have qc1 := HQc.out.cell (j := 1) rfl; have qcf1 := HQc.out.free 1; have qc2 := HQc.out.cell (j := 2) rfl; have qcf2 := HQc.out.free 2; obtain ⟨qcl1, qcl2, qcl3, qcl4, qcl5, qcl6⟩ := blk_ne HQc.out.lt)); (try ((with_reducible have hq' := ((Blk.new v1 #[.slice none 0 0, .slice none 0 0, .bool false] 59).alloc (.cells #[.slice none 0 0, .slice none 0 0, .bool false] 59)).but (But.of_below (S := []) HBV2.out) List.not_mem_nil); (with_reducible have hq'' := (Blk.new (v1.alloc (.cells #[.slice none 0 0, .slice none 0 0, .bool false] 59)) #[.slice none 0 0, .slice none 0 0, .bool false] 59).but (But.of_below (S := []) HBV2.out) List.not_mem_nil); have HQc : Hid (Blk v2 v1.heap.size #[.slice none 0 0, .slice none 0 0, .bool false] 59) := hq'; have HQd : Hid (Blk v2 (v1.heap.size + 1) #[.slice none 0 0, .slice none 0 0, .bool false] 59) := (by rw [World.size_alloc] at hq''; exact hq''); clear hq' hq''; have qc0 := HQc.out.cell (j := 0) rfl; have qcf0 := HQc.out.free 0; have qc1 := HQc.out.cell (j := 1) rfl; have qcf1 := HQc.out.free 1; have qc2 := HQc.out.cell (j := 2) rfl; have qcf2 := HQc.out.free 2; obtain ⟨qcl1, qcl2, qcl3, qcl4, qcl5, qcl6⟩ := blk_ne HQc.out.lt; have qd0 := HQd.out.cell (j := 0) rfl; have qdf0 := HQd.out.free 0; have qd1 := HQd.out.cell (j := 1) rfl; have qdf1 := HQd.out.free 1; have qd2 := HQd.out.cell (j := 2) rfl; have qdf2 := HQd.out.free 2; obtain ⟨qdl1, qdl2, qdl3, qdl4, qdl5, qdl6⟩ := blk_ne HQd.out.lt))))
    all_goals
      have hs12 := HV12.out.size
      have D : Dat W v1 v2 ks1 ks2 nk hd A1 Ah1 A2 Ah2 c1 ch1 c2 ch2 := ⟨hc1, hc2, hch1, hch2, HK1.out, HH1.out, HK2.out, HH2.out, HV12.out, hbv2.out⟩
      go_wp2_with fail
      go_meet
      clear t0 t1 t2 t3
      first
      | (with_reducible refine RT_1 D ?_; (intro a ha; rcases ha with ha | ha | ha | ha; (have h := HA1.out a ha; (try simp at h); omega); (have h := HAh1.out a ha; (try simp at h); omega); (have h := HA2.out a ha; (try simp at h); omega); (have h := HAh2.out a ha; (try simp at h); omega)))
      | (with_reducible refine RT_1' D ?_; (intro a ha; rcases ha with ha | ha | ha | ha; (have h := HA1.out a ha; (try simp at h); omega); (have h := HAh1.out a ha; (try simp at h); omega); (have h := HA2.out a ha; (try simp at h); omega); (have h := HAh2.out a ha; (try simp at h); omega)))
      | (with_reducible refine RT_2 D ?_ ?_ ?_; (first | (with_reducible exact HQc.out) | (with_reducible exact HQa2.out)); omega; (intro a ha; rcases ha with ha | ha | ha | ha; (have h := HA1.out a ha; (try simp at h); omega); (have h := HAh1.out a ha; (try simp at h); omega); (have h := HA2.out a ha; (try simp at h); omega); (have h := HAh2.out a ha; (try simp at h); omega)))
      | (with_reducible refine RT_2' D ?_ ?_ ?_; (first | (with_reducible exact HQc.out) | (with_reducible exact HQa2.out)); omega; (intro a ha; rcases ha with ha | ha | ha | ha; (have h := HA1.out a ha; (try simp at h); omega); (have h := HAh1.out a ha; (try simp at h); omega); (have h := HA2.out a ha; (try simp at h); omega); (have h := HAh2.out a ha; (try simp at h); omega)))
      | (with_reducible refine RT_3 D ?_ ?_ ?_ ?_ ?_ ?_; (first | (with_reducible exact HQc.out) | (with_reducible exact HQd.out) | (with_reducible exact HQa2.out) | (with_reducible exact HQb2.out)); (first | (with_reducible exact HQc.out) | (with_reducible exact HQd.out) | (with_reducible exact HQa2.out) | (with_reducible exact HQb2.out)); omega; omega; omega; (intro a ha; rcases ha with ha | ha | ha | ha; (have h := HA1.out a ha; (try simp at h); omega); (have h := HAh1.out a ha; (try simp at h); omega); (have h := HA2.out a ha; (try simp at h); omega); (have h := HAh2.out a ha; (try simp at h); omega)))
  case rest =>
    obtain ⟨b7, b8, A1, c1, Ah1, ch1, A2, c2, Ah2, ch2, rfl, rfl, p0, p1, p2, r0, r1, r2, hn1, hn2, hh1, hh2, HK1, HH1, HK2, HH2, HBX⟩ := hcut
    have y1 := conv_str (cap := ch1) HH1.out
    have y2 := conv_str (cap := ch2) HH2.out
    clear x1 x2
    go_wp2_with fail
    have hl7 : b7 < wc.heap.size := World.block_lt_of_cell? _ _ p0
    have hl8 : b8 < wc.heap.size := World.block_lt_of_cell? _ _ r0
    go_loopw [70] (fun i wr => RL2 wc nk i wr) (fun i _ => nk - (RowKit.intOf i).toNat)
    case atStart => exact ⟨0, rfl, Nat.zero_le _, Below.refl _ _⟩
    case round =>
      obtain ⟨j, rfl, hj, HBx⟩ := hrel
      by_cases hlt : j < nk
      · have HLT := Lib.hid hlt
        obtain ⟨a, ha⟩ : ∃ a, ks1[j]? = some a := ⟨_, List.getElem?_eq_getElem (by rw [HNK.out]; exact hlt)⟩
        obtain ⟨b, hb, hkk, hll, hfa, hfb⟩ := KS.at HKS.out j a ha
        obtain ⟨B1, off1, rfl, hB1, u0, u1⟩ := HK1.out.cell ha
        obtain ⟨B2, off2, rfl, hB2, v0, v1⟩ := HK2.out.cell hb
        obtain ⟨ka, ca⟩ := a
        obtain ⟨kb, cb⟩ := b
        simp only at hkk hll hfa hfb u0 u1 v0 v1
        subst hkk
        have u0' := (HBx.out.cell (p := ⟨B1, off1 + j * 2, none⟩) hB1).trans u0
        have u1' := (HBx.out.cell (p := ⟨B1, off1 + j * 2 + 1, none⟩) hB1).trans u1
        have v0' := (HBx.out.cell (p := ⟨B2, off2 + j * 2, none⟩) hB2).trans v0
        have v1' := (HBx.out.cell (p := ⟨B2, off2 + j * 2 + 1, none⟩) hB2).trans v1
        have r0' := (HBx.out.cell (p := ⟨b8, 0, none⟩) hl8).trans r0
        have hsx := HBx.out.size
        have m1 : (j : Int) < (nk : Int) := by omega
        clear u0 u1 v0 v1
        go_upto_region 12 with fail
        obtain ⟨wk, hwk⟩ : ∃ wk, wr.alloc (.cells #[.int .i64 ka, .int .i64 ca] 62) = wk := ⟨_, rfl⟩
        have hbk : Below wr.heap.size wr wk := by rw [← hwk]; exact (Below.refl _ _).alloc (Nat.le_refl _) _
        have hBk : Blk wk wr.heap.size #[.int .i64 ka, .int .i64 ca] 62 := by rw [← hwk]; exact Blk.new _ _ _
        have v0'' := (hbk.cell (p := ⟨B2, off2 + j * 2, none⟩) (by show B2 < _; omega)).trans v0'
        have v1'' := (hbk.cell (p := ⟨B2, off2 + j * 2 + 1, none⟩) (by show B2 < _; omega)).trans v1'
        have r0'' := (hbk.cell (p := ⟨b8, 0, none⟩) (by show b8 < _; omega)).trans r0'
        have HBk := Lib.hid hbk
        have HKk := Lib.hid hBk
        rw [hwk]
        clear hwk hbk hBk u0' u1' v0' v1' r0'
        go_upto_region 13 with fail
        obtain ⟨wl, hwl⟩ : ∃ wl, wk.alloc (.cells #[.int .i64 ka, .int .i64 cb] 62) = wl := ⟨_, rfl⟩
        have hbl : Below wk.heap.size wk wl := by rw [← hwl]; exact (Below.refl _ _).alloc (Nat.le_refl _) _
        have hBl : Blk wl wk.heap.size #[.int .i64 ka, .int .i64 cb] 62 := by rw [← hwl]; exact Blk.new _ _ _
        have hBk' := HKk.out.but (But.of_below (S := []) hbl) List.not_mem_nil
        have HKl := Lib.hid hBl
        have HKk' := Lib.hid hBk'
        have HBl := Lib.hid (HBx.out.trans ((HBk.out.trans (hbl.mono HBk.out.size)).mono HBx.out.size))
        rw [hwl]
        clear hwl hbl hBl hBk' v0'' v1'' r0'' HKk HBk
        obtain ⟨nn, hnn⟩ : ∃ nn, (enc ca).length = nn := ⟨_, rfl⟩
        have hnn2 : (enc cb).length = nn := by rw [← hll]; exact hnn
        have HP1 : Hid (∀ V, Hid (Below wl.heap.size wl V) → Calls Tryd.prog 26 #[.int .i64 ca] V fun e w' => ∃ A9 cp, e = .returned (.slice A9 nn cp) ∧ Hid (Below wl.heap.size wl w')) := fun V hV => (refPut ca V hfa).mono fun e w' ⟨v, he, ho, hb⟩ => by
          obtain ⟨A9, cp, rfl, _⟩ := OwnB.form ho
          rw [hnn] at he
          exact ⟨A9, cp, he, hV.out.trans (hb.mono hV.out.size)⟩
        have HP2 : Hid (∀ V, Hid (Below wl.heap.size wl V) → Calls Tryd.prog 26 #[.int .i64 cb] V fun e w' => ∃ A9 cp, e = .returned (.slice A9 nn cp) ∧ Hid (Below wl.heap.size wl w')) := fun V hV => (refPut cb V hfb).mono fun e w' ⟨v, he, ho, hb⟩ => by
          obtain ⟨A9, cp, rfl, _⟩ := OwnB.form ho
          rw [hnn2] at he
          exact ⟨A9, cp, he, hV.out.trans (hb.mono hV.out.size)⟩
        have HSL : Hid (∀ V, Hid (Below wl.heap.size wl V) → V.cell? ⟨wr.heap.size, 0, none⟩ = some (.int .i64 ka) ∧ V.cell? ⟨wr.heap.size, 1, none⟩ = some (.int .i64 ca) ∧ V.cell? ⟨wk.heap.size, 0, none⟩ = some (.int .i64 ka) ∧ V.cell? ⟨wk.heap.size, 1, none⟩ = some (.int .i64 cb)) := fun V hV => by
          have h1 := HKk'.out.but (But.of_below (S := []) hV.out) List.not_mem_nil
          have h2 := HKl.out.but (But.of_below (S := []) hV.out) List.not_mem_nil
          exact ⟨h1.cell rfl, h1.cell rfl, h2.cell rfl, h2.cell rfl⟩
        have cB0 : Hid (Below wl.heap.size wl wl) := Below.refl _ _
        obtain ⟨s0, s1, s2, s3⟩ := HSL.out wl cB0
        clear hnn hnn2 hll hfa hfb
        go_region_held3 (fun V => V.cell? ⟨wr.heap.size, 0, none⟩ = some (.int .i64 ka) ∧ V.cell? ⟨wr.heap.size, 1, none⟩ = some (.int .i64 ca) ∧ V.cell? ⟨wk.heap.size, 0, none⟩ = some (.int .i64 ka) ∧ V.cell? ⟨wk.heap.size, 1, none⟩ = some (.int .i64 cb))
          (first | (with_reducible assumption) | go_keep)
          (first
          | (go_at_call 26; (with_reducible refine (HP1.out _ ?_).mono ?_); (first | exact hb_drew cB0); rintro e v1 ⟨A9, cp9, rfl, hbv1⟩; obtain ⟨t0, t1, t2, t3⟩ := HSL.out _ hbv1)
          | (go_at_call 26; (with_reducible refine (HP2.out _ ?_).mono ?_); (with_reducible assumption); rintro e v2 ⟨A10, cp10, rfl, hbv2⟩; obtain ⟨t0, t1, t2, t3⟩ := HSL.out _ hbv2))
        go_wp2_with fail
        go_roundw
        case rel => exact ⟨j + 1, by go_num, HLT.out, HBl.out.trans (hbv2.out.mono HBl.out.size)⟩
        case measure => have := HLT.out; simp [RowKit.intOf]; omega
      · have hj' : j = nk := by omega
        subst hj'
        clear hlt
        go_wp2_with fail
        go_ret
        exact ⟨rfl, (HBW.out.trans (HBX.out.mono HBW.out.size)).trans (HBx.out.mono (HBW.out.trans (HBX.out.mono HBW.out.size)).size)⟩

theorem walk (l : List UInt8) (A : Option Addr) (cap : Nat) (z : Int) (w : World) (hT : Tabs w) (hA : BytesAt w A l) (hcap : l.length ≤ cap) (_ : l.length ≤ 140737488355328) (_ : (Lit.int .i64 z).wf = true) :
    Calls Tryd.prog 8 #[.slice A l.length cap, .int .i64 z] w fun e w' => e = .returned (.bool true) ∧ Below w.heap.size w w' := by
  by_cases h : 800 < l.length
  · exact walk_long l.length z A cap w hT h
  · exact walk_short l z A cap w hT hA hcap (by omega)

end Go.Proofs.YtbflcikfaoojmaaDoor.TwinKeys

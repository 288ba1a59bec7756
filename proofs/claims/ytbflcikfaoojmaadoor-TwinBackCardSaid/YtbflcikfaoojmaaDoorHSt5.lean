/- The stable sort's insertions: plain, and walked. -/
import Derived.Deep.RegionHeld3
import Derived.Deep.QuietTactic
import Derived.BigQuiet
import Derived.Test.YtbflcikfaoojmaaDoorGS1
set_option linter.unusedVariables false
set_option linter.unusedSimpArgs false
namespace Go.Proofs.YtbflcikfaoojmaaDoor.Edit
open Go.RowKit Go.Lib ChangeShapes Mem

section
variable (key : Int → Int)
theorem mrg_end {l r : List Int} (h : ∀ x ∈ l, ∀ y ∈ r, ¬ key y < key x) : mrg key l r = l ++ r := by
  have := mrg_split key _ l [] [] r (Nat.le_refl _) h (by simp)
  rw [List.append_nil, List.nil_append, mrg_nil, nil_mrg] at this
  exact this
/-- one number at its place among those ahead of it -/
theorem ins_ok {G : Nat → Int} {a j i : Nat} (h1 : a ≤ j) (h2 : j ≤ i) (hs : Srt key (sg G a i)) (hgt : ∀ t, j ≤ t → t < i → key (G i) < key (G t)) (hle : a < j → key (G (j - 1)) ≤ key (G i)) :
    Mrgd key G (rotR G j i (i + 1)) a i (i + 1) := by
  refine ⟨?_, fun t ht => by unfold rotR; rw [if_neg (by omega), if_neg (by omega)]⟩
  have e1 := sg_append (rotR G j i (i + 1)) (show a ≤ j by omega) (show j ≤ i + 1 by omega)
  have e2 := sg_append (rotR G j i (i + 1)) (show j ≤ j + (i + 1 - i) by omega) (show j + (i + 1 - i) ≤ i + 1 by omega)
  rw [e1, e2, rot_lo h1, rot_l h2 (by omega), rot_r h2 (by omega), sg_append G h1 h2, sg_one]
  have hx := mrg_split key _ (sg G a j) (sg G j i) [G i] [] (Nat.le_refl _) (by simp) (fun x hx y hy => by
    obtain ⟨t, t1, t2, rfl⟩ := sg_mem.1 hx
    have : y = G i := by simpa using hy
    subst this
    exact hgt t t1 t2)
  rw [List.append_nil, mrg_nil] at hx
  rw [hx, mrg_end key (l := sg G a j) (r := [G i]) (fun x hx y hy => by
    obtain ⟨t, t1, t2, rfl⟩ := sg_mem.1 hx
    have hy' : y = G i := by simpa using hy
    subst hy'
    have := hle (by omega)
    have := srt_le key hs t1 (show t ≤ j - 1 by omega) (by omega)
    omega), List.append_assoc]
end

/-- one exchange down -/
theorem rot_step (G : Nat → Int) (j i : Nat) (hj : 1 ≤ j) (hji : j ≤ i) (t : Nat) : (if t = j - 1 then rotR G j i (i + 1) j else if t = j then rotR G j i (i + 1) (j - 1) else rotR G j i (i + 1) t) = rotR G (j - 1) i (i + 1) t := by
  have r1 : rotR G j i (i + 1) j = G i := by unfold rotR; rw [if_pos (by omega)]; congr 1; omega
  have r2 : rotR G j i (i + 1) (j - 1) = G (j - 1) := by unfold rotR; rw [if_neg (by omega), if_neg (by omega)]
  rw [r1, r2]
  by_cases h1 : t = j - 1
  · rw [if_pos h1]; unfold rotR; rw [if_pos (by omega)]; congr 1; omega
  · rw [if_neg h1]
    by_cases h2 : t = j
    · rw [if_pos h2]; unfold rotR; rw [if_neg (by omega), if_pos (by omega)]; congr 1; omega
    · rw [if_neg h2]
      unfold rotR
      by_cases h3 : j < t ∧ t ≤ i
      · rw [if_neg (by omega), if_pos (by omega), if_neg (by omega), if_pos (by omega)]
      · rw [if_neg (by omega), if_neg (by omega), if_neg (by omega), if_neg (by omega)]
theorem rot_same (G : Nat → Int) (i t : Nat) : rotR G i i (i + 1) t = G t := by
  unfold rotR
  by_cases h : t = i
  · subst h; rw [if_pos (by omega)]; congr 1; omega
  · rw [if_neg (by omega), if_neg (by omega)]
theorem rot_dom {D : Int → Prop} {G : Nat → Int} {n s m e : Nat} (h : ∀ t, t < n → D (G t)) (h1 : s ≤ m) (h2 : m ≤ e) (h3 : e ≤ n) : ∀ t, t < n → D (rotR G s m e t) := by
  intro t ht
  unfold rotR
  split
  · exact h _ (by omega)
  · split
    · exact h _ (by omega)
    · exact h _ ht

/-- the comparing closure, by a key of the numbers -/
def CmpOk (key : Int → Int) (D : Int → Prop) (g bx : Nat) (w : World) : Prop := ∀ (V : World) (x y : Int), But [g] w V → D x → D y →
  Calls Tryd.prog 52 #[.int .i64 x, .int .i64 y, .pointer (some ⟨bx, 0, none⟩)] V fun e w' => ∃ c : Int, e = .returned (.int .i64 c) ∧ (c < 0 ↔ key x < key y) ∧ Below V.heap.size V w'
theorem CmpOk.but {key : Int → Int} {D : Int → Prop} {g bx : Nat} {w w' : World} (h : CmpOk key D g bx w) (hb : But [g] w w') : CmpOk key D g bx w' := fun V x y hV hx hy => h V x y (hb.trans hV) hx hy
abbrev cmpV (bx : Nat) : Value := .func (.func 52) #[] #[.pointer (some ⟨bx, 0, none⟩)]

theorem st_drew {g : Nat} {w V : World} (h : Hid (But [g] w V)) : Hid (But [g] w V.drew) := But.drew h.out
theorem st_drewN {g : Nat} {w V : World} (h : Hid (But [g] w V)) (n : Nat) : Hid (But [g] w (V.drewN n)) := ⟨h.out.os, h.out.tape, h.out.output, h.out.size, h.out.block⟩
/-- the outer loop -/
def RIo (key : Int → Int) (D : Int → Prop) (w : World) (g nn : Nat) (F : Nat → Int) (a b : Nat) (s : Value) (wr : World) : Prop :=
  ∃ (i : Nat) (G : Nat → Int), s = .int .i64 (i : Int) ∧ a < i ∧ i ≤ b + 1 ∧ (a < b → i ≤ b) ∧ Hid (IR wr g nn G) ∧ Hid (But [g] w wr) ∧ Hid (∀ t, t < nn → D (G t)) ∧ Hid (sg G a (min i b) = srtE key (sg F a (min i b)) ∧ ∀ t, (t < a ∨ min i b ≤ t) → G t = F t)
/-- the inner loop -/
def RIi (key : Int → Int) (w : World) (g nn : Nat) (G : Nat → Int) (a i : Nat) (s : Value) (wr : World) : Prop :=
  ∃ j : Nat, s = .int .i64 (j : Int) ∧ a ≤ j ∧ j ≤ i ∧ Hid (IR wr g nn (rotR G j i (i + 1))) ∧ Hid (But [g] w wr) ∧ Hid (∀ t, j ≤ t → t < i → key (G i) < key (G t))

set_option maxRecDepth 100000 in
set_option maxHeartbeats 4000000 in
theorem insertion_c (key : Int → Int) (D : Int → Prop) (g nn cap : Nat) (F : Nat → Int) (a b bx : Nat) (w : World) (h : IR w g nn F) (hD : ∀ t, t < nn → D (F t)) (hab : a ≤ b) (hb : b ≤ nn) (hnn : nn ≤ 100000) (hC : CmpOk key D g bx w) :
    Calls Tryd.prog 67 #[.slice (some ⟨g, 0, none⟩) nn cap, .int .i64 (a : Int), .int .i64 (b : Int), cmpV bx] w fun e w' => (∃ u, e = .returned u) ∧ ∃ G, IR w' g nn G ∧ (∀ t, t < nn → D (G t)) ∧ sg G a b = srtE key (sg F a b) ∧ (∀ t, (t < a ∨ b ≤ t) → G t = F t) ∧ But [g] w w' := by
  have H := Lib.hid h
  have HD := Lib.hid hD
  have HC := Lib.hid hC
  clear h hD hC
  have s1 : IntKind.i64.wrap ((a : Int) + 1) = ((a + 1 : Nat) : Int) := by rw [IntWalk.i64_in _ (by omega)]; omega
  unfold cmpV
  go_enter Tryd.func67, Tryd.ntmps67
  go_wp2
  go_loopw [8] (fun s wr => RIo key D w g nn F a b s wr) (fun s _ => b + 1 - (RowKit.intOf s).toNat)
  case atStart =>
    refine ⟨a + 1, F, by go_num, by omega, by omega, fun h => h, H.out, But.refl _ _, HD.out, ?_⟩
    rcases Nat.lt_or_eq_of_le hab with hlt | rfl
    · rw [Nat.min_eq_left (by omega), sg_one, srtE_one]
      exact ⟨rfl, fun _ _ => rfl⟩
    · rw [Nat.min_eq_right (by omega), sg_nil]
      exact ⟨rfl, fun _ _ => rfl⟩
  case round =>
    obtain ⟨i, G, rfl, hai, hib, hib', HI, HB, HDG, HS⟩ := hrel
    by_cases hlt : i < b
    · have HLT := Lib.hid hlt
      have hmi : min i b = i := by omega
      have hs := HS.out
      rw [hmi] at hs
      have HS' := Lib.hid hs
      have hso : Srt key (sg G a i) := by rw [hs.1]; exact srtE_srt key _
      have HSO := Lib.hid hso
      -- the outer round's end
      have hout : ∀ (j : Nat), a ≤ j → j ≤ i → (∀ t, j ≤ t → t < i → key (G i) < key (G t)) → (a < j → key (G (j - 1)) ≤ key (G i)) → sg (rotR G j i (i + 1)) a (min (i + 1) b) = srtE key (sg F a (min (i + 1) b)) ∧ ∀ t, (t < a ∨ min (i + 1) b ≤ t) → rotR G j i (i + 1) t = F t := by
        intro j h1 h2 h3 h4
        have hmg := ins_ok key h1 h2 hso h3 h4
        rw [Nat.min_eq_left (show i + 1 ≤ b by omega)]
        refine ⟨?_, fun t ht => by rw [hmg.2 t ht, hs.2 t (by omega)]⟩
        rw [hmg.1, sg_append F (show a ≤ i by omega) (show i ≤ i + 1 by omega), srt_append, hs.1, sg_one, sg_one, srtE_one, hs.2 i (.inr (Nat.le_refl _))]
      have HOUT := Lib.hid hout
      clear hs hso hout hmi HS
      go_wp2_with fail
      go_loopw [9] (fun s wr2 => RIi key w g nn G a i s wr2) (fun s _ => (RowKit.intOf s).toNat)
      case atStart => exact ⟨i, rfl, by omega, Nat.le_refl _, HI.out.congr (fun t _ => (rot_same G i t).symm), HB.out, fun t h1 h2 => by omega⟩
      case round =>
        obtain ⟨j, rfl, haj, hji, HIj, HBj, HG⟩ := hrel
        have HLT' := HLT.out
        by_cases hja : a < j
        · have x0 := HIj.out.cell (t := j) (by omega)
          have x1 := HIj.out.cell (t := j - 1) (by omega)
          have y0 := HIj.out.free j
          have y1 := HIj.out.free (j - 1)
          have r1 : rotR G j i (i + 1) j = G i := by unfold rotR; rw [if_pos (by omega)]; congr 1; omega
          have r2 : rotR G j i (i + 1) (j - 1) = G (j - 1) := by unfold rotR; rw [if_neg (by omega), if_neg (by omega)]
          rw [r1] at x0
          rw [r2] at x1
          obtain ⟨q, hq⟩ : ∃ q, j - 1 = q := ⟨_, rfl⟩
          have s2 : IntKind.i64.wrap ((j : Int) - 1) = (q : Int) := by rw [← hq, IntWalk.i64_in _ (by omega)]; omega
          rw [hq] at x1 y1
          have hdx := HDG.out i (by omega)
          have hdy := HDG.out q (by omega)
          obtain ⟨gi, hgi⟩ : ∃ gi, G i = gi := ⟨_, rfl⟩
          obtain ⟨gq, hgq⟩ : ∃ gq, G q = gq := ⟨_, rfl⟩
          rw [hgi] at x0 hdx
          rw [hgq] at x1
          rw [hgq] at hdy
          have HCC : Hid (∀ V, Hid (But [g] w V) → Calls Tryd.prog 52 #[.int .i64 gi, .int .i64 gq, .pointer (some ⟨bx, 0, none⟩)] V fun e w' => ∃ c : Int, e = .returned (.int .i64 c) ∧ (c < 0 ↔ key gi < key gq) ∧ Hid (But [g] w w') ∧ Hid (Below V.heap.size V w')) := fun V hV => (HC.out V gi gq hV.out hdx hdy).mono fun e w' ⟨c, h1, h2, h3⟩ => ⟨c, h1, h2, hV.out.trans (But.of_below h3), h3⟩
          have hjn : j < nn := by omega
          have hqn : q < nn := by omega
          have hjq : ¬ j = q := by omega
          have hqj : ¬ q = j := by omega
          have m1 : (j : Int) < (nn : Int) := by omega
          have m2 : (q : Int) < (nn : Int) := by omega
          have m3 : decide ((a : Int) < (j : Int)) = true := by simp; omega
          have HX : Hid (∀ V, Hid (Below wr.heap.size wr V) → V.cell? ⟨g, j, none⟩ = some (.int .i64 gi) ∧ V.cell? ⟨g, q, none⟩ = some (.int .i64 gq)) := fun V hV => ⟨(hV.out.cell (p := ⟨g, j, none⟩) HIj.out.lt).trans x0, (hV.out.cell (p := ⟨g, q, none⟩) HIj.out.lt).trans x1⟩
          have HIJ := HIj
          go_wp2_with fail
          go_region_held3 (fun V => V.cell? ⟨g, j, none⟩ = some (.int .i64 gi) ∧ V.cell? ⟨g, q, none⟩ = some (.int .i64 gq))
            (first | (with_reducible assumption) | go_keep)
            (first
            | (go_at_call 52; (with_reducible refine (HCC.out _ ?_).mono ?_); (with_reducible exact st_drew HBj); rintro e v1 ⟨c, rfl, hc, hbv, hbw⟩; have hbr : Hid (Below wr.heap.size wr v1) := Below.trans (Below.drew (Below.refl _ _)) hbw.out; obtain ⟨t0, t1⟩ := HX.out _ hbr))
          have HI1 := Lib.hid (HIj.out.but (But.of_below (S := []) hbr.out) List.not_mem_nil)
          have z0 := HI1.out.free j
          have z1 := HI1.out.free q
          clear hc
          by_cases hlk : key gi < key gq
          · have m4 : decide (key gi < key gq) = true := by simp [hlk]
            have HGN : Hid (∀ t, q ≤ t → t < i → key (G i) < key (G t)) := by
              intro t h1 h2
              by_cases e : t = q
              · subst e; rw [hgi, hgq]; exact hlk
              · exact HG.out t (by omega) h2
            have HRS : Hid (∀ t, (if t = q then gi else if t = j then gq else rotR G j i (i + 1) t) = rotR G q i (i + 1) t) := by
              intro t
              have := rot_step G j i (by omega) hji t
              rw [r1, r2, hq, hgi, hgq] at this
              exact this
            go_wp2_with fail
            go_region
            all_goals go_wp2
            go_roundw
            case rel =>
              refine ⟨q, rfl, by omega, by omega, ?_, ?_, HGN.out⟩
              · have h1 := (HI1.out.set j gq).set q gi
                exact IR.congr (show IR _ g nn _ from h1) (fun t _ => HRS.out t)
              · exact ((hbv.out.set (p := ⟨g, j, none⟩) (.inl (by simp)) _).set (p := ⟨g, q, none⟩) (.inl (by simp)) _).drew
            case measure => simp [RowKit.intOf]; omega
          · have m4 : decide (key gi < key gq) = false := by simp; omega
            have ho := HOUT.out j (by omega) hji HG.out (fun _ => by rw [hq, hgi, hgq]; omega)
            have HO := Lib.hid ho
            clear ho
            go_wp2_with fail
            go_roundw
            case rel => exact ⟨i + 1, rotR G j i (i + 1), by go_num, by omega, by omega, fun _ => by omega, HI1.out, hbv.out, fun t ht => rot_dom HDG.out (by omega) (by omega) (by omega) t ht, HO.out⟩
            case measure => simp [RowKit.intOf]; omega
        · have hja' : j = a := by omega
          subst hja'
          have m3 : decide ((j : Int) < (j : Int)) = false := by simp
          have ho := HOUT.out j (Nat.le_refl _) hji HG.out (fun h => by omega)
          have HO := Lib.hid ho
          clear ho
          go_wp2_with fail
          go_quiet (fail)
          go_wp2_with fail
          go_roundw
          case rel => exact ⟨i + 1, rotR G j i (i + 1), by go_num, by omega, by omega, fun _ => by omega, HIj.out.drew _, st_drewN HBj nq, fun t ht => rot_dom HDG.out (by omega) (by omega) (by omega) t ht, HO.out⟩
          case measure => simp [RowKit.intOf]; omega
    · have hge : decide ((i : Int) < (b : Int)) = false := by simp; omega
      have hm : min i b = b := by omega
      have hs := HS.out
      rw [hm] at hs
      clear hlt
      go_wp2_with fail
      go_end0
      exact ⟨⟨_, rfl⟩, G, HI.out, HDG.out, hs.1, hs.2, HB.out⟩

end Go.Proofs.YtbflcikfaoojmaaDoor.Edit

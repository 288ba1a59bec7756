/- Texts joined: St10; St12; Pl2; PlD; Pl3. -/
import Derived.Test.YtbflcikfaoojmaaDoorHSt8
import Derived.Test.YtbflcikfaoojmaaDoorHSt9
import Derived.Test.YtbflcikfaoojmaaDoorGS1
import Derived.Test.YtbflcikfaoojmaaDoorGS2
import Derived.Test.YtbflcikfaoojmaaDoorGT4
/- The stable sort's merges, whole. -/
set_option linter.unusedVariables false
set_option linter.unusedSimpArgs false
namespace Go.Proofs.YtbflcikfaoojmaaDoor.Edit
open Go.RowKit Go.Lib ChangeShapes Mem

theorem sym_c (key : Int → Int) (D : Int → Prop) (g nn cap bx : Nat) (hnn : nn ≤ 100000) : ∀ (k : Nat) (F : Nat → Int) (a m b : Nat) (w : World), b - a ≤ k → IR w g nn F → (∀ t, t < nn → D (F t)) → a < m → m < b → b ≤ nn → Srt key (sg F a m) → Srt key (sg F m b) → CmpOk key D g bx w →
    Calls Tryd.prog 68 #[.slice (some ⟨g, 0, none⟩) nn cap, .int .i64 (a : Int), .int .i64 (m : Int), .int .i64 (b : Int), cmpV bx] w (SymPost key D g nn F a m b w) := by
  intro k
  induction k with
  | zero => intro F a m b w hk _ _ h1 h2; omega
  | succ k ih =>
    intro F a m b w hk h hD ham hmb hb hl hr hC
    by_cases h1 : m = a + 1
    · exact sym_one key D g nn cap F a m b bx w h hD h1 hmb hb hnn hr hC
    · by_cases h2 : b = m + 1
      · exact sym_last key D g nn cap F a m b bx w h hD (by omega) h2 hb hnn hl hC
      · by_cases hx : (a + b) / 2 < m
        · exact sym_gen1 key D g nn cap F a m b bx w h hD (by omega) (by omega) hb hnn hl hr hC hx (fun F' a' m' b' w' hlt => ih F' a' m' b' w' (by omega))
        · exact sym_gen2 key D g nn cap F a m b bx w h hD (by omega) (by omega) hb hnn hl hr hC hx (fun F' a' m' b' w' hlt => ih F' a' m' b' w' (by omega))

end Go.Proofs.YtbflcikfaoojmaaDoor.Edit

/- The stable sort, walked. -/
set_option linter.unusedVariables false
set_option linter.unusedSimpArgs false
namespace Go.Proofs.YtbflcikfaoojmaaDoor.Edit
open Go.RowKit Go.Lib ChangeShapes Mem

def S1 (key : Int → Int) (D : Int → Prop) (w : World) (g nn : Nat) (F : Nat → Int) (s t : Value) (wr : World) : Prop :=
  ∃ (a : Nat) (G : Nat → Int), s = .int .i64 (a : Int) ∧ t = .int .i64 ((a + 20 : Nat) : Int) ∧ a ≤ nn ∧ Hid (BS 20 a) ∧ Hid (∀ a', BS 20 a' → a' < a → Bk key F G nn 20 a') ∧ Hid (∀ t, a ≤ t → G t = F t) ∧ Hid (IR wr g nn G) ∧ Hid (∀ t, t < nn → D (G t)) ∧ Hid (But [g] w wr)
def S2 (key : Int → Int) (D : Int → Prop) (w : World) (g nn : Nat) (F : Nat → Int) (s : Value) (wr : World) : Prop :=
  ∃ (d : Nat) (G : Nat → Int), s = .int .i64 (d : Int) ∧ 20 ≤ d ∧ d ≤ 2 * nn + 40 ∧ Hid (∀ a', BS d a' → a' < nn → Bk key F G nn d a') ∧ Hid (IR wr g nn G) ∧ Hid (∀ t, t < nn → D (G t)) ∧ Hid (But [g] w wr)
def S3 (key : Int → Int) (D : Int → Prop) (w : World) (g nn : Nat) (F : Nat → Int) (d dd : Nat) (s t : Value) (wr : World) : Prop :=
  ∃ (a : Nat) (G : Nat → Int), s = .int .i64 (a : Int) ∧ t = .int .i64 ((a + dd : Nat) : Int) ∧ a ≤ nn ∧ Hid (BS (2 * d) a) ∧ Hid (∀ a', BS (2 * d) a' → a' < a → Bk key F G nn (2 * d) a') ∧ Hid (∀ a', BS d a' → a ≤ a' → a' < nn → Bk key F G nn d a') ∧ Hid (IR wr g nn G) ∧ Hid (∀ t, t < nn → D (G t)) ∧ Hid (But [g] w wr)

set_option maxRecDepth 100000 in
set_option maxHeartbeats 20000000 in
theorem stable_c (key : Int → Int) (D : Int → Prop) (g nn cap : Nat) (F : Nat → Int) (bx : Nat) (w : World) (h : IR w g nn F) (hD : ∀ t, t < nn → D (F t)) (hnn : nn ≤ 100000) (hC : CmpOk key D g bx w) :
    Calls Tryd.prog 63 #[.slice (some ⟨g, 0, none⟩) nn cap, .int .i64 (nn : Int), cmpV bx] w fun e w' => (∃ u, e = .returned u) ∧ ∃ G, IR w' g nn G ∧ (∀ t, t < nn → D (G t)) ∧ sg G 0 nn = srtE key (sg F 0 nn) ∧ But [g] w w' := by
  have H := Lib.hid h
  have HD := Lib.hid hD
  have HC := Lib.hid hC
  clear h hD hC
  unfold cmpV
  go_enter Tryd.func63, Tryd.ntmps63
  go_wp2
  go_loopw [7, 8] (fun s t wr => S1 key D w g nn F s t wr) (fun s _ _ => nn - (RowKit.intOf s).toNat)
  case atStart => exact ⟨0, F, rfl, rfl, Nat.zero_le _, BS.zero _, fun a' _ h => by omega, fun _ _ => rfl, H.out, HD.out, But.refl _ _⟩
  case round =>
    obtain ⟨a, G, rfl, rfl, han, HBS, HBK, HSM, HI, HDG, HB⟩ := hrel
    by_cases hlt : a + 20 ≤ nn
    · have HLT := Lib.hid hlt
      have H67 := Lib.hid (insertion_c key D g nn cap G a (a + 20) bx wr HI.out HDG.out (by omega) hlt hnn (HC.out.but HB.out))
      have s1 : IntKind.i64.wrap (((a + 20 : Nat) : Int) + 20) = ((a + 20 + 20 : Nat) : Int) := by rw [IntWalk.i64_in _ (by omega)]; omega
      have t1 : a + 20 ≤ nn := hlt
      obtain ⟨a2, ha2⟩ : ∃ a2, a + 20 = a2 := ⟨_, rfl⟩
      have HA2 := Lib.hid ha2
      rw [ha2] at s1 t1 H67 ⊢
      clear ha2 hlt
      unfold cmpV at H67
      go_wp2_with fail
      refine (H67.out).mono ?_
      rintro e w1 ⟨⟨u, rfl⟩, G1, hi1, hd1, hs1, ho1, hb1⟩
      have HI1 := Lib.hid hi1
      have HD1 := Lib.hid hd1
      have HS1 := Lib.hid hs1
      have HO1 := Lib.hid ho1
      have HB1 := Lib.hid (HB.out.trans hb1)
      clear hi1 hd1 hs1 ho1 hb1 H67
      go_wp2_with fail
      go_roundw
      case rel =>
        have ha2 := HA2.out
        have hlt := HLT.out
        subst ha2
        refine ⟨a + 20, G1, rfl, rfl, hlt, HBS.out.step, ?_, fun t ht => by rw [HO1.out t (.inr ht)]; exact HSM.out t (by omega), HI1.out, HD1.out, HB1.out⟩
        exact Bk.next key HBS.out HBK.out HSM.out (a + 20) (by omega) han HS1.out HO1.out
      case measure => have := HA2.out; have := HLT.out; simp [RowKit.intOf]; omega
    · have t1 : ¬ a + 20 ≤ nn := hlt
      have H67 := Lib.hid (insertion_c key D g nn cap G a nn bx wr HI.out HDG.out han (Nat.le_refl _) hnn (HC.out.but HB.out))
      have HLT := Lib.hid hlt
      obtain ⟨a2, ha2⟩ : ∃ a2, a + 20 = a2 := ⟨_, rfl⟩
      rw [ha2] at t1 ⊢
      clear ha2 hlt
      unfold cmpV at H67
      go_wp2_with fail
      refine (H67.out).mono ?_
      rintro e w1 ⟨⟨u, rfl⟩, G1, hi1, hd1, hs1, ho1, hb1⟩
      have HI1 := Lib.hid hi1
      have HD1 := Lib.hid hd1
      have HB1 := Lib.hid (HB.out.trans hb1)
      have HBK1 : Hid (∀ a', BS 20 a' → a' < nn → Bk key F G1 nn 20 a') := fun a' h1 h2 => Bk.next key HBS.out HBK.out HSM.out nn (by have := HLT.out; omega) han hs1 ho1 a' h1 (by have := HLT.out; omega)
      clear hi1 hd1 hs1 ho1 hb1 H67 HBK HSM HI HDG HB HBS HLT han
      go_wp2_with fail
      go_loopw [6] (fun s wr => S2 key D w g nn F s wr) (fun s _ => nn - (RowKit.intOf s).toNat)
      case atStart => exact ⟨20, G1, rfl, Nat.le_refl _, by omega, HBK1.out, HI1.out, HD1.out, HB1.out⟩
      case round =>
        clear HBK1 HI1 HD1 HB1
        obtain ⟨d, G2, rfl, hd20, hdn, HBK, HI, HDG, HB⟩ := hrel
        by_cases hlt : d < nn
        · have HLT := Lib.hid hlt
          obtain ⟨dd, hdd⟩ : ∃ dd, 2 * d = dd := ⟨_, rfl⟩
          have s1 : IntKind.i64.wrap (2 * (d : Int)) = (dd : Int) := by rw [IntWalk.i64_in _ (by omega)]; omega
          have s2 : IntKind.i64.wrap ((d : Int) * 2) = (dd : Int) := by rw [IntWalk.i64_in _ (by omega)]; omega
          have HDD := Lib.hid hdd
          clear hdd
          go_wp2_with fail
          go_loopw [7, 8] (fun s t wr => S3 key D w g nn F d dd s t wr) (fun s _ _ => nn - (RowKit.intOf s).toNat)
          case atStart => exact ⟨0, G2, rfl, by simp, Nat.zero_le _, BS.zero _, fun a' _ h => by omega, fun a' h1 _ h3 => HBK.out a' h1 h3, HI.out, HDG.out, HB.out⟩
          case round =>
            clear HBK HI HDG HB
            obtain ⟨a3, G3, rfl, rfl, han, HBS, HBK, HB2, HI, HDG, HB⟩ := hrel
            by_cases hle : a3 + dd ≤ nn
            · have HLE := Lib.hid hle
              have hdd0 := HDD.out
              have H68 := Lib.hid (sym_c key D g nn cap bx hnn nn G3 a3 (a3 + d) (a3 + dd) wr (by omega) HI.out HDG.out (by omega) (by omega) hle (by
                  have := Bk.srt key (HB2.out a3 HBS.out.half (Nat.le_refl _) (by omega))
                  rw [Nat.min_eq_left (by omega)] at this
                  exact this) (by
                  have := Bk.srt key (HB2.out (a3 + d) HBS.out.half.step (by omega) (by omega))
                  rw [Nat.min_eq_left (by omega), show a3 + d + d = a3 + dd by omega] at this
                  exact this) (HC.out.but HB.out))
              obtain ⟨m3, hm3⟩ : ∃ m3, a3 + d = m3 := ⟨_, rfl⟩
              have s3 : IntKind.i64.wrap ((a3 : Int) + (d : Int)) = (m3 : Int) := by rw [IntWalk.i64_in _ (by omega)]; omega
              obtain ⟨b3, hb3⟩ : ∃ b3, a3 + dd = b3 := ⟨_, rfl⟩
              have s4 : IntKind.i64.wrap ((b3 : Int) + (dd : Int)) = ((b3 + dd : Nat) : Int) := by rw [IntWalk.i64_in _ (by omega)]; omega
              have HM3 := Lib.hid hm3
              have HB3 := Lib.hid hb3
              have t3 : b3 ≤ nn := by omega
              rw [hb3] at H68 ⊢
              rw [hm3] at H68
              clear hm3 hb3 hle hdd0
              unfold cmpV SymPost at H68
              go_wp2_with fail
              refine (H68.out).mono ?_
              rintro e w1 ⟨⟨u, rfl⟩, G4, hi1, hd1, hm1, hb1⟩
              have HI1 := Lib.hid hi1
              have HD1 := Lib.hid hd1
              have HMM := Lib.hid hm1
              have HB1 := Lib.hid (HB.out.trans hb1)
              clear hi1 hd1 hm1 hb1 H68
              go_wp2_with fail
              go_roundw
              case rel =>
                have e1 := HM3.out
                have e2 := HB3.out
                have e3 := HDD.out
                have e4 := HLE.out
                have hmm := HMM.out
                subst e1 e3
                have := Bk.nextm key HBS.out HBK.out HB2.out (by omega) (G := G4) (by rw [Nat.min_eq_left (by omega), e2]; exact hmm)
                rw [e2] at this
                exact ⟨b3, G4, rfl, rfl, t3, by rw [← e2]; exact HBS.out.step, this.1, this.2, HI1.out, HD1.out, HB1.out⟩
              case measure => have := HB3.out; have := HDD.out; have := HLE.out; simp [RowKit.intOf]; omega
            · have HLE := Lib.hid hle
              obtain ⟨b3, hb3⟩ : ∃ b3, a3 + dd = b3 := ⟨_, rfl⟩
              rw [hb3] at hle ⊢
              have HB3 := Lib.hid hb3
              obtain ⟨m3, hm3⟩ : ∃ m3, a3 + d = m3 := ⟨_, rfl⟩
              have s3 : IntKind.i64.wrap ((a3 : Int) + (d : Int)) = (m3 : Int) := by rw [IntWalk.i64_in _ (by omega)]; omega
              have HM3 := Lib.hid hm3
              by_cases hlm : m3 < nn
              · have hdd0 := HDD.out
                have H68 := Lib.hid (sym_c key D g nn cap bx hnn nn G3 a3 m3 nn wr (by omega) HI.out HDG.out (by omega) (by omega) (Nat.le_refl _) (by
                  have := Bk.srt key (HB2.out a3 HBS.out.half (Nat.le_refl _) (by omega))
                  rw [Nat.min_eq_left (by omega), hm3] at this
                  exact this) (by
                  have := Bk.srt key (HB2.out (a3 + d) HBS.out.half.step (by omega) (by omega))
                  rw [Nat.min_eq_right (by omega), hm3] at this
                  exact this) (HC.out.but HB.out))
                clear hm3 hb3 hdd0
                unfold cmpV SymPost at H68
                go_wp2_with fail
                refine (H68.out).mono ?_
                rintro e w1 ⟨⟨u, rfl⟩, G4, hi1, hd1, hm1, hb1⟩
                have HI1 := Lib.hid hi1
                have HD1 := Lib.hid hd1
                have HMM := Lib.hid hm1
                have HB1 := Lib.hid (HB.out.trans hb1)
                clear hi1 hd1 hm1 hb1 H68
                go_wp2_with fail
                go_roundw
                case rel =>
                  have e1 := HM3.out
                  have e2 := HB3.out
                  have e3 := HDD.out
                  have e4 := HLE.out
                  have hmm := HMM.out
                  subst e1 e3
                  have := Bk.nextm key HBS.out HBK.out HB2.out hlm (G := G4) (by rw [Nat.min_eq_right (by omega)]; exact hmm)
                  exact ⟨2 * d, G4, rfl, by omega, by omega, fun a' h1 h2 => this.1 a' h1 (by omega), HI1.out, HD1.out, HB1.out⟩
                case measure => have := HDD.out; simp [RowKit.intOf]; omega
              · clear hm3 hb3
                go_wp2_with fail
                go_roundw
                case rel =>
                  have e1 := HM3.out
                  have e3 := HDD.out
                  subst e1 e3
                  exact ⟨2 * d, G3, rfl, by omega, by omega, Bk.lastn key HBS.out HBK.out HB2.out (by omega), HI.out, HDG.out, HB.out⟩
                case measure => have := HDD.out; simp [RowKit.intOf]; omega
        · have HALL := Lib.hid (Bk.all key HBK.out (by omega))
          go_wp2_with fail
          go_end0
          exact ⟨⟨_, rfl⟩, G2, HI.out, HDG.out, HALL.out, HB.out⟩

end Go.Proofs.YtbflcikfaoojmaaDoor.Edit

/- The items' order of any plan: twin.order. -/
set_option linter.unusedVariables false
set_option linter.unusedSimpArgs false
namespace Go.Proofs.YtbflcikfaoojmaaDoor.Edit
open Go.RowKit Go.Lib Go.Shelf ChangeShapes Mem Utf UtfP

set_option maxRecDepth 100000 in
set_option maxHeartbeats 1000000 in
theorem sort_c (key : Int → Int) (D : Int → Prop) (g nn cap : Nat) (F : Nat → Int) (bx : Nat) (w : World) (h : IR w g nn F) (hD : ∀ t, t < nn → D (F t)) (hnn : nn ≤ 100000) (hC : CmpOk key D g bx w) :
    Calls Tryd.prog 51 #[.slice (some ⟨g, 0, none⟩) nn cap, cmpV bx] w fun e w' => (∃ u, e = .returned u) ∧ ∃ G, IR w' g nn G ∧ (∀ t, t < nn → D (G t)) ∧ sg G 0 nn = srtE key (sg F 0 nn) ∧ But [g] w w' := by
  have H1 := Lib.hid (stable_c key D g nn cap F bx w h hD hnn hC)
  clear h hD hC
  unfold cmpV at H1 ⊢
  go_enter Tryd.func51, Tryd.ntmps51
  go_wp2_with fail
  refine (H1.out).mono ?_
  rintro e w1 ⟨⟨u, rfl⟩, G, h1, h2, h3, h4⟩
  have A1 := Lib.hid h1
  have A2 := Lib.hid h2
  have A3 := Lib.hid h3
  have A4 := Lib.hid h4
  clear h1 h2 h3 h4
  go_wp2_with fail
  go_end0
  exact ⟨⟨_, rfl⟩, G, A1.out, A2.out, A3.out, A4.out⟩

theorem make_ints (n : Nat) (hn : n ≤ 100000) (w : World) : (Instr.makeSlice 33 (.int .i64 (n : Int)) (.int .i64 (n : Int))).run Tryd.prog w = .ok (.slice (some ⟨w.heap.size, 0, none⟩) n n) (w.alloc (.cells (madeCells #[.int .i64 0] n) 3)) := by
  obtain ⟨i, hi⟩ := Option.isSome_iff_exists.1 (show (Tryd.prog.info? 3).isSome = true by kernel_rfl)
  have h1 : (Tryd.prog.info? 3).map (fun i => (i.zero, i.bytes, i.size)) = some (some (.int .i64 0), 8, 1) := by kernel_rfl
  rw [hi] at h1
  simp only [Option.map_some, Option.some.injEq, Prod.mk.injEq] at h1
  obtain ⟨hz, hb, hs⟩ := h1
  have := run_make (P := Tryd.prog) w 33 3 i (.int .i64 0) Tryd.underlying33 hi hz .i64 .i64 (n : Int) (n : Int) (by omega) (by omega) (by rw [hb]; omega) (by omega)
  rw [this, hs]
  have e : (Value.int .i64 0).cells = #[.int .i64 0] := by kernel_rfl
  rw [e]
  simp
theorem made_ir (w : World) (n : Nat) : IR (w.alloc (.cells (madeCells #[.int .i64 0] n) 3)) w.heap.size n (fun _ => 0) := by
  have e : madeCells #[.int .i64 0] n = Array.replicate n (.int .i64 0) := by
    unfold madeCells
    apply Array.ext
    · simp
    · intro i h1 h2; simp [Nat.mod_one]
  refine ⟨_, Blk.new w _ _, by rw [e]; simp, fun t ht => ?_⟩
  rw [e, Array.getElem?_replicate, if_pos ht]

theorem sg_get (F : Nat → Int) (n t : Nat) (ht : t < n) : (sg F 0 n)[t]? = some (F t) := by
  unfold sg
  rw [List.getElem?_map, List.getElem?_range (by omega)]
  simp

/-- the comparing closure compares by the items' keys -/
theorem cmp_ok {w : World} {p : Pl} {bx g : Nat} (h : p.Ok w) (hbx : Blk w bx p.cs 35) (hg : bx < g) (hB : ∀ (j : Nat) (x : It) (b off : Nat), p.its[j]? = some x → p.B = some ⟨b, off, none⟩ → b < bx) : CmpOk (ky p.its) (Dm p.its) g bx w := by
  intro V x y hV hx hy
  obtain ⟨i, x, rfl, hi, kx⟩ := hx.get
  obtain ⟨j, y, rfl, hj, ky'⟩ := hy.get
  obtain ⟨b, off, hb, hbl, ci, _⟩ := h.its.at hi
  obtain ⟨b2, off2, hb2, _, cj, _⟩ := h.its.at hj
  rw [hb] at hb2
  cases hb2
  have hlt := hB i x b off hi hb
  have hil : i < p.its.length := (List.getElem?_eq_some_iff.1 hi).1
  have hjl : j < p.its.length := (List.getElem?_eq_some_iff.1 hj).1
  have c3 : V.cell? ⟨bx, 1 + 2, none⟩ = some (.slice (some ⟨b, off, none⟩) p.its.length p.cap) := by
    rw [hV.cell hbx.lt (by simp; omega), ← hb]
    exact hbx.cell (j := 3) rfl
  rw [kx, ky']
  refine (order1_c b bx p.its.length p.cap off i j x y (h.its.ok x (List.mem_of_getElem? hi)).t (h.its.ok y (List.mem_of_getElem? hj)).t V hil hjl c3 ((hV.cell (p := ⟨b, off + i * 4, none⟩) hbl (by simp; omega)).trans ci) ((hV.cell (p := ⟨b, off + j * 4, none⟩) hbl (by simp; omega)).trans cj)).mono ?_
  rintro e w' ⟨rfl, m, rfl⟩
  exact ⟨_, rfl, by rw [cv_lt], ⟨rfl, rfl, rfl, Nat.le_refl _, fun _ _ => rfl⟩⟩

set_option maxRecDepth 100000 in
set_option maxHeartbeats 2000000 in
theorem order_c (p : Pl) (w : World) (h : p.Ok w) (hn : p.its.length ≤ 300) : Calls Tryd.prog 36 #[p.v] w fun e w' => ∃ g F, e = .returned (.slice (some ⟨g, 0, none⟩) p.its.length p.its.length) ∧ w.heap.size ≤ g ∧ IR w' g p.its.length F ∧ sg F 0 p.its.length = ordE p.its ∧ Below w.heap.size w w' := by
  have H := Lib.hid h
  have hmk := make_ints p.its.length (by omega)
  clear h
  unfold Pl.v Pl.cs
  go_enter Tryd.func36, Tryd.ntmps36
  go_wp2_with fail
  obtain ⟨W1, hW1⟩ : ∃ W1, (w.alloc (.cells p.cs 35)).alloc (.cells (madeCells #[.int .i64 0] p.its.length) 3) = W1 := ⟨_, rfl⟩
  have hb1 : Below w.heap.size w W1 := by rw [← hW1]; exact ((Below.refl _ w).alloc (Nat.le_refl _) _).alloc (by simp) _
  have hir : IR W1 (w.heap.size + 1) p.its.length (fun _ => 0) := by
    rw [← hW1]
    have := made_ir (w.alloc (.cells p.cs 35)) p.its.length
    rw [show (w.alloc (.cells p.cs 35)).heap.size = w.heap.size + 1 by simp] at this
    exact this
  have hbx : Blk W1 w.heap.size p.cs 35 := by rw [← hW1]; exact (Blk.new w _ _).alloc _
  have hB : ∀ (j : Nat) (x : It) (b off : Nat), p.its[j]? = some x → p.B = some ⟨b, off, none⟩ → b < w.heap.size := by
    intro j x b off hj hb
    obtain ⟨b2, off2, hb2, hl, _⟩ := H.out.its.at hj
    rw [hb] at hb2
    cases hb2
    exact hl
  have hok := H.out.below hb1
  have E1 := Lib.hid hb1
  have E2 := Lib.hid hir
  have E3 := Lib.hid hbx
  have E4 := Lib.hid hB
  have E5 := Lib.hid hok
  unfold Pl.cs at hW1
  rw [hW1]
  clear hb1 hir hbx hB hok hW1 hmk H
  go_loopw [11] (fun i wr => ∃ j : Nat, i = .int .i64 (j : Int) ∧ j ≤ p.its.length ∧ Hid (IR wr (w.heap.size + 1) p.its.length (fun t => if t < j then (t : Int) else 0)) ∧ Hid (But [w.heap.size + 1] W1 wr)) (fun i _ => p.its.length - (RowKit.intOf i).toNat)
  case atStart => exact ⟨0, rfl, by omega, E2.out.congr (fun t _ => by simp), But.refl _ _⟩
  case round =>
    obtain ⟨j, rfl, hj, HI, HB⟩ := hrel
    by_cases hlt : j < p.its.length
    · have y0 := HI.out.free j
      have x0 := HI.out.cell (t := j) hlt
      have q1 : (j : Int) < (p.its.length : Int) := by omega
      go_wp2_with fail
      go_roundw
      case rel =>
        refine ⟨j + 1, by go_num, by omega, (HI.out.set j (j : Int)).congr (fun t _ => ?_), HB.out.set (.inl (by simp)) _⟩
        by_cases e : t = j
        · subst e; simp
        · simp only [e, if_false]
          by_cases e2 : t < j
          · rw [if_pos e2, if_pos (by omega)]
          · rw [if_neg e2, if_neg (by omega)]
      case measure => simp [RowKit.intOf]; omega
    · have hje : j = p.its.length := by omega
      have HS := Lib.hid (sort_c (ky p.its) (Dm p.its) (w.heap.size + 1) p.its.length p.its.length (fun t => (t : Int)) w.heap.size wr (HI.out.congr (fun t ht => by rw [if_pos (by omega)])) (fun t ht => ⟨by omega, by omega⟩) (by omega) ((cmp_ok E5.out E3.out (by omega) E4.out).but HB.out))
      unfold cmpV at HS
      have q1 : ¬ (j : Int) < (p.its.length : Int) := by omega
      clear hje
      go_wp2_with fail
      refine (HS.out).mono ?_
      rintro e w1 ⟨⟨u, rfl⟩, G, h1, h2, h3, h4⟩
      have A1 := Lib.hid h1
      have A3 := Lib.hid h3
      have A4 := Lib.hid (HB.out.trans h4)
      clear h1 h2 h3 h4
      go_wp2_with fail
      go_ret
      refine ⟨w.heap.size + 1, G, rfl, by omega, A1.out, ?_, E1.out.trans (A4.out.below E1.out.size (by simp))⟩
      rw [A3.out]
      unfold ordE
      congr 1
      unfold sg
      apply List.map_congr_left
      intro i _
      simp

end Go.Proofs.YtbflcikfaoojmaaDoor.Edit

/- The items' bytes, as they come: plain. -/
set_option linter.unusedVariables false
set_option linter.unusedSimpArgs false
namespace Go.Proofs.YtbflcikfaoojmaaDoor.Edit
open Go.RowKit Go.Lib Go.Shelf ChangeShapes Mem Utf UtfP

/-- an item's bytes, by its number -/
def dat (its : List It) (i : Int) : List UInt8 := (its[i.toNat]?.map It.l).getD []
theorem dat_of {its : List It} {k : Nat} {x : It} (h : its[k]? = some x) : dat its (k : Int) = x.l := by
  unfold dat
  rw [Int.toNat_natCast, h]
  rfl
/-- all bytes, as they come -/
def allE (its : List It) : List UInt8 := (ordE its).flatMap (dat its)
def allP (its : List It) (j : Nat) : List UInt8 := ((ordE its).take j).flatMap (dat its)
theorem allP_zero (its : List It) : allP its 0 = [] := rfl
theorem allP_all (its : List It) : allP its its.length = allE its := by
  unfold allP allE
  rw [← ordE_len its, List.take_length]
theorem allP_succ {its : List It} {j : Nat} {i : Int} (h : (ordE its)[j]? = some i) : allP its (j + 1) = allP its j ++ dat its i := by
  unfold allP
  rw [List.take_add_one, List.flatMap_append, h]
  simp
theorem dat_le {its : List It} (hm : ∀ x ∈ its, x.l.length ≤ 4000) (i : Int) : (dat its i).length ≤ 4000 := by
  unfold dat
  cases h : its[i.toNat]? with
  | none => exact Nat.zero_le _
  | some x => exact hm x (List.mem_of_getElem? h)
theorem allP_le {its : List It} (hm : ∀ x ∈ its, x.l.length ≤ 4000) (j : Nat) : (allP its j).length ≤ 4000 * j := by
  induction j with
  | zero => rw [allP_zero]; exact Nat.zero_le _
  | succ j ih =>
    cases h : (ordE its)[j]? with
    | none =>
      unfold allP at ih ⊢
      rw [List.take_add_one, h]
      simp at ih ⊢
      omega
    | some i =>
      rw [allP_succ h, List.length_append]
      have := dat_le hm i
      omega

end Go.Proofs.YtbflcikfaoojmaaDoor.Edit

/- All bytes of any plan: twin.all. -/
set_option linter.unusedVariables false
set_option linter.unusedSimpArgs false
namespace Go.Proofs.YtbflcikfaoojmaaDoor.Edit
open Go.RowKit Go.Lib Go.Shelf ChangeShapes Mem Utf UtfP

set_option maxRecDepth 100000 in
set_option maxHeartbeats 2000000 in
theorem all_c (p : Pl) (w : World) (h : p.Ok w) (hn : p.its.length ≤ 300) (hm : ∀ x ∈ p.its, x.l.length ≤ 4000) : Calls Tryd.prog 31 #[p.v] w fun e w' => ∃ v, e = .returned v ∧ OwnB w' w.heap.size v (allE p.its) ∧ Below w.heap.size w w' := by
  obtain ⟨W0, hW0⟩ : ∃ W0, w.alloc (.cells p.cs 35) = W0 := ⟨_, rfl⟩
  have hb0 : Below w.heap.size w W0 := by rw [← hW0]; exact (Below.refl _ w).alloc (Nat.le_refl _) _
  have hp0 : Blk W0 w.heap.size p.cs 35 := by rw [← hW0]; exact Blk.new _ _ _
  have HO := Lib.hid (order_c p W0 (h.below hb0) hn)
  have H := Lib.hid h
  have HP := Lib.hid hp0
  have hs0 : W0.heap.size = w.heap.size + 1 := by rw [← hW0]; simp
  have HB0 := Lib.hid hb0
  have p0 := hp0.cell (j := 0) rfl
  have p1 := hp0.cell (j := 1) rfl
  have p2 := hp0.cell (j := 2) rfl
  have p3 := hp0.cell (j := 3) rfl
  have p4 := hp0.cell (j := 4) rfl
  have p5 := hp0.cell (j := 5) rfl
  have p6 := hp0.cell (j := 6) rfl
  have HMM := Lib.hid hm
  clear h hp0 hb0 hm
  unfold Pl.v at HO ⊢
  unfold Pl.cs at HO hW0 ⊢
  go_enter Tryd.func31, Tryd.ntmps31
  go_wp2_with fail
  refine (HO.out).mono ?_
  rintro e w1 ⟨g, F, rfl, hg, hir, hsg, hb1⟩
  have HB1 := Lib.hid (HB0.out.trans (hb1.mono (by omega)))
  have HIR := Lib.hid hir
  have HSG := Lib.hid hsg
  have HOK := Lib.hid (H.out.below HB1.out)
  have HBX := Lib.hid (HP.out.but (But.of_below (S := []) hb1) (by intro h; cases h))
  have hgl := hir.lt
  clear hb1 hir hsg p0 p1 p2 p3 p4 p5 p6 HO HP hW0
  go_wp2_with fail
  go_loopw [3, 9] (fun b i wr => ∃ j : Nat, i = .int .i64 (j : Int) ∧ j ≤ p.its.length ∧ Hid (OwnB wr w1.heap.size b (allP p.its j)) ∧ Hid (Below w1.heap.size w1 wr)) (fun _ i _ => p.its.length - (RowKit.intOf i).toNat)
  case atStart => exact ⟨0, rfl, by omega, OwnB.nil _ _, Below.refl _ _⟩
  case round =>
    obtain ⟨j, rfl, hj, HO2, HB2⟩ := hrel
    by_cases hlt : j < p.its.length
    · have q1 : (j : Int) < (p.its.length : Int) := by omega
      have c0 := (HB2.out.cell (p := ⟨g, j, none⟩) hgl).trans (HIR.out.cell hlt)
      have hoj : (ordE p.its)[j]? = some (F j) := by rw [← HSG.out]; exact sg_get F _ _ hlt
      obtain ⟨k, x, hk, hkx, _⟩ := (ordE_mem.1 (List.mem_of_getElem? hoj)).get
      obtain ⟨b, off, hb, hbl, _, _, _, ci⟩ := HOK.out.its.at hkx
      have hkl : k < p.its.length := (List.getElem?_eq_some_iff.1 hkx).1
      have q2 : (k : Int) < (p.its.length : Int) := by omega
      have c1 : wr.cell? ⟨w.heap.size, 1 + 2, none⟩ = some (.slice (some ⟨b, off, none⟩) p.its.length p.cap) := by
        rw [HB2.out.cell (p := ⟨w.heap.size, 1 + 2, none⟩) HBX.out.lt, ← hb]
        exact HBX.out.cell (j := 3) rfl
      have c2 := (HB2.out.cell (p := ⟨b, off + k * 4 + 3, none⟩) hbl).trans ci
      rw [hk] at c0
      have hxo := HOK.out.its.ok x (List.mem_of_getElem? hkx)
      have HXB := Lib.hid (hxo.bytes.below HB2.out)
      have HAP := Lib.hid (allP_succ hoj)
      rw [hk, dat_of hkx] at HAP
      have hxl := HMM.out x (List.mem_of_getElem? hkx)
      have hxc := hxo.cap
      have hpl := allP_le HMM.out j
      have hs2 := HB2.out.size
      obtain ⟨P, hP⟩ : ∃ P, allP p.its j = P := ⟨_, rfl⟩
      rw [hP] at HO2 HAP hpl
      clear hoj hk ci hxo hb hP
      go_wp2_with (at_builtin; (refine wpList_append_bytes (l := P) (src := x.l) rfl _ _ rfl rfl HO2.out rfl rfl HXB.out ?_ ?_ ?_))
      · show P.length + x.l.length ≤ 140737488355328; omega
      · omega
      intro v' w2 ho2 hg2
      have HO3 := Lib.hid ho2
      have hb2 : Below w1.heap.size w1 w2 := Below.of_grown HB2.out hg2 (by omega) (fun k hk => (HO2.out.lt hk).1)
      have HB3 := Lib.hid hb2
      clear ho2 hg2 hb2
      go_wp2_with fail
      go_roundw
      case rel => exact ⟨j + 1, by go_num, by omega, by rw [HAP.out]; exact HO3.out, HB3.out⟩
      case measure => simp [RowKit.intOf]; omega
    · have hje : j = p.its.length := by omega
      rw [hje, allP_all] at HO2
      have q1 : ¬ (j : Int) < (p.its.length : Int) := by omega
      have hs1 := HB1.out.size
      clear hje
      go_wp2_with fail
      go_ret
      exact ⟨_, rfl, HO2.out.base hs1, HB1.out.trans (HB2.out.mono hs1)⟩

end Go.Proofs.YtbflcikfaoojmaaDoor.Edit

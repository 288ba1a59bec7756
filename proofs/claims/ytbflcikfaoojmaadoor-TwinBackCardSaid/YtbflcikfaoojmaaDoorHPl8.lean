/- whispererref20.Secret and Chars. -/
import Derived.Test.YtbflcikfaoojmaaDoorGK3
import Derived.Test.YtbflcikfaoojmaaDoorGK5
import Derived.Test.YtbflcikfaoojmaaDoorGR
import Derived.Test.YtbflcikfaoojmaaDoorGU
import Derived.Test.YtbflcikfaoojmaaDoorHTw3
set_option linter.unusedVariables false
set_option linter.unusedSimpArgs false
namespace Go.Proofs.YtbflcikfaoojmaaDoor.Edit
open Go.RowKit Go.Lib Go.Shelf ChangeShapes Mem Utf UtfP

/-- where secret characters stand, in memory -/
def cellsP (l : List (Nat × Int)) : List Value := cellsK (l.map fun x => ((x.1 : Int), x.2))
theorem infoPlace : (Tryd.prog.info? 80).map (fun i => (i.zero, i.size, i.bytes)) = some (some (.agg #[.int .i64 0, .int .i64 0]), 2, 16) := by kernel_rfl
def OwnP (w : World) (B : Nat) (v : Value) (l : List (Nat × Int)) : Prop := w.ownsRow B 80 2 v l.length (cellsP l)
theorem cellsP_len (l : List (Nat × Int)) : (cellsP l).length = l.length * 2 := by unfold cellsP; rw [cellsK_length, List.length_map]
theorem cellsP_append (l m : List (Nat × Int)) : cellsP (l ++ m) = cellsP l ++ cellsP m := by unfold cellsP; rw [List.map_append, cellsK_append]
theorem OwnP.nil (w : World) (B : Nat) : OwnP w B (.slice none 0 0) [] := ⟨rfl, Or.inl ⟨rfl, rfl⟩⟩
theorem OwnP.lt {w : World} {B : Nat} {v : Value} {l : List (Nat × Int)} (h : OwnP w B v l) {k : Nat} (hk : v.ownBlock = some k) : B ≤ k ∧ k < w.heap.size := World.ownsRow.lt h k hk
theorem OwnP.below {w w' : World} {B : Nat} {v : Value} {l : List (Nat × Int)} (h : OwnP w B v l) (hb : Below w.heap.size w w') : OwnP w' B v l := by
  refine ⟨h.1, ?_⟩
  rcases h.2 with h0 | ⟨g, cap, cur, hv, hB, hg, hr⟩
  · exact .inl h0
  · exact .inr ⟨g, cap, cur, hv, hB, (hb.block g ((Array.getElem?_eq_some_iff.1 hg).1)).trans hg, hr⟩
theorem OwnP.base {w : World} {B B' : Nat} {v : Value} {l : List (Nat × Int)} (h : OwnP w B v l) (hB : B' ≤ B) : OwnP w B' v l := by
  obtain ⟨h1, h2 | ⟨g, cap, cur, h3, h4, h5⟩⟩ := h
  · exact ⟨h1, Or.inl h2⟩
  · exact ⟨h1, Or.inr ⟨g, cap, cur, h3, Nat.le_trans hB h4, h5⟩⟩
theorem OwnP.form {w : World} {B : Nat} {v : Value} {l : List (Nat × Int)} (h : OwnP w B v l) : ∃ A c, v = .slice A l.length c ∧ l.length ≤ c := by
  rcases h.2 with ⟨rfl, h0⟩ | ⟨g, cap, cur, hv, hB, hg, hn, _⟩
  · exact ⟨none, 0, by rw [h0], by omega⟩
  · exact ⟨_, _, hv, hn⟩
/-- the j-th place -/
theorem OwnP.at {w : World} {B : Nat} {v : Value} {l : List (Nat × Int)} (h : OwnP w B v l) {j : Nat} {x : Nat × Int} (hj : l[j]? = some x) : ∃ g c, v = .slice (some ⟨g, 0, none⟩) l.length c ∧ B ≤ g ∧ g < w.heap.size ∧ l.length ≤ c ∧ w.cell? ⟨g, j * 2, none⟩ = some (.int .i64 (x.1 : Int)) ∧ w.cell? ⟨g, j * 2 + 1, none⟩ = some (.int .i64 x.2) := by
  have hjl := (List.getElem?_eq_some_iff.1 hj).1
  rcases h.2 with ⟨rfl, h0⟩ | ⟨g, cap, cur, hv, hB, hg, hn, hm, hs, ht⟩
  · omega
  · obtain ⟨h1, h2⟩ := cellsK_at (l.map fun x => ((x.1 : Int), x.2)) j ((x.1 : Int), x.2) (by rw [List.getElem?_map, hj]; rfl)
    have hc : ∀ i u, i < l.length * 2 → (cellsP l)[i]? = some u → w.cell? ⟨g, i, none⟩ = some u := by
      intro i u hi hu
      rw [cell_of_row w g i cur _ (0, 0) hg, ← Array.getElem?_toList]
      rw [← ht, List.getElem?_take_of_lt hi] at hu
      exact hu
    exact ⟨g, cap, hv, hB, (Array.getElem?_eq_some_iff.1 hg).1, hn, hc _ _ (by omega) h1, hc _ _ (by omega) h2⟩
theorem wpList_append_place {w : World} {ops : Array Oper} {rest : List Oper} {o : Oper} {a : Act} {Q : Exit → Act → World → Prop} (hgd : o.guard = none) (s x : Operand)
    (ho : o.op = .call { callee := .builtin .append, args := #[s, x], argTypes := #[77, 77] })
    {B : Nat} {v : Value} {l : List (Nat × Int)} (hs : a.eval s = v) (hown : OwnP w B v l) {A : Option Addr} {src : List (Nat × Int)} {n c : Nat} (hx : a.eval x = .slice A n c) (hn : src.length = n) (hsrc : CellsAt w A (cellsP src))
    (hb : l.length + src.length ≤ 1099511627776) (hbase : B ≤ w.heap.size)
    (h : ∀ v' w', OwnP w' B v' (l ++ src) → w.grownBy w' v.ownBlock → wpList Tryd.prog ops Q rest (a.put o.dst v') w') : wpList Tryd.prog ops Q (o :: rest) a w := by
  subst hn
  refine wpList_append_cells hgd s x ho Tryd.underlying77 infoPlace rfl (by decide) hs hown hx (by rw [cellsP_len]) hsrc ?_ ?_ ?_ hbase ?_
  · intro u hu
    obtain ⟨c, _, hc⟩ := List.mem_flatMap.1 hu
    simp at hc
    rcases hc with rfl | rfl <;> rfl
  · unfold maxLen; omega
  · omega
  · intro v' w' h2 h3
    refine h v' w' ?_ h3
    unfold OwnP
    rw [List.length_append, cellsP_append]
    exact h2

/-- between two rounds -/
def RSr (w : World) (b : List UInt8) (s3 s4 s5 s6 : Value) (wr : World) : Prop :=
  ∃ (i k : Nat) (br ps : Bool) (pre : List (Nat × Int)), s4 = .bool ps ∧ s5 = .bool br ∧ s6 = .int .i64 (i : Int) ∧ i ≤ b.length ∧ b.length - i ≤ k ∧ pre.length ≤ i ∧ Hid (pre ++ secF b k i br = secE b) ∧ Hid (OwnP wr w.heap.size s3 pre) ∧ Hid (Below w.heap.size w wr)

set_option maxRecDepth 100000 in
set_option maxHeartbeats 8000000 in
theorem rsecret_c (b : List UInt8) (A : Option Addr) (cap : Nat) (w : World) (hA : BytesAt w A b) (hcap : b.length ≤ cap) (hm : b.length ≤ 1000000) :
    Calls Tryd.prog 38 #[.slice A b.length cap] w fun e w' => ∃ v, e = .returned v ∧ OwnP w' w.heap.size v (secE b) ∧ Below w.heap.size w w' := by
  have HA := Lib.hid hA
  clear hA
  go_enter Tryd.func38, Tryd.ntmps38
  go_wp2
  go_loopw [3, 4, 5, 6] (fun s3 s4 s5 s6 wr => RSr w b s3 s4 s5 s6 wr) (fun _ _ _ i _ => b.length - (RowKit.intOf i).toNat)
  case atStart => exact ⟨0, b.length, false, false, [], rfl, rfl, rfl, Nat.zero_le _, by omega, Nat.le_refl _, rfl, OwnP.nil _ _, Below.refl _ _⟩
  case round =>
    obtain ⟨i, k, br, ps, pre, rfl, rfl, rfl, hi, hk, hpl, HP, HO, HB⟩ := hrel
    have hszr := HB.out.size
    by_cases hlt : i < b.length
    · have k0 : (i : Int) < (b.length : Int) := by omega
      have hne : b ≠ [] := by intro e; rw [e] at hlt; simp at hlt
      have hbyr := HA.out.below HB.out
      obtain ⟨B, off, rfl, hBlt, hcx⟩ := hbyr hne
      have e0 := hcx i hlt
      have hcut : BytesAt wr (some ⟨B, off + i, none⟩) (b.drop i) := by
        have := BytesAt.cut hbyr hcap (k := i)
        rw [if_neg (by omega)] at this
        simpa [addr_add] using this
      have hd0 : bt (b.drop i) 0 = bt b i := by unfold bt; rw [List.getD_eq_getElem?_getD, List.getD_eq_getElem?_getD, List.getElem?_drop, Nat.add_zero]
      have hdl : (b.drop i).length = b.length - i := List.length_drop
      obtain ⟨k', rfl⟩ : ∃ k', k = k' + 1 := ⟨k - 1, by omega⟩
      have hsec := HP.out
      unfold secF at hsec
      rw [if_neg (by omega), hd0] at hsec
      obtain ⟨x, hx⟩ : ∃ x, bt b i = x := ⟨_, rfl⟩
      rw [hx] at e0 hsec hd0
      have hk1 : (i : Int) ≤ (cap : Int) := by omega
      have hk2 : (i : Int) ≤ (b.length : Int) := by omega
      have hdne : b.drop i ≠ [] := by intro e; rw [e] at hdl; simp at hdl; omega
      have HDL := Lib.hid hdl
      have HCUT := Lib.hid hcut
      have HD0 := Lib.hid hd0
      have HDNE := Lib.hid hdne
      clear hcx hcut hd0 hdl hx hdne HP hbyr
      have hci : ¬ cap = i := by omega
      by_cases h27 : x = 27
      · subst h27
        rw [if_pos rfl] at hsec
        have hnx := ref_next (b.drop i) (some ⟨B, off + i, none⟩) (cap - i) wr HCUT.out (by rw [HDL.out]; omega) (by rw [HDL.out]; omega)
        obtain ⟨K, m, er, hR⟩ : ∃ K m er, seqN (b.drop i) = (K, m, er) := ⟨_, _, _, rfl⟩
        have hml := tw_seqN_le (b.drop i)
        have hmp := tw_seqN_pos HDNE.out HD0.out
        rw [hR] at hnx hsec hml hmp
        simp only at hnx hsec hml hmp
        rw [HDL.out] at hnx hml
        have HN := Lib.hid hnx
        have HSEC := Lib.hid hsec
        have HMP := Lib.hid hmp
        clear hnx hsec hR hmp
        go_wp2_with fail
        refine (HN.out).mono ?_
        rintro e w2 ⟨rfl, hb2⟩
        have hal : Below wr.heap.size wr (w2.alloc (.cells #[.int .i64 K, .int .i64 0] 62)) := hb2.alloc hb2.size _
        have HO2 := Lib.hid (HO.out.below hal)
        have HB2 := Lib.hid (HB.out.trans (hal.mono hszr))
        have HAL := Lib.hid hal
        clear hal hb2
        by_cases her : er = 0
        · subst her
          rw [if_neg (by simp)] at HSEC
          have hmp := HMP.out rfl
          have htl : ((b.drop i).take m).length = m := by rw [List.length_take, HDL.out]; omega
          have hbg := ref_next ((b.drop i).take m) (some ⟨B, off + i, none⟩) (cap - i) _ ((HCUT.out.take m).below HAL.out) (by rw [htl]; omega) (by rw [htl]; omega)
          rw [htl] at hbg
          obtain ⟨K2, m2, er2, hR2⟩ : ∃ K2 m2 er2, seqN ((b.drop i).take m) = (K2, m2, er2) := ⟨_, _, _, rfl⟩
          have hbr : begE ((b.drop i).take m) = decide (er2 = 7) := by unfold begE; rw [hR2]
          rw [hR2] at hbg
          rw [hbr] at HSEC
          have hbq : (er2 == 7) = decide (er2 = 7) := rfl
          have HBG := Lib.hid hbg
          have hm1 : (m : Int) ≤ ((b.length : Int) - (i : Int)) := by omega
          have hm2 : (m : Int) ≤ ((cap : Int) - (i : Int)) := by omega
          have hm3 : m ≤ cap - i := by omega
          have hsum : IntKind.i64.wrap ((i : Int) + (m : Int)) = ((i + m : Nat) : Int) := by rw [IntWalk.i64_in _ (by omega)]; omega
          have hm4 : ((i + m : Nat) : Int) ≤ (cap : Int) := by omega
          have hm5 : (i : Int) ≤ ((i + m : Nat) : Int) := by omega
          have hm6 : ((i + m : Nat) : Int) - (i : Int) = (m : Int) := by omega
          clear hbg hbr htl hR2
          have hcase : ∃ q1 q2 : Bool, (K == 13) = q1 ∧ (K == 14) = q2 := ⟨_, _, rfl, rfl⟩
          obtain ⟨q1, q2, hq1, hq2⟩ := hcase
          cases q1 <;> cases q2 <;> cases ps
          all_goals
            go_wp2_with fail
            refine (HBG.out).mono ?_
            rintro e w3 ⟨rfl, hb3⟩
            have hal3 := hb3.alloc hb3.size (.cells #[.int .i64 K2, .int .i64 0] 62)
            have HO4 := Lib.hid (HO2.out.below hal3)
            have HB4 := Lib.hid (HB2.out.trans (hal3.mono HB2.out.size))
            clear hb3 hal3
            go_wp2_with fail
            go_roundw
            case rel => exact ⟨i + m, k', decide (er2 = 7), _, pre, rfl, rfl, by go_num, by omega, by omega, by omega, HSEC.out, HO4.out, HB4.out⟩
            case measure => simp [RowKit.intOf]; omega
        · have her' : (er != 0) = true := by simpa using her
          rw [if_pos her, List.append_nil] at HSEC
          have ho3 := HO2.out
          rw [HSEC.out] at ho3
          have HO3 := Lib.hid ho3
          clear ho3
          go_wp2_with fail
          go_ret
          exact ⟨_, rfl, HO3.out, HB2.out⟩
      · have h27' : ((x : Int) == 27) = false := by simp; omega
        rw [if_neg h27] at hsec
        have hnx := nextRef (b.drop i) (some ⟨B, off + i, none⟩) (cap - i) wr HCUT.out (by rw [HDL.out]; omega)
        obtain ⟨c, m, er, hR⟩ : ∃ c m er, next (b.drop i) = (c, m, er) := ⟨_, _, _, rfl⟩
        have hfc := next_facts HDNE.out
        rw [hR, HDL.out] at hfc
        rw [hR] at hnx hsec
        simp only at hsec
        rw [HDL.out] at hnx
        have HN := Lib.hid (hnx.mono (R' := fun e w' => e = .returned (.tuple #[.int .i64 (c : Int), .int .i64 (m : Int), .int .i64 (er : Int)]) ∧ Below wr.heap.size wr w') (fun e w' ⟨he, hb⟩ => ⟨by rw [he]; rfl, hb⟩))
        have HSEC := Lib.hid hsec
        obtain ⟨f1, f2, f3, _, f5, _⟩ := hfc
        simp only at f1 f2 f3 f5
        clear hnx hsec hR
        have hsum : IntKind.i64.wrap ((i : Int) + (m : Int)) = (i : Int) + (m : Int) := IntWalk.i64_in _ (by omega)
        go_wp2_with fail
        refine (HN.out).mono ?_
        rintro e w2 ⟨rfl, hb2⟩
        have HO2 := Lib.hid (HO.out.below hb2)
        have HB2 := Lib.hid (HB.out.trans (hb2.mono hszr))
        have hsz2 := hb2.size
        have HPR := Lib.hid (refPrintable (c : Int) w2)
        clear hb2
        by_cases her : er = 0
        · subst her
          cases hpr : printC (c : Int) with
          | false =>
            rw [hpr] at HPR
            have hse : secC i (c, m, 0) br = [] := by unfold secC; rw [hpr]; simp
            rw [hse, List.nil_append] at HSEC
            have HSE2 := HSEC
            clear hse hpr
            go_wp2_with fail
            refine (HPR.out).mono ?_
            rintro e w3 ⟨rfl, rfl⟩
            go_wp2_with fail
            go_roundw
            case rel => exact ⟨i + m, k', false, ps, pre, rfl, rfl, by go_num, by omega, by omega, by omega, HSE2.out, HO2.out, HB2.out⟩
            case measure => simp [RowKit.intOf]; omega
          | true =>
            rw [hpr] at HPR
            by_cases hcond : 1 < m ∨ br = false
            · have hse : secC i (c, m, 0) br = [(i, (c : Int))] := by unfold secC; rw [if_pos ⟨rfl, hpr, hcond⟩]
              rw [hse] at HSEC
              have HSE2 : Hid ((pre ++ [(i, (c : Int))]) ++ secF b k' (i + m) false = secE b) := by
                unfold Hid; refine Eq.trans ?_ HSEC.out; simp
              clear hse hpr HSEC
              have hct : Hid (∀ (K : Prop), (∀ (k1 : decide (1 < (m : Int)) = true), K) → (∀ (k1 : decide (1 < (m : Int)) = false) (k2 : br = false), K) → K) := by
                intro K h1 h2
                by_cases hm1 : 1 < m
                · exact h1 (by simp; omega)
                · exact h2 (by simp; omega) (by rcases hcond with h | h; exact absurd h hm1; exact h)
              refine hct.out _ (fun k1 => ?_) (fun k1 k2 => ?_)
              all_goals
                clear hct hcond
                (try subst k2)
                go_wp2_with fail
                refine (HPR.out).mono ?_
                rintro e w3 ⟨rfl, rfl⟩
                have hal : Below w2.heap.size w2 (w2.alloc (.cells #[.int .i64 (i : Int), .int .i64 (c : Int)] 80)) := (Below.refl _ _).alloc (Nat.le_refl _) _
                have HO5 := Lib.hid (HO2.out.below hal)
                have HB5 := Lib.hid (HB2.out.trans (hal.mono HB2.out.size))
                have HSRC : Hid (CellsAt (w2.alloc (.cells #[.int .i64 (i : Int), .int .i64 (c : Int)] 80)) (some ⟨w2.heap.size, 0, none⟩) (cellsP [(i, (c : Int))])) := CellsAt.new _ #[.int .i64 (i : Int), .int .i64 (c : Int)] _ (cellsP [(i, (c : Int))]) rfl
                clear hal
                go_wp2_with (at_builtin; go_loud (refine wpList_append_place (B := w.heap.size) (l := pre) (src := [(i, (c : Int))]) rfl _ _ rfl rfl HO5.out rfl rfl HSRC.out (by simp; omega) HB5.out.size ?_); intro v' w4 ho4 hg4)
                have hb6 : Below w.heap.size w w4 := Below.of_grown HB5.out hg4 HB5.out.size (fun k hk => (HO2.out.lt hk).1)
                have HO6 := Lib.hid ho4
                have HB6 := Lib.hid hb6
                clear ho4 hg4 hb6
                go_wp2_with fail
                go_roundw
                case rel => exact ⟨i + m, k', false, ps, pre ++ [(i, (c : Int))], rfl, rfl, by go_num, by omega, by omega, by simp; omega, HSE2.out, HO6.out, HB6.out⟩
                case measure => simp [RowKit.intOf]; omega
            · have hse : secC i (c, m, 0) br = [] := by unfold secC; rw [if_neg (fun h => hcond h.2.2)]
              rw [hse, List.nil_append] at HSEC
              have HSE2 := HSEC
              have k1 : decide (1 < (m : Int)) = false := by simp; omega
              have k2 : br = true := by cases br; exact absurd (Or.inr rfl) hcond; rfl
              subst k2
              clear hse hpr hcond
              go_wp2_with fail
              refine (HPR.out).mono ?_
              rintro e w3 ⟨rfl, rfl⟩
              go_wp2_with fail
              go_roundw
              case rel => exact ⟨i + m, k', false, ps, pre, rfl, rfl, by go_num, by omega, by omega, by omega, HSE2.out, HO2.out, HB2.out⟩
              case measure => simp [RowKit.intOf]; omega
        · have her' : ((er : Int) == 0) = false := by simp; omega
          have hse : secC i (c, m, er) br = [] := by unfold secC; rw [if_neg (fun h => her h.1)]
          rw [hse, List.nil_append] at HSEC
          have HSE2 := HSEC
          clear hse her
          go_wp2_with fail
          go_roundw
          case rel => exact ⟨i + m, k', false, ps, pre, rfl, rfl, by go_num, by omega, by omega, by omega, HSE2.out, HO2.out, HB2.out⟩
          case measure => simp [RowKit.intOf]; omega
    · have hge : decide ((i : Int) < (b.length : Int)) = false := by simp; omega
      have hge' : ¬ i < b.length := hlt
      have hp := HP.out
      rw [secF_end (by omega), List.append_nil] at hp
      have HO3 := HO.out
      rw [hp] at HO3
      have HO4 := Lib.hid HO3
      clear hp hlt HO3
      go_wp2_with fail
      go_ret
      exact ⟨_, rfl, HO4.out, HB.out⟩

end Go.Proofs.YtbflcikfaoojmaaDoor.Edit

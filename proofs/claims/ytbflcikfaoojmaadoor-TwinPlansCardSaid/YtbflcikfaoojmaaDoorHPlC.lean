/- whispererref20.Plan. -/
import Derived.Test.YtbflcikfaoojmaaDoorHPl7
import Derived.Test.YtbflcikfaoojmaaDoorHPl8
import Derived.Test.YtbflcikfaoojmaaDoorGP3
import Derived.Test.YtbflcikfaoojmaaDoorGP1
import Derived.Test.YtbflcikfaoojmaaDoorHTw2
import Derived.Test.YtbflcikfaoojmaaDoorGT9
set_option linter.unusedVariables false
set_option linter.unusedSimpArgs false
namespace Go.Proofs.YtbflcikfaoojmaaDoor.Edit
open Go.RowKit Go.Lib Go.Shelf ChangeShapes Mem Utf UtfP

/-- the first places' characters set -/
def setF (z : Int) (b : List UInt8) (j : Nat) : List UInt8 := ((secE b).take j).foldl (stepE z) b
theorem setF_succ {z : Int} {b : List UInt8} {j : Nat} {x : Nat × Int} (h : (secE b)[j]? = some x) : setF z b (j + 1) = stepE z (setF z b j) x := by
  unfold setF
  rw [List.take_add_one, h, List.foldl_append]
  rfl
theorem fold_step_len (z : Int) : ∀ (l : List (Nat × Int)) (b : List UInt8), (∀ x ∈ l, x.1 ≤ b.length) → (l.foldl (stepE z) b).length = b.length := by
  intro l
  induction l with
  | nil => intro b _; rfl
  | cons x r ih =>
    intro b h
    have h1 := stepE_len z b x (h x (by simp))
    show (r.foldl (stepE z) (stepE z b x)).length = _
    rw [ih _ (fun y hy => by rw [h1]; exact h y (by simp [hy])), h1]
theorem setF_len (z : Int) (b : List UInt8) (j : Nat) : (setF z b j).length = b.length :=
  fold_step_len z _ b (fun x hx => Nat.le_of_lt (secE_mem (List.mem_of_mem_take hx)).1)
theorem setF_all (z : Int) (b : List UInt8) : setF z b (secE b).length = planE z b := by
  unfold setF
  rw [List.take_length, planE_fold]
/-- a place and its character lie within the bytes -/
theorem secF_fits {b : List UInt8} : ∀ {k i : Nat} {br : Bool} {x : Nat × Int}, x ∈ secF b k i br → x.1 + (enc x.2).length ≤ b.length := by
  intro k
  induction k with
  | zero => intro i br x h; simp [secF] at h
  | succ k ih =>
    intro i br x h
    unfold secF at h
    split at h
    · simp at h
    · rename_i hi
      split at h
      · split at h
        · simp at h
        · exact ih h
      · rcases List.mem_append.1 h with h | h
        · unfold secC at h
          split at h
          · rename_i hh
            simp at h
            subst h
            have hne : b.drop i ≠ [] := by intro e; have := congrArg List.length e; rw [List.length_drop] at this; simp at this; omega
            have h1 := (enc_next hh.1).1
            have h2 := (next_facts hne).2.1
            rw [List.length_drop] at h2
            show i + (enc ((next (b.drop i)).1 : Int)).length ≤ _
            rw [h1]; omega
          · simp at h
        · exact ih h
theorem secE_fits {b : List UInt8} {x : Nat × Int} (h : x ∈ secE b) : x.1 + (enc x.2).length ≤ b.length := secF_fits h
theorem splice_at (l E : List UInt8) (i m : Nat) (hi : i + E.length ≤ l.length) : (splice l i E)[m]? = if m < i then l[m]? else if m < i + E.length then E[m - i]? else l[m]? := by
  unfold splice
  by_cases h1 : m < i
  · rw [if_pos h1, List.getElem?_append_left (by simp; omega), List.getElem?_take_of_lt h1]
  · rw [if_neg h1, List.getElem?_append_right (by simp; omega)]
    have e : m - (l.take i).length = m - i := by simp; omega
    rw [e]
    by_cases h2 : m < i + E.length
    · rw [if_pos h2, List.getElem?_append_left (by omega)]
    · rw [if_neg h2, List.getElem?_append_right (by omega), List.getElem?_drop]
      congr 1
      omega
theorem splice_set {l E : List UInt8} {i k : Nat} {e : UInt8} (hk : E[k]? = some e) (hl : i + E.length ≤ l.length) : (splice l i (E.take k)).set (i + k) e = splice l i (E.take (k + 1)) := by
  have hkl := (List.getElem?_eq_some_iff.1 hk).1
  have t1 : (E.take k).length = k := by rw [List.length_take]; omega
  have t2 : (E.take (k + 1)).length = k + 1 := by rw [List.length_take]; omega
  apply List.ext_getElem?
  intro m
  rw [List.getElem?_set, splice_at l _ i m (by omega), splice_at l _ i m (by omega), t1, t2]
  have hs : (splice l i (E.take k)).length = l.length := by
    unfold splice
    simp only [List.length_append, List.length_take, List.length_drop]
    omega
  rw [hs]
  by_cases e1 : i + k = m
  · subst e1
    rw [if_pos rfl, if_pos (by omega), if_neg (by omega), if_pos (by omega), show i + k - i = k by omega, List.getElem?_take_of_lt (by omega), hk]
  · rw [if_neg e1]
    by_cases h1 : m < i
    · rw [if_pos h1, if_pos h1]
    · rw [if_neg h1, if_neg h1]
      by_cases h2 : m < i + k
      · rw [if_pos h2, if_pos (by omega), List.getElem?_take_of_lt (by omega), List.getElem?_take_of_lt (by omega)]
      · rw [if_neg h2, if_neg (by omega)]
theorem splice_nil (l : List UInt8) (i : Nat) (hi : i ≤ l.length) : splice l i [] = l := by
  unfold splice
  simp
theorem splice_len (l E : List UInt8) (i : Nat) (h : i + E.length ≤ l.length) : (splice l i E).length = l.length := by
  unfold splice
  simp only [List.length_append, List.length_take, List.length_drop]
  omega

theorem OwnB.setB {w : World} {B g n c j : Nat} {l : List UInt8} {e : UInt8} (h : OwnB w B (.slice (some ⟨g, 0, none⟩) n c) l) (hj : j < l.length) : OwnB (w.setCell ⟨g, j, none⟩ (.int .u8 (e.toNat : Int))) B (.slice (some ⟨g, 0, none⟩) n c) (l.set j e) := by
  rcases h.2 with ⟨h0, _⟩ | ⟨g', cap', cur, hv, hB, hg, hn, hm, hs, ht⟩
  · cases h0
  · injection hv with h1 h2 h3
    cases h1
    subst h3
    have e1 : cellsU (l.set j e) = (cellsU l).set j (.int .u8 (e.toNat : Int)) := by unfold cellsU; rw [List.map_set]
    refine ⟨by rw [cellsU_length, List.length_set, Nat.mul_one], .inr ⟨g, c, cur.setIfInBounds j (.int .u8 (e.toNat : Int)), by rw [List.length_set, h2], hB, heap_setCell_same _ _ _ _ _ _ hg, by rw [List.length_set]; exact hn, hm, by simpa using hs, ?_⟩⟩
    rw [e1, ← ht, List.length_set, Array.toList_setIfInBounds, List.take_set]
theorem hu_alloc {g : Nat} {W V : World} (h : Hid (But [g] W V)) (o : Obj) : Hid (But [g] W (V.alloc o)) := But.alloc h.out o
theorem hu_drew' {g : Nat} {W V : World} (h : Hid (But [g] W V)) : Hid (But [g] W V.drew) := But.drew h.out
theorem hu_set' {g o : Nat} {W V : World} {u : Value} (h : Hid (But [g] W V)) : Hid (But [g] W (V.setCell ⟨g, o, none⟩ u)) := But.set (p := ⟨g, o, none⟩) h.out (.inl (List.mem_singleton.2 rfl)) u
theorem OwnB.frz {w : World} {B g n c : Nat} {l : List UInt8} (h : OwnB w B (.slice (some ⟨g, 0, none⟩) n c) l) (j : Nat) : w.frozen? ⟨g, j, none⟩ = false := by
  rcases h.2 with ⟨h0, _⟩ | ⟨g', cap', cur, hv, hB, hg, hr⟩
  · cases h0
  · injection hv with h1 h2 h3
    cases h1
    exact frozen_of_row _ _ _ _ _ hg
theorem bt_get {E : List UInt8} {k : Nat} {e : UInt8} (h : E[k]? = some e) : bt E k = e.toNat := by
  unfold bt
  rw [List.getD_eq_getElem?_getD, h]
  rfl

/-- the places' loop -/
def RLa (W2 : World) (b : List UInt8) (z : Int) (B : Nat) (vb : Value) (s7 : Value) (wr : World) : Prop := ∃ i : Nat, s7 = .int .i64 (i : Int) ∧ i ≤ (secE b).length ∧ Hid (OwnB wr B vb (setF z b i)) ∧ Hid (But vb.ownBlock.toList W2 wr)
/-- one character's loop -/
def RLb (W2 : World) (t E : List UInt8) (a : Nat) (B : Nat) (vb : Value) (s9 : Value) (wr : World) : Prop := ∃ k : Nat, s9 = .int .i64 (k : Int) ∧ k ≤ E.length ∧ Hid (OwnB wr B vb (splice t a (E.take k))) ∧ Hid (But vb.ownBlock.toList W2 wr)
/-- how the cutting stands -/
def RLq (w12 : World) (p : Pl) (z : Int) (lw lo : Nat) (v1 : Value) (s5 i : Value) (wr : World) : Prop :=
  ∃ (j : Nat) (its' : List It) (rest : List UInt8) (Ab : Option Addr) (capb : Nat), s5 = .slice Ab rest.length capb ∧ i = .int .i64 (j : Int) ∧ j ≤ p.its.length ∧ rest.length ≤ capb ∧ Hid (its'.length = p.its.length) ∧
    Hid (cutE p.its ((ordE p.its).drop j) rest (its'.map It.core) = newC p.its z) ∧ Hid (rest.length = remL p.its ((ordE p.its).drop j)) ∧ Hid (QIts wr lo v1 its') ∧ Hid (BytesAt wr Ab rest) ∧ Hid (Ab = none → rest = [] ∧ capb = 0) ∧ Hid (∀ a, Ab = some a → a.block < lo) ∧ Hid (∀ x ∈ its', x.l ≠ [] → ∀ a, x.A = some a → a.block < lw ∨ w12.heap.size ≤ a.block) ∧ Hid (But v1.ownBlock.toList w12 wr)

set_option maxRecDepth 100000 in
set_option maxHeartbeats 8000000 in
theorem rplan_p (p : Pl) (z : Int) (w : World) (h : p.Ok w) (hn : p.its.length ≤ 300) (hmx : ∀ x ∈ p.its, x.l.length ≤ 4000) (hal : (allE p.its).length ≤ 4000) : Calls Tryd.prog 20 #[p.v, .int .i64 z] w fun e w' => ∃ q : Pl, e = .returned q.v ∧ q.Ok w' ∧ NewP p z q ∧ Below w.heap.size w w' := by
  obtain ⟨b, hbb⟩ : ∃ b, allE p.its = b := ⟨_, rfl⟩
  have HLE := Lib.hid hbb
  rw [hbb] at hal
  obtain ⟨W0, hW0⟩ : ∃ W0, (w.alloc (.cells p.cs 35)).alloc (.cells #[.int .u32 0, .int .u8 0, .int .u8 0, .slice none 0 0, .slice none 0 0, .slice none 0 0, .slice none 0 0] 35) = W0 := ⟨_, rfl⟩
  have hb0 : Below w.heap.size w W0 := by rw [← hW0]; exact ((Below.refl _ w).alloc (Nat.le_refl _) _).alloc (by simp) _
  have hs0 : W0.heap.size = w.heap.size + 2 := by rw [← hW0]; simp
  have hp0 : Blk W0 w.heap.size p.cs 35 := by rw [← hW0]; exact (Blk.new _ _ _).alloc _
  have hq0 : Blk W0 (w.heap.size + 1) #[.int .u32 0, .int .u8 0, .int .u8 0, .slice none 0 0, .slice none 0 0, .slice none 0 0, .slice none 0 0] 35 := by
    have := Blk.new (w.alloc (.cells p.cs 35)) #[.int .u32 0, .int .u8 0, .int .u8 0, .slice none 0 0, .slice none 0 0, .slice none 0 0, .slice none 0 0] 35
    rw [World.size_alloc] at this
    rw [← hW0]; exact this
  have HA := Lib.hid (rall_c p W0 (h.below hb0) hn hmx)
  rw [hbb] at HA
  have p0 : W0.cell? ⟨w.heap.size, 0, none⟩ = some (.int .u32 p.a1) := hp0.cell rfl
  have p1 : W0.cell? ⟨w.heap.size, 1, none⟩ = some (.int .u8 p.a2) := hp0.cell rfl
  have p2 : W0.cell? ⟨w.heap.size, 2, none⟩ = some (.int .u8 p.a3) := hp0.cell rfl
  have p3 : W0.cell? ⟨w.heap.size, 3, none⟩ = some (.slice p.B p.its.length p.cap) := hp0.cell rfl
  have p4 : W0.cell? ⟨w.heap.size, 4, none⟩ = some (.slice p.ws.A p.ws.l.length p.ws.cap) := hp0.cell rfl
  have p5 : W0.cell? ⟨w.heap.size, 5, none⟩ = some (.slice p.gs.A p.gs.l.length p.gs.cap) := hp0.cell rfl
  have p6 : W0.cell? ⟨w.heap.size, 6, none⟩ = some (.slice p.ss.A p.ss.l.length p.ss.cap) := hp0.cell rfl
  have H := Lib.hid h
  have HP := Lib.hid hp0
  have HQ := Lib.hid hq0
  have HB0 := Lib.hid hb0
  clear h hp0 hb0 hq0 hbb
  unfold Pl.v at HA ⊢
  unfold Pl.cs at HA hW0 ⊢
  go_enter Tryd.func20, Tryd.ntmps20
  go_wp2_with fail
  refine (HA.out).mono ?_
  rintro e w1 ⟨v, rfl, ho1, hb1⟩
  have hlt1 := fun k hk => OwnB.lt ho1 (k := k) hk
  have hnil1 : ∀ A n c, v = .slice A n c → A = none → b = [] ∧ c = 0 := by
    rintro A n c rfl rfl
    rcases ho1.2 with ⟨h1, h2⟩ | ⟨_, _, _, h1, _⟩
    · injection h1 with _ _ h3
      exact ⟨List.eq_nil_of_length_eq_zero h2, h3⟩
    · cases h1
  obtain ⟨A1, c1, rfl, hc1, hby1, hA1, hob1⟩ := OwnB.form ho1
  have HNIL := Lib.hid (hnil1 _ _ _ rfl)
  have hs1 := hb1.size
  have HB1 := Lib.hid (HB0.out.trans (hb1.mono (by omega)))
  have HP1 := Lib.hid (HP.out.but (But.of_below (S := []) hb1) List.not_mem_nil)
  have HQ1 := Lib.hid (HQ.out.but (But.of_below (S := []) hb1) List.not_mem_nil)
  have HO1 := Lib.hid ho1
  have HS := Lib.hid (rsecret_c b A1 c1 w1 hby1 hc1 (by omega))
  clear p0 p1 p2 p3 p4 p5 p6 hW0 HA ho1 hb1 hby1 hA1 hob1 hlt1 hnil1 HP HQ
  go_wp2_with fail
  refine (HS.out).mono ?_
  rintro e w2 ⟨v, rfl, hop, hb2⟩
  obtain ⟨A2, c2, rfl, hc2⟩ := hop.form
  have hs2 := hb2.size
  have HB2 := Lib.hid (HB1.out.trans (hb2.mono (by omega)))
  have HP2 := Lib.hid (HP1.out.but (But.of_below (S := []) hb2) List.not_mem_nil)
  have HQ2 := Lib.hid (HQ1.out.but (But.of_below (S := []) hb2) List.not_mem_nil)
  have HO2 := Lib.hid (HO1.out.below hb2)
  have HOP := Lib.hid hop
  have HGL : Hid (∀ k, (Value.slice A1 b.length c1).ownBlock = some k → W0.heap.size ≤ k ∧ k < w1.heap.size) := fun k hk => OwnB.lt HO1.out (k := k) hk
  obtain ⟨L, hL⟩ : ∃ L, secE b = L := ⟨_, rfl⟩
  obtain ⟨m, hm⟩ : ∃ m, L.length = m := ⟨_, rfl⟩
  have hm4 : m ≤ 4000 := by have := secE_len b; rw [hL, hm] at this; omega
  rw [hL, hm] at hc2 ⊢
  have HL := Lib.hid hL
  have HM := Lib.hid hm
  clear hop hb2 HS HO1 HP1 HQ1 hL hm
  go_wp2_with fail
  go_loopw [7] (fun s wr => RLa w2 b z W0.heap.size (.slice A1 b.length c1) s wr) (fun s _ => m - (RowKit.intOf s).toNat)
  case atStart => exact ⟨0, rfl, Nat.zero_le _, HO2.out, But.refl _ _⟩
  case round =>
    obtain ⟨i, rfl, hi, HOB, HBT⟩ := hrel
    have hi2 : i ≤ m := by rw [HL.out, HM.out] at hi; exact hi
    clear hi
    have hsr := HBT.out.size
    by_cases hlt : i < m
    · have q1 : (i : Int) < (m : Int) := by omega
      obtain ⟨x, hx⟩ : ∃ x, L[i]? = some x := ⟨_, List.getElem?_eq_getElem (by rw [HM.out]; exact hlt)⟩
      have hmem : x ∈ secE b := by rw [HL.out]; exact List.mem_of_getElem? hx
      have hfit := secE_fits hmem
      have hpr := (secE_mem hmem).2
      have hle1 := (secE_mem hmem).1
      have hss := setF_succ (z := z) (b := b) (j := i) (x := x) (by rw [HL.out]; exact hx)
      obtain ⟨g2, c', hv, hgB, hgl, _, d0, d1⟩ := HOP.out.at (by rw [HL.out]; exact hx)
      injection hv with hv1 hv2 hv3
      subst hv1
      have hng : ∀ k ∈ (Value.slice A1 b.length c1).ownBlock.toList, k < w1.heap.size := fun k hk => (HGL.out k (by simpa using hk)).2
      replace d1 := (But.cell HBT.out (p := ⟨g2, i * 2 + 1, none⟩) hgl (fun hk => by have := hng g2 hk; omega)).trans d1
      obtain ⟨a, C⟩ := x
      dsimp only at hfit hpr hle1 hss d0 d1
      have hlen := (turnE_print z hpr).2
      have hfi := printC_fine (turnE_print z hpr).1
      have HTU := fun V => Lib.hid (refTurn C z V hpr)
      have HPU := fun V => Lib.hid (refPut (turnE C z) V hfi)
      obtain ⟨E, hE⟩ : ∃ E, enc (turnE C z) = E := ⟨_, rfl⟩
      rw [hE] at HPU hlen
      have hfit2 : a + E.length ≤ b.length := by omega
      obtain ⟨t, ht⟩ : ∃ t, setF z b i = t := ⟨_, rfl⟩
      have htl : t.length = b.length := by rw [← ht, setF_len]
      have hst : setF z b (i + 1) = splice t a E := by
        rw [hss, ht]
        unfold stepE
        dsimp only
        rw [hE, List.take_of_length_le (by omega)]
      have HST := Lib.hid hst
      have HTL := Lib.hid htl
      rw [ht] at HOB
      have D0 := Lib.hid d0
      have HNG := Lib.hid hng
      clear hx hmem hfit hpr hle1 hss hv2 hv3 hng hlen hfi hE ht htl hst d0
      go_wp2_with fail
      refine ((HTU _).out).mono ?_
      rintro e w3 ⟨rfl, hb3⟩
      go_wp2_with fail
      refine ((HPU _).out).mono ?_
      rintro e w4 ⟨v9, rfl, ho9, hb9⟩
      obtain ⟨A9, c9, rfl, hc9, hby9, hA9, _⟩ := OwnB.form ho9
      have hs3 := hb3.size
      have hs4 := hb9.size
      have hb34 := hb3.trans (hb9.mono hs3)
      have HB34 := Lib.hid hb34
      have HBY9 := Lib.hid hby9
      have HA9 := Lib.hid hA9
      have HO4 := Lib.hid (HOB.out.below hb34)
      have HBT4 := Lib.hid (HBT.out.trans (But.of_below hb34))
      obtain ⟨n, hn9⟩ : ∃ n, E.length = n := ⟨_, rfl⟩
      rw [hn9] at hc9 hfit2 ⊢
      have HN9 := Lib.hid hn9
      clear hb3 hb9 hb34 ho9 hby9 hA9 d1 HTU HPU hn9
      go_wp2_with fail
      go_loopw [9] (fun s wr2 => RLb w2 t E a W0.heap.size (.slice A1 b.length c1) s wr2 ∧ Hid (But (Value.slice A1 b.length c1).ownBlock.toList w4 wr2)) (fun s _ => n - (RowKit.intOf s).toNat)
      case atStart => exact ⟨⟨0, rfl, Nat.zero_le _, by rw [List.take_zero, splice_nil t a (by rw [HTL.out]; omega)]; exact HO4.out, HBT4.out⟩, But.refl _ _⟩
      case round =>
        obtain ⟨⟨k, rfl, hk, HOK, HBK⟩, HB4⟩ := hrel
        rw [HN9.out] at hk
        by_cases hkn : k < n
        · have q2 : (k : Int) < (n : Int) := by omega
          obtain ⟨e, he⟩ : ∃ e, E[k]? = some e := ⟨_, List.getElem?_eq_getElem (by rw [HN9.out]; exact hkn)⟩
          have hEne : E ≠ [] := by intro h; rw [h] at he; cases he
          obtain ⟨b9, off9, hA9', hl9, hcx⟩ := HBY9.out hEne
          subst hA9'
          have x0 := hcx k (by rw [HN9.out]; exact hkn)
          rw [bt_get he] at x0
          have hb9l := (HA9.out _ rfl).1
          replace x0 := (But.cell HB4.out (p := ⟨b9, off9 + k, none⟩) hl9 (fun hh => by have := HNG.out b9 hh; have h9 : w3.heap.size ≤ b9 := hb9l; omega)).trans x0
          have d0 := (But.cell HBK.out (p := ⟨g2, i * 2, none⟩) hgl (fun hh => by have := HNG.out g2 hh; omega)).trans D0.out
          have hspl : (splice t a (E.take k)).length = b.length := by rw [splice_len _ _ _ (by rw [List.length_take, HTL.out]; omega), HTL.out]
          have hbne : b ≠ [] := by intro h; rw [h] at hfit2; simp at hfit2; omega
          obtain ⟨g, rfl⟩ : ∃ g, A1 = some ⟨g, 0, none⟩ := by
            rcases HOK.out.2 with ⟨h1, h2⟩ | ⟨g, c, cur, h1, _⟩
            · omega
            · injection h1 with h1; exact ⟨g, h1⟩
          obtain ⟨A', c'', hv', _, hby', _, _⟩ := OwnB.form HOK.out
          injection hv' with hv1 hv2 hv3
          subst hv1
          obtain ⟨b', off', hA', hl', hcb⟩ := hby' (by intro h; rw [h] at hspl; simp at hspl; exact hbne (List.eq_nil_of_length_eq_zero hspl.symm))
          cases hA'
          have y0 := hcb (a + k) (by rw [hspl]; omega)
          rw [Nat.zero_add] at y0
          have y1 := OwnB.frz HOK.out (a + k)
          have s1 : IntKind.i64.wrap ((a : Int) + (k : Int)) = ((a + k : Nat) : Int) := by rw [IntWalk.i64_in _ (by omega)]; omega
          have q3 : ((a + k : Nat) : Int) < (b.length : Int) := by omega
          have q3' : a + k < b.length := by omega
          have HSET : Hid (∀ V : World, OwnB V W0.heap.size (.slice (some ⟨g, 0, none⟩) b.length c1) (splice t a (E.take k)) → OwnB (V.setCell ⟨g, a + k, none⟩ (.int .u8 (e.toNat : Int))) W0.heap.size (.slice (some ⟨g, 0, none⟩) b.length c1) (splice t a (E.take (k + 1)))) := by
            intro V hV
            have := OwnB.setB hV (e := e) (j := a + k) (by rw [hspl]; omega)
            rw [splice_set he (by rw [HN9.out, HTL.out]; exact hfit2)] at this
            exact this
          have HNK := Lib.hid hkn
          clear hcx he hEne hby' hcb hv2 hv3 hspl hbne hl' hl9 hb9l hkn
          go_wp2_with fail
          go_region
          all_goals go_wp2
          go_roundw
          case rel => exact ⟨⟨k + 1, by go_num, by have := HNK.out; rw [HN9.out]; omega, HSET.out _ HOK.out, (HBK.out.set (p := ⟨g, a + k, none⟩) (.inl (by simp [Value.ownBlock])) _).drew⟩, (HB4.out.set (p := ⟨g, a + k, none⟩) (.inl (by simp [Value.ownBlock])) _).drew⟩
          case measure => have := HNK.out; simp [RowKit.intOf]; omega
        · have hkn' : k = n := by omega
          have q2 : ¬ (k : Int) < (n : Int) := by omega
          have ho := HOK.out
          rw [List.take_of_length_le (by rw [HN9.out]; omega), ← HST.out] at ho
          have HOK2 := Lib.hid ho
          clear ho hkn hkn'
          go_wp2_with fail
          go_roundw
          case rel => exact ⟨i + 1, by go_num, by rw [HL.out, HM.out]; omega, HOK2.out, HBK.out⟩
          case measure => simp [RowKit.intOf]; omega
    · have him : i = m := by omega
      have q1 : ¬ (i : Int) < (m : Int) := by omega
      have ho := HOB.out
      have hse : setF z b m = planE z b := by rw [← HM.out, ← HL.out]; exact setF_all z b
      rw [him, hse] at ho
      have HOE := Lib.hid ho
      have hng : w.heap.size ∉ (Value.slice A1 b.length c1).ownBlock.toList := fun hk => by have := (HGL.out _ (by simpa using hk)).1; omega
      have hng1 : w.heap.size + 1 ∉ (Value.slice A1 b.length c1).ownBlock.toList := fun hk => by have := (HGL.out _ (by simpa using hk)).1; omega
      have hp3 := HP2.out.but HBT.out hng
      have hq3 := HQ2.out.but HBT.out hng1
      have hbr : Below w.heap.size w wr := HB2.out.trans (HBT.out.below HB2.out.size (fun k hk => by have := (HGL.out _ (by simpa using hk)).1; omega))
      have HP3 := Lib.hid hp3
      have HQ3 := Lib.hid hq3
      have HBR := Lib.hid hbr
      have p0 : wr.cell? ⟨w.heap.size, 0, none⟩ = some (.int .u32 p.a1) := hp3.cell rfl
      have p1 : wr.cell? ⟨w.heap.size, 1, none⟩ = some (.int .u8 p.a2) := hp3.cell rfl
      have p2 : wr.cell? ⟨w.heap.size, 2, none⟩ = some (.int .u8 p.a3) := hp3.cell rfl
      have p3 : wr.cell? ⟨w.heap.size, 3, none⟩ = some (.slice p.B p.its.length p.cap) := hp3.cell rfl
      have p4 : wr.cell? ⟨w.heap.size, 4, none⟩ = some (.slice p.ws.A p.ws.l.length p.ws.cap) := hp3.cell rfl
      have p5 : wr.cell? ⟨w.heap.size, 5, none⟩ = some (.slice p.gs.A p.gs.l.length p.gs.cap) := hp3.cell rfl
      have p6 : wr.cell? ⟨w.heap.size, 6, none⟩ = some (.slice p.ss.A p.ss.l.length p.ss.cap) := hp3.cell rfl
      clear ho hse hng hng1 hp3 hq3 hbr him hlt HOP HP2 HQ2 HL HM HBT HOB
      go_upto_region 12 with fail
      obtain ⟨wk, hwk⟩ : ∃ wk, wr.alloc (.cells #[.int .u32 p.a1, .int .u8 p.a2, .int .u8 p.a3, .slice p.B p.its.length p.cap, .slice p.ws.A p.ws.l.length p.ws.cap, .slice p.gs.A p.gs.l.length p.gs.cap, .slice p.ss.A p.ss.l.length p.ss.cap] 35) = wk := ⟨_, rfl⟩
      have hbk : Below wr.heap.size wr wk := by rw [← hwk]; exact (Below.refl _ _).alloc (Nat.le_refl _) _
      have hBk : Blk wk wr.heap.size #[.int .u32 p.a1, .int .u8 p.a2, .int .u8 p.a3, .slice p.B p.its.length p.cap, .slice p.ws.A p.ws.l.length p.ws.cap, .slice p.gs.A p.gs.l.length p.gs.cap, .slice p.ss.A p.ss.l.length p.ss.cap] 35 := by rw [← hwk]; exact Blk.new _ _ _
      have hsk : wk.heap.size = wr.heap.size + 1 := by rw [← hwk]; simp
      have hal0 : Below wk.heap.size wk (wk.alloc (.cells #[] 49)) := (Below.refl _ _).alloc (Nat.le_refl _) _
      have hk3 : wk.cell? ⟨w.heap.size, 3, none⟩ = some (.slice p.B p.its.length p.cap) := (HP3.out.but (But.of_below (S := []) hbk) List.not_mem_nil).cell rfl
      have HCI : Hid (CellsAt (wk.alloc (.cells #[] 49)) p.B (cellsI p.its)) := CellsAt.below ((H.out.below HBR.out).below hbk).its.row hal0
      have HOW : Hid ((wk.alloc (.cells #[] 49)).ownsRow wk.heap.size 49 4 (.slice (some ⟨wk.heap.size, 0, none⟩) 0 0) 0 []) := ⟨rfl, .inr ⟨wk.heap.size, 0, #[], rfl, Nat.le_refl _, heap_alloc_new wk _, Nat.le_refl _, by decide, rfl, rfl⟩⟩
      have HBK := Lib.hid hbk
      have HKK := Lib.hid hBk
      rw [hwk]
      have hlw : w.heap.size < wk.heap.size := by have := HP3.out.lt; omega
      have hlr : wr.heap.size < wk.heap.size := by omega
      have HSK := Lib.hid hsk
      clear hwk hbk hBk hal0 hsk p0 p1 p2 p3 p4 p5 p6
      go_upto_region 13 with (at_builtin; (refine wpList_append_cells rfl _ _ rfl Tryd.underlying32 infoItem rfl (by decide) rfl HOW.out rfl (m := p.its.length) (by rw [cellsI_length]) HCI.out (cellsI_one p.its) (by unfold maxLen; omega) (by omega) (by simp) ?_); intro v' w5 ho5 hg5; obtain ⟨A3, c3, rfl⟩ := ownsRow_form ho5; (have hb5 : Below wk.heap.size wk w5 := Below.of_grown ((Below.refl _ wk).alloc (Nat.le_refl _) (.cells #[] 49)) hg5 (by simp) (fun k hk => by have := World.ownsRow.lt HOW.out k hk; omega)); (have hk5 := HKK.out.but (But.of_below (S := []) hb5) List.not_mem_nil); (have k3 := hk5.cell (j := 3) rfl); have k4 := hk5.free 3)
      rw [Nat.zero_add, List.nil_append] at ho5
      obtain ⟨w6, hw6⟩ : ∃ w6, w5.setCell ⟨wr.heap.size, 3, none⟩ (.slice A3 p.its.length c3) = w6 := ⟨_, rfl⟩
      have hbt6 : But [wr.heap.size] w5 w6 := by rw [← hw6]; exact (But.refl _ _).set (.inl (by simp)) _
      have hq6 : Blk w6 wr.heap.size #[.int .u32 p.a1, .int .u8 p.a2, .int .u8 p.a3, .slice A3 p.its.length c3, .slice p.ws.A p.ws.l.length p.ws.cap, .slice p.gs.A p.gs.l.length p.gs.cap, .slice p.ss.A p.ss.l.length p.ss.cap] 35 := by rw [← hw6]; exact hk5.set 3 _
      have hsk := HSK.out
      have hs5 := hb5.size
      have hwz : w.heap.size + 1 < wk.heap.size := by omega
      have hk6 : wk.heap.size ≤ w6.heap.size := by have := hbt6.size; omega
      have hbw6 : Below wr.heap.size wr w6 := (HBK.out.trans (hb5.mono (by omega))).trans (hbt6.below (by omega) (by intro k hk; rw [List.mem_singleton] at hk; omega))
      have hdat : ∀ x ∈ p.its, x.l ≠ [] → ∀ a, x.A = some a → a.block < w.heap.size := by
        intro x hx hl a ha
        obtain ⟨b, off, hA, hl2, _⟩ := (H.out.its.ok x hx).bytes hl
        rw [ha] at hA
        cases hA
        exact hl2
      have hok6 := H.out.below (HBR.out.trans (hbw6.mono HBR.out.size))
      have hbr0 := HBR.out.size
      have hqi : QIts w6 wk.heap.size (.slice A3 p.its.length c3) p.its := by
        refine ⟨ownsRow_but ho5 hbt6 (fun k hk hm => ?_), hok6.its.ok, fun x hx hl a ha e => ?_⟩
        · have := World.ownsRow.lt ho5 k hk
          rw [List.mem_singleton] at hm
          omega
        · have h1 := hdat x hx hl a ha
          have := World.ownsRow.lt ho5 a.block e
          omega
      have hp6 := HP3.out.but (But.of_below (S := []) hbw6) List.not_mem_nil
      have p0 : w6.cell? ⟨w.heap.size, 0, none⟩ = some (.int .u32 p.a1) := hp6.cell rfl
      have p1 : w6.cell? ⟨w.heap.size, 1, none⟩ = some (.int .u8 p.a2) := hp6.cell rfl
      have p2 : w6.cell? ⟨w.heap.size, 2, none⟩ = some (.int .u8 p.a3) := hp6.cell rfl
      have p3 : w6.cell? ⟨w.heap.size, 3, none⟩ = some (.slice p.B p.its.length p.cap) := hp6.cell rfl
      have p4 : w6.cell? ⟨w.heap.size, 4, none⟩ = some (.slice p.ws.A p.ws.l.length p.ws.cap) := hp6.cell rfl
      have p5 : w6.cell? ⟨w.heap.size, 5, none⟩ = some (.slice p.gs.A p.gs.l.length p.gs.cap) := hp6.cell rfl
      have p6 : w6.cell? ⟨w.heap.size, 6, none⟩ = some (.slice p.ss.A p.ss.l.length p.ss.cap) := hp6.cell rfl
      have HOR := Lib.hid (rorder_c p w6 hok6 hn)
      have HQI6 := Lib.hid hqi
      have HQI6S := Lib.hid hqi.row
      have HQ6 := Lib.hid hq6
      have HP6 := Lib.hid hp6
      have HOB6 := Lib.hid (HOE.out.below hbw6)
      have HZ6 := Lib.hid (HQ3.out.but (But.of_below (S := []) hbw6) List.not_mem_nil)
      have HBW6 := Lib.hid (HBR.out.trans (hbw6.mono HBR.out.size))
      have HDAT := Lib.hid hdat
      have hA3l : ∀ k, (Value.slice A3 p.its.length c3).ownBlock = some k → wk.heap.size ≤ k := fun k hk => (World.ownsRow.lt ho5 k hk).1
      have HA3L := Lib.hid hA3l
      have hqlt := hq6.lt
      rw [hw6]
      clear hw6 hbt6 hq6 hb5 hbw6 hdat hok6 hqi hp6 ho5 hg5 hk5 k3 k4 hk3 hs5 hA3l HOE HP3 HQ3
      unfold Pl.v Pl.cs at HOR
      go_wp2_with fail
      refine (HOR.out).mono ?_
      rintro e w7 ⟨v7, rfl, ho7, hb7⟩
      obtain ⟨A7, c7, rfl, hc7⟩ := ho7.form
      have hlen := ordE_len p.its
      rw [hlen] at ho7 hc7 ⊢
      have HLEN := Lib.hid hlen
      have hs7 := hb7.size
      have HO7 := Lib.hid ho7
      have HQI7 := Lib.hid (HQI6.out.below hb7)
      have HQ7 := Lib.hid (HQ6.out.but (But.of_below (S := []) hb7) List.not_mem_nil)
      have HP7 := Lib.hid (HP6.out.but (But.of_below (S := []) hb7) List.not_mem_nil)
      have HZ7 := Lib.hid (HZ6.out.but (But.of_below (S := []) hb7) List.not_mem_nil)
      have HOB7 := Lib.hid (HOB6.out.below hb7)
      have HBW7 := Lib.hid (HBW6.out.trans (hb7.mono HBW6.out.size))
      clear p0 p1 p2 p3 p4 p5 p6 hlen hb7 ho7 HOR HQI6 HQ6 HP6 HZ6 HOB6
      go_wp2_with fail
      obtain ⟨bq, hbq⟩ : ∃ bq, wr.heap.size = bq := ⟨_, rfl⟩
      rw [hbq] at HQ7 hlr hbr0 ⊢
      have HOL : Hid (∀ k, k ∈ (Value.slice A3 p.its.length c3).ownBlock.toList → wk.heap.size ≤ k ∧ k < w6.heap.size) := fun k hk => ⟨HA3L.out k (by simpa using hk), (World.ownsRow.lt HQI6S.out k (by simpa using hk)).2⟩
      have HA1L : Hid (∀ a, A1 = some a → a.block < wk.heap.size) := fun a ha => by
        have := (HGL.out a.block (by rw [ha]; rfl)).2
        omega
      clear hbq hsk HSK HBK HKK hqlt HBW6 HCI HOW
      go_loopw [5, 12] (fun s i wr => RLq w7 p z w.heap.size wk.heap.size (.slice A3 p.its.length c3) s i wr) (fun _ i _ => p.its.length - (RowKit.intOf i).toNat)
      case atStart =>
        have hpl := planE_len z b
        refine ⟨0, p.its, planE z b, A1, c1, by rw [hpl], rfl, Nat.zero_le _, by rw [hpl]; exact hc1, rfl, ?_, ?_, HQI7.out, ?_, ?_, HA1L.out, fun x hx hl a ha => .inl (HDAT.out x hx hl a ha), But.refl _ _⟩
        · show cutE p.its (ordE p.its) (planE z b) (p.its.map It.core) = _
          unfold newC
          rw [HLE.out]
        · show (planE z b).length = remL p.its (ordE p.its)
          rw [hpl, remL_all, HLE.out]
        · obtain ⟨A', cap', hv', hc', hb', _⟩ := OwnB.form HOB7.out
          injection hv' with e1 e2 e3
          subst e1
          exact hb'
        · intro e
          have h1 := HNIL.out e
          exact ⟨List.eq_nil_of_length_eq_zero (by rw [hpl, h1.1]; rfl), h1.2⟩
      case round =>
        obtain ⟨j, its', rest, Ab, capb, rfl, rfl, hj, hrc, HLI, HC, HR, HQI, HBY, HNIL2, HAB, HOX, HBT⟩ := hrel
        have hsr := HBT.out.size
        have hnw : w.heap.size ∉ (Value.slice A3 p.its.length c3).ownBlock.toList := fun hk => by have := (HOL.out _ hk).1; omega
        have hnq : bq ∉ (Value.slice A3 p.its.length c3).ownBlock.toList := fun hk => by have := (HOL.out _ hk).1; omega
        have hbw : Below w.heap.size w wr := HBW7.out.trans (HBT.out.below HBW7.out.size (fun k hk => by have := (HOL.out k hk).1; omega))
        have HBWR := Lib.hid hbw
        have hqb := HQ7.out.but HBT.out hnq
        have HQBR := Lib.hid hqb
        have hpb := HP7.out.but HBT.out hnw
        by_cases hlt : j < p.its.length
        · have q1 : (j : Int) < (p.its.length : Int) := by omega
          obtain ⟨i, hoj⟩ : ∃ i, (ordE p.its)[j]? = some i := ⟨_, List.getElem?_eq_getElem (by rw [HLEN.out]; exact hlt)⟩
          obtain ⟨k, x, hk, hkx, _⟩ := (ordE_mem.1 (List.mem_of_getElem? hoj)).get
          have ho7 := HO7.out
          rw [← HLEN.out] at ho7
          obtain ⟨g7, c', hv7, hg7B, _, hrow⟩ := ho7.row (by intro e; rw [e] at hoj; cases hoj)
          injection hv7 with hv1 hv2 hv3
          rw [hv1]
          have hn7 : g7 ∉ (Value.slice A3 p.its.length c3).ownBlock.toList := fun hk => by have := (HOL.out _ hk).2; omega
          have c0 := (But.cell HBT.out (p := ⟨g7, j, none⟩) hrow.lt hn7).trans (hrow.cell (t := j) (by rw [HLEN.out]; exact hlt))
          rw [List.getD_eq_getElem?_getD, hoj, hk] at c0
          replace c0 : wr.cell? ⟨g7, j, none⟩ = some (.int .i64 (k : Int)) := c0
          have hg7l : g7 < wr.heap.size := Nat.lt_of_lt_of_le hrow.lt hsr
          obtain ⟨b0, off, hb, hbl, _, _, _, ci⟩ := H.out.its.at hkx
          have hkl : k < p.its.length := (List.getElem?_eq_some_iff.1 hkx).1
          have q2 : (k : Int) < (p.its.length : Int) := by omega
          have d1 : wr.cell? ⟨w.heap.size, 3, none⟩ = some (.slice (some ⟨b0, off, none⟩) p.its.length p.cap) := by
            rw [← hb]
            exact hpb.cell (j := 3) rfl
          have d2 := (hbw.cell (p := ⟨b0, off + k * 4 + 3, none⟩) hbl).trans ci
          obtain ⟨y, hy⟩ : ∃ y, its'[k]? = some y := ⟨_, List.getElem?_eq_getElem (by rw [HLI.out]; exact hkl)⟩
          obtain ⟨g, cg, hv, hgW, hgl, g3, g4⟩ := HQI.out.at hy
          rw [HLI.out] at hv
          injection hv with hw1 hw2 hw3
          subst hw1 hw3
          obtain ⟨hn0, hrem⟩ := rem_step HR.out hoj hk hkx
          have HREM := Lib.hid hrem
          have HCS := Lib.hid (fun (A9 : Option Addr) (cap9 : Nat) => cut_step HC.out hoj hk hkx hy A9 cap9)
          have hg7g : g7 ≠ g := by
            have := (HOL.out g (by simp [Value.ownBlock])).2
            omega
          have hbqg : bq ≠ g := by omega
          obtain ⟨n0, hn00⟩ : ∃ n0, x.l.length = n0 := ⟨_, rfl⟩
          rw [hn00] at d2 hn0 HREM HCS
          obtain ⟨R, hRR⟩ : ∃ R, rest.length = R := ⟨_, rfl⟩
          rw [hRR] at hn0 hrc HR ⊢
          have k1 : (n0 : Int) ≤ (R : Int) := by omega
          have k2 : (n0 : Int) ≤ (capb : Int) := by omega
          have k3 : n0 ≤ capb := by omega
          have HXT : Hid ((rest.take n0).length = n0) := by
            unfold Hid
            rw [List.length_take]
            omega
          have HRD : Hid ((rest.drop n0).length = R - n0) := by
            unfold Hid
            rw [List.length_drop, hRR]
          have HRR := Lib.hid hRR
          have HY := Lib.hid hy
          have hle4 : n0 ≤ 1000000 := by have := hmx x (List.mem_of_getElem? hkx); omega
          have HSRC : Hid (∀ mm, BytesAt ((wr.drewN mm).drew.alloc (.cells #[] 5)) Ab (rest.take n0)) := fun mm => (HBY.out.take n0).below ((below_drews (Below.refl _ wr) mm).drew.alloc (Nat.le_refl _) _)
          have HFIN : Hid (∀ (mm : Nat) (v' : Value) (w9 : World), OwnB w9 wr.heap.size v' ([] ++ rest.take n0) → ((wr.drewN mm).drew.alloc (.cells #[] 5)).grownBy w9 (Value.slice (some ⟨wr.heap.size, 0, none⟩) 0 0).ownBlock → ∃ A9 cap9, v' = .slice A9 n0 cap9 ∧ Hid (n0 ≤ cap9) ∧ Hid (BytesAt w9 A9 (rest.take n0)) ∧ Hid (∀ a, A9 = some a → wr.heap.size ≤ a.block ∧ a.block < w9.heap.size) ∧ Hid (A9 = none → rest.take n0 = [] ∧ cap9 = 0) ∧ Hid (But [g] wr w9) ∧ Hid (Below wr.heap.size wr w9) ∧ w9.cell? ⟨g, k * 4 + 3, none⟩ = some (.slice y.A y.l.length y.cap) ∧ w9.frozen? ⟨g, k * 4 + 3, none⟩ = false) := by
            intro mm v' w9 ho hg9
            rw [List.nil_append] at ho
            have hb9 : Below wr.heap.size wr w9 := Below.of_grown ((below_drews (Below.refl _ wr) mm).drew.alloc (Nat.le_refl _) (.cells #[] 5)) hg9 (by rw [World.size_alloc]; exact Nat.le_succ _) (fun k hk => by simp [Value.ownBlock] at hk; omega)
            have hlt := fun k hk => OwnB.lt ho (k := k) hk
            have hnn : ∀ A n c, v' = .slice A n c → A = none → rest.take n0 = [] ∧ c = 0 := by
              rintro A n c rfl rfl
              rcases ho.2 with ⟨h1, h2⟩ | ⟨_, _, _, h1, _⟩
              · injection h1 with _ _ h3
                exact ⟨List.eq_nil_of_length_eq_zero h2, h3⟩
              · cases h1
            obtain ⟨A9, cap9, rfl, h2, h3, h4, h5⟩ := OwnB.form ho
            rw [HXT.out] at h2 hlt h5
            rw [h5] at hlt
            refine ⟨A9, cap9, by rw [HXT.out], h2, h3, fun a ha => hlt a.block (by rw [ha]; rfl), hnn _ _ _ rfl, But.of_below hb9, hb9, (hb9.cell (p := ⟨g, k * 4 + 3, none⟩) hgl).trans g3, (hb9.frozen (p := ⟨g, k * 4 + 3, none⟩) hgl).trans g4⟩
          have hS16 : Hid (∀ V, Hid (But [g] wr V) → Hid (But [g] wr V) ∧ V.cell? ⟨bq, 3, none⟩ = some (.slice (some ⟨g, 0, none⟩) p.its.length c3) ∧ V.cell? ⟨g7, j, none⟩ = some (.int .i64 (k : Int))) := fun V hV =>
            ⟨hV, (HQBR.out.but hV.out (by rw [List.mem_singleton]; exact hbqg)).cell rfl, (But.cell hV.out (p := ⟨g7, j, none⟩) hg7l (by rw [List.mem_singleton]; exact hg7g)).trans c0⟩
          have cU0 : Hid (But [g] wr wr) := But.refl _ _
          have s0 := hS16.out _ cU0
          have s0d := hS16.out _ (hu_drew' cU0)
          have s0a := hS16.out _ (hu_alloc (hu_drew' cU0) (.cells #[] 5))
          clear hoj hk hkx hb ci hy hrem hn00 hRR hbw hqb hpb g3 g4 hrow ho7 hv1 hv2 hv3 hnw hnq hn7 hw2
          go_wp2_with fail
          go_quiet (fail)
          have cN : Hid (But [g] wr (wr.drewN nq)) := ⟨rfl, rfl, rfl, Nat.le_refl _, fun _ _ _ => rfl⟩
          have s1 := hS16.out _ cN
          have s1d := hS16.out _ (hu_drew' cN)
          have s1a := hS16.out _ (hu_alloc (hu_drew' cN) (.cells #[] 5))
          clear s0 s0d s0a d1 d2 c0
          go_upto_region 18 with fail
          go_region_held_law (fun V => Hid (But [g] wr V) ∧ V.cell? ⟨bq, 3, none⟩ = some (.slice (some ⟨g, 0, none⟩) p.its.length c3) ∧ V.cell? ⟨g7, j, none⟩ = some (.int .i64 (k : Int)))
            (first | (with_reducible assumption) | (with_reducible exact hS16.out _ (by assumption)) | (with_reducible exact hS16.out _ (hu_drew' (by assumption))) | (with_reducible exact hS16.out _ (hu_alloc (by assumption) _)) | (with_reducible exact hS16.out _ (hu_alloc (hu_drew' (by assumption)) _)) | (with_reducible exact hS16.out _ (hu_set' (by assumption))) | (with_reducible exact hS16.out _ (hu_drew' (hu_set' (by assumption)))))
            (first | (refine step_append_bytes (B := wr.heap.size) (v := .slice (some ⟨wr.heap.size, 0, none⟩) 0 0) (A := Ab) (n := n0) (c := capb) (l := []) (src := rest.take n0) rfl (.tmp 81) (.tmp 84) (some 85) rfl rfl rfl (OwnB.new (wr.drewN nq).drew wr.heap.size #[] [] rfl (Nat.le_refl _) (by decide)) rfl HXT.out (HSRC.out nq) (by rw [HXT.out]; simp; omega) (by rw [World.size_alloc]; exact Nat.le_succ _) ?_; intro v' w9 ho9 hg9; obtain ⟨A9, cap9, rfl, hcap9, HBY9, HA9, HNL9, hbu, hbv, g3, g4⟩ := HFIN.out nq _ _ ho9 hg9; clear ho9 hg9))
          obtain ⟨w14, hw14⟩ : ∃ w14, w9.setCell ⟨g, k * 4 + 3, none⟩ (.slice A9 n0 cap9) = w14 := ⟨_, rfl⟩
          rw [hw14]
          have hu14 : But [g] wr w14 := by rw [← hw14]; exact (hu_set' hbu).out
          have hq14 : QIts w14 wk.heap.size (.slice (some ⟨g, 0, none⟩) p.its.length c3) (its'.set k { y with l := rest.take n0, A := A9, cap := cap9 }) := by
            have hq := HQI.out.below hbv.out
            rw [← HLI.out] at hq
            have h := hq.set (c := c3) HY.out (rest.take n0) A9 cap9 HBY9.out (by rw [HXT.out]; exact hcap9.out) HNL9.out (fun _ a ha => by have := (HA9.out a ha).1; omega)
            rw [HXT.out, hw14, HLI.out] at h
            exact h
          have hb14 : BytesAt w14 Ab rest := bytes_same HBY.out hu14.size (fun ad hA _ => hu14.block _ (by have := HAB.out ad hA; omega) (by have := HAB.out ad hA; rw [List.mem_singleton]; omega))
          have HU14 := Lib.hid hu14
          have HQ14 := Lib.hid hq14
          have HB14 := Lib.hid hb14
          have hwg : wr.heap.size ≤ w14.heap.size := hu14.size
          clear hu14 hq14 hb14 hw14 g3 g4 s1 s1d s1a
          go_wp2_with fail
          go_roundw
          case rel =>
            have hF : But (Value.slice (some ⟨g, 0, none⟩) p.its.length c3).ownBlock.toList wr w14 := HU14.out
            refine ⟨j + 1, its'.set k { y with l := rest.take n0, A := A9, cap := cap9 }, rest.drop n0, (if capb = n0 then Ab else Ab.map (·.add n0)), capb - n0, by rw [HRD.out], by go_num, by omega, by rw [HRD.out]; omega, ?_, HCS.out A9 cap9, HREM.out, HQ14.out, ?_, opt_none HNIL2.out, opt_block HAB.out, ?_, HBT.out.trans hF⟩
            · show (its'.set k _).length = _
              rw [List.length_set]; exact HLI.out
            · exact HB14.out.cut (k := n0) (cap := capb) (by rw [HRR.out]; exact hrc)
            · intro x' hx' hl a ha
              rcases List.mem_or_eq_of_mem_set hx' with hx' | rfl
              · exact HOX.out x' hx' hl a ha
              · have := (HA9.out a ha).1; right; omega
          case measure => simp [RowKit.intOf]; omega
        · have hje : j = p.its.length := by omega
          have q1 : ¬ (j : Int) < (p.its.length : Int) := by omega
          have HIT := Lib.hid (cut_end HC.out hje)
          have hnz : w.heap.size + 1 ∉ (Value.slice A3 p.its.length c3).ownBlock.toList := fun hk => by have := (HOL.out _ hk).1; omega
          have hzq := HZ7.out.but HBT.out hnz
          have HZ9 := Lib.hid hzq
          have q0 := hqb.cell (j := 0) rfl
          have q1' := hqb.cell (j := 1) rfl
          have q2 := hqb.cell (j := 2) rfl
          have q3 := hqb.cell (j := 3) rfl
          have q4 := hqb.cell (j := 4) rfl
          have q5 := hqb.cell (j := 5) rfl
          have q6 := hqb.cell (j := 6) rfl
          have z0 := hzq.cell (j := 0) rfl
          have z1 := hzq.cell (j := 1) rfl
          have z2 := hzq.cell (j := 2) rfl
          have z3 := hzq.cell (j := 3) rfl
          have z4 := hzq.cell (j := 4) rfl
          have z5 := hzq.cell (j := 5) rfl
          have z6 := hzq.cell (j := 6) rfl
          have y0 := hzq.free 0
          have y1 := hzq.free 1
          have y2 := hzq.free 2
          have y3 := hzq.free 3
          have y4 := hzq.free 4
          have y5 := hzq.free 5
          have y6 := hzq.free 6
          have HDI : Hid (∀ x ∈ its', x.l ≠ [] → ∀ a, x.A = some a → a.block ≠ w.heap.size + 1) := by
            intro x hx hl a ha
            have := HOX.out x hx hl a ha
            omega
          clear hje hzq hqb hbw hpb hnw hnq hnz hlt
          go_wp2_with fail
          refine bodyPost_ret (results_cell_row rfl _ _ (w.heap.size + 1) 35 _ (0, 0) _ rfl (Blk.set (Blk.set (Blk.set (Blk.set (Blk.set (Blk.set (Blk.set HZ9.out 0 _) 1 _) 2 _) 3 _) 4 _) 5 _) 6 _) Tryd.underlying35 rfl (by kernel_rfl)) rfl ?_
          obtain ⟨WE, hWE⟩ : ∃ WE, ((((((wr.setCell ⟨w.heap.size + 1, 0, none⟩ (.int .u32 p.a1)).setCell ⟨w.heap.size + 1, 1, none⟩ (.int .u8 p.a2)).setCell ⟨w.heap.size + 1, 2, none⟩ (.int .u8 p.a3)).setCell ⟨w.heap.size + 1, 3, none⟩ (.slice A3 p.its.length c3)).setCell ⟨w.heap.size + 1, 4, none⟩ (.slice p.ws.A p.ws.l.length p.ws.cap)).setCell ⟨w.heap.size + 1, 5, none⟩ (.slice p.gs.A p.gs.l.length p.gs.cap)).setCell ⟨w.heap.size + 1, 6, none⟩ (.slice p.ss.A p.ss.l.length p.ss.cap) = WE := ⟨_, rfl⟩
          have hWbut : But [w.heap.size + 1] wr WE := by
            rw [← hWE]
            exact (((((((But.refl _ _).set (.inl (by simp)) _).set (.inl (by simp)) _).set (.inl (by simp)) _).set (.inl (by simp)) _).set (.inl (by simp)) _).set (.inl (by simp)) _).set (.inl (by simp)) _
          have hbwE : Below w.heap.size w WE := HBWR.out.trans (hWbut.below HBWR.out.size (by intro k hk; rw [List.mem_singleton] at hk; omega))
          have hQF := HQI.out.but hWbut (fun k hk hm => by have := HA3L.out k hk; rw [List.mem_singleton] at hm; omega) (fun x hx hl a ha hm => by have := HDI.out x hx hl a ha; rw [List.mem_singleton] at hm; omega)
          have hokE := H.out.below hbwE
          refine ⟨⟨p.a1, p.a2, p.a3, its', A3, c3, p.ws, p.gs, p.ss⟩, ?_, ?_, ⟨rfl, rfl, rfl, HIT.out, rfl, rfl, rfl⟩, ?_⟩
          · dsimp only
            rw [HLI.out]
            rfl
          · rw [hWE]
            exact newP_ok hQF HLI.out _ _ _ hokE.ws hokE.gs hokE.ss H.out.a1 H.out.a2 H.out.a3
          · rw [hWE]
            exact hbwE

end Go.Proofs.YtbflcikfaoojmaaDoor.Edit

/- Texts joined: UtfN; Cut. -/
import Derived.Test.YtbflcikfaoojmaaDoorHUtfF
import Derived.Test.YtbflcikfaoojmaaDoorGB
/- utf.Next, walked. -/
set_option linter.unusedVariables false
namespace Go.Proofs.YtbflcikfaoojmaaDoor.Utf
open Go.RowKit Go.Lib Go.Shelf UtfP

def beg (l : List UInt8) : Bool := begN l.length (bt l 0) (bt l 1) (bt l 2)

set_option maxHeartbeats 1000000 in
theorem beginning (l : List UInt8) (A : Option Addr) (cap : Nat) (w : World) (hT : Tabs w) (hA : BytesAt w A l) :
    Calls Tryd.prog 44 #[.slice A l.length cap] w fun e w' => e = .returned (.bool (beg l)) ∧ Below w.heap.size w w' := by
  have C := fullRune l A cap w hT hA
  unfold beg begN
  generalize fullN l.length (bt l 0) (bt l 1) (bt l 2) = f at C
  have HC := Lib.hid C
  clear C hT hA
  by_cases h0 : 0 < l.length
  · by_cases h4 : l.length < 4
    · have h0' : (0 : Int) < (l.length : Int) := by omega
      have h4' : (l.length : Int) < 4 := by omega
      rw [decide_eq_true ⟨h0, h4⟩]
      clear h0 h4
      generalize l.length = n at *
      go_enter Tryd.func44, Tryd.ntmps44
      go_wp2_with (go_at_call 57; refine HC.out.mono ?_; rintro e w' ⟨rfl, hb⟩)
      go_ret
      exact ⟨by simp, hb⟩
    · have h0' : (0 : Int) < (l.length : Int) := by omega
      have h4' : decide ((l.length : Int) < 4) = false := by simp; omega
      rw [decide_eq_false (by omega)]
      clear h0 h4
      generalize l.length = n at *
      go_enter Tryd.func44, Tryd.ntmps44
      go_wp2
      go_ret
      exact ⟨by simp, Below.refl _ _⟩
  · rw [decide_eq_false (by omega), show l.length = 0 by omega]
    clear h0
    go_enter Tryd.func44, Tryd.ntmps44
    go_wp2
    go_ret
    exact ⟨by simp, Below.refl _ _⟩

theorem Tabs.below {w w' : World} (h : Tabs w) (hb : Below w.heap.size w w') : Tabs w' := by
  have hs : ∀ b o v, w.cell? ⟨b, o, none⟩ = some v → w'.cell? ⟨b, o, none⟩ = some v := fun b o v hv => by
    rw [hb.cell (p := ⟨b, o, none⟩) (block_lt_of_cell hv)]; exact hv
  exact ⟨fun c hc => hs _ _ _ (h.1 c hc), fun i hi => ⟨hs _ _ _ (h.2 i hi).1, hs _ _ _ (h.2 i hi).2⟩⟩

theorem BytesAt.below {w w' : World} {A : Option Addr} {l : List UInt8} (h : BytesAt w A l) (hb : Below w.heap.size w w') : BytesAt w' A l := by
  intro hne
  obtain ⟨b, off, rfl, hlt, hc⟩ := h hne
  refine ⟨b, off, rfl, by have := hb.size; omega, fun j hj => ?_⟩
  rw [hb.cell (p := ⟨b, off + j, none⟩) hlt]
  exact hc j hj

theorem BytesAt.take {w : World} {A : Option Addr} {l : List UInt8} (h : BytesAt w A l) (k : Nat) : BytesAt w A (l.take k) := by
  intro hne
  have hl : l ≠ [] := by rintro rfl; simp at hne
  obtain ⟨b, off, rfl, hlt, hc⟩ := h hl
  refine ⟨b, off, rfl, hlt, fun j hj => ?_⟩
  have hj' : j < k ∧ j < l.length := by rw [List.length_take] at hj; omega
  rw [hc j hj'.2]
  have : bt (l.take k) j = bt l j := by
    unfold bt
    rw [List.getD_eq_getElem?_getD, List.getD_eq_getElem?_getD, List.getElem?_take_of_lt hj'.1]
  rw [this]

theorem bt_take {l : List UInt8} {k j : Nat} (h : j < k) : bt (l.take k) j = bt l j := by
  unfold bt
  rw [List.getD_eq_getElem?_getD, List.getD_eq_getElem?_getD, List.getElem?_take_of_lt h]

/-- what the loop's test asks of the first k + 1 bytes -/
theorem beg_take {l : List UInt8} {k : Nat} (hk : k < l.length) : beg (l.take (k + 1)) = begN (k + 1) (bt l 0) (bt l 1) (bt l 2) := by
  have hl : (l.take (k + 1)).length = k + 1 := by simp; omega
  unfold beg
  rw [hl, bt_take (show 0 < k + 1 by omega)]
  rcases Nat.lt_or_ge k 1 with h1 | h1
  · obtain rfl : k = 0 := by omega
    rw [begN_one (bt_lt _ _), begN_one (bt_lt _ _)]
  · rw [bt_take (show 1 < k + 1 by omega)]
    rcases Nat.lt_or_ge k 2 with h2 | h2
    · obtain rfl : k = 1 := by omega
      rw [begN_two (bt_lt _ _), begN_two (bt_lt _ _)]
    · rw [bt_take (show 2 < k + 1 by omega)]

def res3 (r : Nat × Nat × Nat) : Value := .tuple #[.int .i64 (r.1 : Int), .int .i64 (r.2.1 : Int), .int .i64 (r.2.2 : Int)]

theorem dec_lt (l : List UInt8) : (dec l).1 < 1114112 ∧ (dec l).2 ≤ 4 := by
  unfold dec decodeN
  have := bt_lt l 0
  repeat' split
  all_goals (constructor <;> simp only <;> omega)

set_option maxHeartbeats 1000000 in
theorem next_empty (A : Option Addr) (cap : Nat) (w : World) :
    Calls Tryd.prog 24 #[.slice A 0 cap] w fun e w' => e = .returned (res3 (0, 0, 6)) ∧ Below w.heap.size w w' := by
  go_enter Tryd.func24, Tryd.ntmps24
  go_wp2
  go_ret3
  exact ⟨rfl, Below.refl _ _⟩

set_option maxHeartbeats 1000000 in
theorem next_good (l : List UInt8) (A : Option Addr) (cap : Nat) (w : World) (hT : Tabs w) (hA : BytesAt w A l) (hne : l ≠ []) (hg : (dec l).1 ≠ 65533 ∨ 1 < (dec l).2) :
    Calls Tryd.prog 24 #[.slice A l.length cap] w fun e w' => e = .returned (res3 ((dec l).1, (dec l).2, 0)) ∧ Below w.heap.size w w' := by
  have C := decodeRune l A cap w hT hA hne
  have hl : l.length ≠ 0 := fun h => hne (List.eq_nil_of_length_eq_zero h)
  have hd := dec_lt l
  generalize (dec l).1 = c at *
  generalize (dec l).2 = k at *
  have HC := Lib.hid C
  clear C hT hA hne
  generalize l.length = n at *
  have hn0 : (((n : Nat) : Int) == 0) = false := by simp; omega
  have hc := hd.1
  have hk := hd.2
  clear hd hl
  by_cases h1 : c ≠ 65533
  · have hb : (((c : Nat) : Int) != 65533) = true := by rw [bne_iff_ne]; omega
    clear h1 hg
    go_enter Tryd.func24, Tryd.ntmps24
    go_wp2_with (go_at_call 43; refine HC.out.mono ?_; rintro e w' ⟨rfl, hb⟩)
    go_ret3
    exact ⟨by simp [res3], hb⟩
  · have hb : (((c : Nat) : Int) != 65533) = false := by simp; omega
    have hk1 : (1 : Int) < (k : Int) := by omega
    clear h1 hg
    go_enter Tryd.func24, Tryd.ntmps24
    go_wp2_with (go_at_call 43; refine HC.out.mono ?_; rintro e w' ⟨rfl, hb⟩)
    go_ret3
    exact ⟨by simp [res3], hb⟩

set_option maxHeartbeats 1000000 in
theorem next_short (l : List UInt8) (A : Option Addr) (cap : Nat) (w : World) (hT : Tabs w) (hA : BytesAt w A l) (hne : l ≠ []) (hg : dec l = (65533, 1)) (hs : beg l = true) :
    Calls Tryd.prog 24 #[.slice A l.length cap] w fun e w' => e = .returned (res3 (0, l.length, 7)) ∧ Below w.heap.size w w' := by
  have C := decodeRune l A cap w hT hA hne
  have D : ∀ w', Below w.heap.size w w' → Calls Tryd.prog 44 #[.slice A l.length cap] w' fun e w'' => e = .returned (.bool true) ∧ Below w'.heap.size w' w'' := fun w' hb => by
    have := beginning l A cap w' (hT.below hb) (hA.below hb)
    rwa [hs] at this
  have hl : l.length ≠ 0 := fun h => hne (List.eq_nil_of_length_eq_zero h)
  rw [hg] at C
  have HC := Lib.hid C
  have HD := Lib.hid D
  clear C D hT hA hne hg hs
  generalize l.length = n at *
  have hn0 : (((n : Nat) : Int) == 0) = false := by simp; omega
  clear hl
  go_enter Tryd.func24, Tryd.ntmps24
  go_wp2_with (go_at_call 43; refine HC.out.mono ?_; rintro e w' ⟨rfl, hb⟩)
  go_wp2_with (go_at_call 44; refine (HD.out _ hb).mono ?_; rintro e w'' ⟨rfl, hb'⟩)
  go_ret3
  exact ⟨by simp [res3], hb.trans (hb'.mono hb.size)⟩

theorem run_le (d : Nat) : ∀ k n b0 b1 b2, k ≤ runsN d k n b0 b1 b2 ∧ (k ≤ n → runsN d k n b0 b1 b2 ≤ n) := by
  induction d with
  | zero => intro k n _ _ _; exact ⟨Nat.le_refl _, fun h => h⟩
  | succ d ih =>
    intro k n b0 b1 b2
    unfold runsN
    split
    · have := ih (k + 1) n b0 b1 b2
      exact ⟨by omega, fun _ => this.2 (by omega)⟩
    · exact ⟨Nat.le_refl _, fun h => h⟩

set_option maxHeartbeats 1000000 in
theorem next_form (l : List UInt8) (A : Option Addr) (cap : Nat) (w : World) (hT : Tabs w) (hA : BytesAt w A l) (hne : l ≠ []) (hcap : l.length ≤ cap) (hm : l.length ≤ 140737488355328) (hg : dec l = (65533, 1)) (hs : beg l = false) :
    Calls Tryd.prog 24 #[.slice A l.length cap] w fun e w' => e = .returned (res3 (0, runsN 3 1 l.length (bt l 0) (bt l 1) (bt l 2), 8)) ∧ Below w.heap.size w w' := by
  have C := decodeRune l A cap w hT hA hne
  have D : ∀ w', Below w.heap.size w w' → Calls Tryd.prog 44 #[.slice A l.length cap] w' fun e w'' => e = .returned (.bool false) ∧ Below w'.heap.size w' w'' := fun w' hb => by
    have := beginning l A cap w' (hT.below hb) (hA.below hb)
    rwa [hs] at this
  have D2 : ∀ (k : Nat) w', Below w.heap.size w w' → k < l.length → Calls Tryd.prog 44 #[.slice A (k + 1) cap] w' fun e w'' => e = .returned (.bool (begN (k + 1) (bt l 0) (bt l 1) (bt l 2))) ∧ Below w'.heap.size w' w'' := fun k w' hb hk => by
    have := beginning (l.take (k + 1)) A cap w' (hT.below hb) ((hA.below hb).take (k + 1))
    rwa [beg_take hk, show (l.take (k + 1)).length = k + 1 by simp; omega] at this
  have hl : l.length ≠ 0 := fun h => hne (List.eq_nil_of_length_eq_zero h)
  rw [hg] at C
  have HC := Lib.hid C
  have HD := Lib.hid D
  have HD2 := Lib.hid D2
  clear C D D2 hT hA hne hg hs
  generalize bt l 0 = b0 at *
  generalize bt l 1 = b1 at *
  generalize bt l 2 = b2 at *
  generalize l.length = n at *
  have hn0 : (((n : Nat) : Int) == 0) = false := by simp; omega
  go_enter Tryd.func24, Tryd.ntmps24
  go_wp2_with (go_at_call 43; refine HC.out.mono ?_; rintro e w' ⟨rfl, hb⟩)
  go_wp2_with (go_at_call 44; refine (HD.out _ hb).mono ?_; rintro e w'' ⟨rfl, hb'⟩)
  have hB : Below w.heap.size w w'' := hb.trans (hb'.mono hb.size)
  clear hb hb'
  clear hn0
  go_loopw [6] (fun i wr => ∃ k d : Nat, 1 ≤ k ∧ k ≤ n ∧ d + k = 4 ∧ i = .int .i64 k ∧ runsN d k n b0 b1 b2 = runsN 3 1 n b0 b1 b2 ∧ Below w.heap.size w wr) (fun i _ => n - (RowKit.intOf i).toNat)
  case atStart => exact ⟨1, 3, by omega, by omega, by omega, rfl, rfl, hB⟩
  case round =>
    obtain ⟨k, d, h1, h2, h3, rfl, hr, hbw⟩ := hrel
    have Hr := Lib.hid hr
    clear hr
    by_cases hlt : k < n
    · have hlt' : (k : Int) < (n : Int) := by omega
      have hsum : IntKind.i64.wrap ((k : Int) + 1) = (k : Int) + 1 := IntWalk.i64_in _ (by omega)
      by_cases hbeg : begN (k + 1) b0 b1 b2 = true
      · have D3 := HD2.out k wr hbw hlt
        rw [hbeg] at D3
        have HD3 := Lib.hid D3
        clear D3
        have hk3 : k < 3 := by
          rcases Nat.lt_or_ge k 3 with h | h
          · exact h
          · rw [begN_more (by omega)] at hbeg; exact absurd hbeg Bool.false_ne_true
        have Hb := Lib.hid hbeg
        clear hbeg hsum
        go_wp2_with (go_at_call 44; refine HD3.out.mono ?_; rintro e w3 ⟨rfl, hb3⟩)
        go_roundw
        case rel =>
          refine ⟨k + 1, d - 1, by omega, by omega, by omega, by go_num, ?_, hbw.trans (hb3.mono hbw.size)⟩
          rw [← Hr.out]
          obtain ⟨d, rfl⟩ : ∃ d', d = d' + 1 := ⟨d - 1, by omega⟩
          conv => rhs; unfold runsN
          rw [if_pos ⟨hlt, Hb.out⟩]; rfl
        case measure => simp [RowKit.intOf]; omega
      · have hbeg' : begN (k + 1) b0 b1 b2 = false := by simpa using hbeg
        have D3 := HD2.out k wr hbw hlt
        rw [hbeg'] at D3
        have HD3 := Lib.hid D3
        have Hb := Lib.hid hbeg'
        clear D3 hbeg hsum hbeg'
        go_wp2_with (go_at_call 44; refine HD3.out.mono ?_; rintro e w3 ⟨rfl, hb3⟩)
        go_ret3
        refine ⟨?_, hbw.trans (hb3.mono hbw.size)⟩
        rw [← Hr.out]
        have : runsN d k n b0 b1 b2 = k := by
          cases d with
          | zero => rfl
          | succ d => unfold runsN; rw [if_neg (fun h => by rw [Hb.out] at h; exact Bool.false_ne_true h.2)]
        rw [this]; simp [res3]
    · have hge : decide ((k : Int) < (n : Int)) = false := by simp; omega
      have hge' : decide (k < n) = false := by simp; omega
      go_wp2
      go_ret3
      refine ⟨?_, hbw⟩
      rw [← Hr.out]
      have : runsN d k n b0 b1 b2 = k := by
        cases d with
        | zero => rfl
        | succ d => unfold runsN; rw [if_neg (fun h => hlt h.1)]
      rw [this]; simp [res3]

/-- utf.Next at every slice of bytes. -/
theorem nextGo (l : List UInt8) (A : Option Addr) (cap : Nat) (w : World) (hT : Tabs w) (hA : BytesAt w A l) (hcap : l.length ≤ cap) (hm : l.length ≤ 140737488355328) :
    Calls Tryd.prog 24 #[.slice A l.length cap] w fun e w' => e = .returned (res3 (next l)) ∧ Below w.heap.size w w' := by
  have e : next l = goNext l.length (bt l 0) (bt l 1) (bt l 2) (bt l 3) := (goNext_eq (bt_lt _ _) (bt_lt _ _) (bt_lt _ _) (bt_lt _ _)).symm
  rw [e]
  by_cases h0 : l = []
  · subst h0; exact next_empty A cap w
  · have hl : l.length ≠ 0 := fun h => h0 (List.eq_nil_of_length_eq_zero h)
    unfold goNext
    rw [if_neg hl]
    by_cases hg : (dec l).1 ≠ 65533 ∨ 1 < (dec l).2
    · have hg' := hg
      unfold dec at hg'
      rw [if_pos hg']
      exact next_good l A cap w hT hA h0 hg
    · have hd : dec l = (65533, 1) := by
        have h := decode_ok (n := l.length) (by omega) (bt_lt l 0) (bt_lt l 1) (bt_lt l 2) (bt_lt l 3)
        have h' := @next_ok l.length (bt l 0) (bt l 1) (bt l 2) (bt l 3)
        unfold dec at hg ⊢
        rw [h] at hg ⊢
        unfold decOf at hg ⊢
        by_cases he : (nextN l.length (bt l 0) (bt l 1) (bt l 2) (bt l 3)).2.2 = 0
        · rw [if_pos he] at hg; exact absurd (h' he) hg
        · rw [if_neg he]
      have hg' := hg
      unfold dec at hg'
      rw [if_neg hg']
      by_cases hb : begN l.length (bt l 0) (bt l 1) (bt l 2) = true
      · rw [if_pos hb]
        exact next_short l A cap w hT hA h0 hd hb
      · rw [if_neg hb]
        exact next_form l A cap w hT hA h0 hcap hm hd (by unfold beg; simpa using hb)

end Go.Proofs.YtbflcikfaoojmaaDoor.Utf

/- A cut of bytes; a row of one's own in a later world. -/
set_option linter.unusedVariables false
namespace Go.Proofs.YtbflcikfaoojmaaDoor.Utf
open Go.RowKit Go.Lib Go.Shelf UtfP

def lenOf : Value → Nat | .slice _ n _ => n | _ => 0

theorem BytesAt.cut {w : World} {A : Option Addr} {l : List UInt8} {k cap : Nat} (h : BytesAt w A l) (hcap : l.length ≤ cap) :
    BytesAt w (if cap = k then A else A.map (·.add k)) (l.drop k) := by
  intro hne
  have hk : k < l.length := by
    rcases Nat.lt_or_ge k l.length with h' | h'
    · exact h'
    · exact absurd (List.drop_of_length_le h') hne
  obtain ⟨b, off, rfl, hlt, hc⟩ := h (fun e => by subst e; simp at hk)
  rw [if_neg (by omega)]
  refine ⟨b, off + k, by simp [addr_add], hlt, fun j hj => ?_⟩
  rw [List.length_drop] at hj
  rw [Nat.add_assoc, hc (k + j) (by omega)]
  have : bt (l.drop k) j = bt l (k + j) := by
    unfold bt
    rw [List.getD_eq_getElem?_getD, List.getD_eq_getElem?_getD, List.getElem?_drop]
  rw [this]

theorem OwnB.lt {w : World} {B : Nat} {v : Value} {l : List UInt8} (h : OwnB w B v l) {k : Nat} (hk : v.ownBlock = some k) : B ≤ k ∧ k < w.heap.size := by
  rcases h.2 with ⟨rfl, _⟩ | ⟨g, cap, cur, rfl, hB, hg, _⟩
  · cases hk
  · cases hk
    refine ⟨hB, ?_⟩
    rcases Nat.lt_or_ge g w.heap.size with h' | h'
    · exact h'
    · rw [Array.getElem?_eq_none h'] at hg; cases hg
theorem OwnB.below {w w' : World} {B : Nat} {v : Value} {l : List UInt8} (h : OwnB w B v l) (hb : Below w.heap.size w w') : OwnB w' B v l := by
  obtain ⟨h1, h2 | ⟨g, cap, cur, h3, h4, h5, h6⟩⟩ := h
  · exact ⟨h1, Or.inl h2⟩
  · refine ⟨h1, Or.inr ⟨g, cap, cur, h3, h4, ?_, h6⟩⟩
    rw [hb.block g]
    · exact h5
    · rcases Nat.lt_or_ge g w.heap.size with h' | h'
      · exact h'
      · rw [Array.getElem?_eq_none h'] at h5; cases h5

end Go.Proofs.YtbflcikfaoojmaaDoor.Utf

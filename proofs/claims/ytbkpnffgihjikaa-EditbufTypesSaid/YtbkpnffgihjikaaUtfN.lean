/- utf.Next, walked. -/
import Derived.Test.YtbkpnffgihjikaaUtfF
set_option linter.unusedVariables false
namespace Go.Proofs.Ytbkpnffgihjikaa.Utf
open Go.RowKit Go.Lib Go.Shelf UtfP

def beg (l : List UInt8) : Bool := begN l.length (bt l 0) (bt l 1) (bt l 2)

theorem BytesAt.below {w w' : World} {A : Option Addr} {l : List UInt8} (h : BytesAt w A l) (hb : Below w.heap.size w w') : BytesAt w' A l := by
  intro hne
  obtain ⟨b, off, rfl, hlt, hc⟩ := h hne
  refine ⟨b, off, rfl, by have := hb.size; omega, fun j hj => ?_⟩
  rw [hb.cell (p := ⟨b, off + j, none⟩) hlt]
  exact hc j hj

theorem BytesAt.take {w : World} {A : Option Addr} {l : List UInt8} (h : BytesAt w A l) (k : Nat) : BytesAt w A (l.take k) := by
  intro hne
  have hl : l ≠ [] := by rintro rfl; simp at hne
  obtain ⟨b, off, rfl, hlt, hc⟩ := h hl
  refine ⟨b, off, rfl, hlt, fun j hj => ?_⟩
  have hj' : j < k ∧ j < l.length := by rw [List.length_take] at hj; omega
  rw [hc j hj'.2]
  have : bt (l.take k) j = bt l j := by
    unfold bt
    rw [List.getD_eq_getElem?_getD, List.getD_eq_getElem?_getD, List.getElem?_take_of_lt hj'.1]
  rw [this]

theorem bt_take {l : List UInt8} {k j : Nat} (h : j < k) : bt (l.take k) j = bt l j := by
  unfold bt
  rw [List.getD_eq_getElem?_getD, List.getD_eq_getElem?_getD, List.getElem?_take_of_lt h]

/-- what the loop's test asks of the first k + 1 bytes -/
theorem beg_take {l : List UInt8} {k : Nat} (hk : k < l.length) : beg (l.take (k + 1)) = begN (k + 1) (bt l 0) (bt l 1) (bt l 2) := by
  have hl : (l.take (k + 1)).length = k + 1 := by simp; omega
  unfold beg
  rw [hl, bt_take (show 0 < k + 1 by omega)]
  rcases Nat.lt_or_ge k 1 with h1 | h1
  · obtain rfl : k = 0 := by omega
    rw [begN_one (bt_lt _ _), begN_one (bt_lt _ _)]
  · rw [bt_take (show 1 < k + 1 by omega)]
    rcases Nat.lt_or_ge k 2 with h2 | h2
    · obtain rfl : k = 1 := by omega
      rw [begN_two (bt_lt _ _), begN_two (bt_lt _ _)]
    · rw [bt_take (show 2 < k + 1 by omega)]

def res3 (r : Nat × Nat × Nat) : Value := .tuple #[.int .i64 (r.1 : Int), .int .i64 (r.2.1 : Int), .int .i64 (r.2.2 : Int)]

theorem dec_lt (l : List UInt8) : (dec l).1 < 1114112 ∧ (dec l).2 ≤ 4 := by
  unfold dec decodeN
  have := bt_lt l 0
  repeat' split
  all_goals (constructor <;> simp only <;> omega)

theorem run_le (d : Nat) : ∀ k n b0 b1 b2, k ≤ runsN d k n b0 b1 b2 ∧ (k ≤ n → runsN d k n b0 b1 b2 ≤ n) := by
  induction d with
  | zero => intro k n _ _ _; exact ⟨Nat.le_refl _, fun h => h⟩
  | succ d ih =>
    intro k n b0 b1 b2
    unfold runsN
    split
    · have := ih (k + 1) n b0 b1 b2
      exact ⟨by omega, fun _ => this.2 (by omega)⟩
    · exact ⟨Nat.le_refl _, fun h => h⟩

end Go.Proofs.Ytbkpnffgihjikaa.Utf

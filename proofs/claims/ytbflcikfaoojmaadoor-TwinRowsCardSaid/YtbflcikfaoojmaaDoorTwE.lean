/- Turns, plain: there and on, round the row, by one. -/
import Derived.Test.YtbflcikfaoojmaaDoorTw5
set_option linter.unusedVariables false
set_option linter.unusedSimpArgs false
namespace Go.Proofs.YtbflcikfaoojmaaDoor.Edit
open Go.RowKit Go.Lib Go.Shelf ChangeShapes Mem Utf UtfP

theorem turn1 {c z : Int} (h : c ≤ 126) : turnE c z = 32 + (c - 32 + z) % 95 := by unfold turnE rowE; rw [if_pos h]
theorem turn2 {c z : Int} (h0 : 126 < c) (h : c ≤ 2047) : turnE c z = 160 + (c - 160 + z) % 1888 := by unfold turnE rowE; rw [if_neg (by omega), if_pos h]
theorem turn4 {c z : Int} (h : 65535 < c) : turnE c z = 65536 + (c - 65536 + z) % 1048576 := by unfold turnE rowE; rw [if_neg (by omega), if_neg (by omega), if_pos h]
theorem turn3 {c z : Int} (h0 : 2047 < c) (h : c ≤ 65535) : ∃ r, r = 2048 + ((if 55296 < c then c - 2048 else c) - 2048 + z) % 61440 ∧ turnE c z = if 55296 ≤ r then r + 2048 else r := by
  refine ⟨_, rfl, ?_⟩
  unfold turnE rowE
  rw [if_neg (by omega), if_neg (by omega), if_neg (by omega)]

theorem turn_turn {c : Int} (a b : Int) (h : printC c = true) : turnE (turnE c a) b = turnE c (a + b) := by
  have hc := printC_iff.1 h
  by_cases h1 : c ≤ 126
  · rw [turn1 h1, turn1 h1]
    rw [turn1 (by omega)]
    omega
  · by_cases h2 : c ≤ 2047
    · rw [turn2 (by omega) h2, turn2 (by omega) h2, turn2 (by omega) (by omega)]
      omega
    · by_cases h3 : c ≤ 65535
      · obtain ⟨r1, e1, t1⟩ := turn3 (z := a) (by omega) h3
        obtain ⟨r2, e2, t2⟩ := turn3 (z := a + b) (by omega) h3
        have hb1 : 2048 ≤ r1 ∧ r1 < 63488 := by omega
        have hd : 2047 < turnE c a ∧ turnE c a ≤ 65535 := by rw [t1]; split <;> omega
        obtain ⟨r3, e3, t3⟩ := turn3 (z := b) hd.1 hd.2
        have hr : (if 55296 < turnE c a then turnE c a - 2048 else turnE c a) = r1 := by rw [t1]; split <;> split <;> omega
        rw [hr] at e3
        rw [t3, t2]
        have : r3 = r2 := by omega
        rw [this]
      · have e1 := turn4 (c := c) (z := a) (by omega)
        have e2 := turn4 (c := c) (z := a + b) (by omega)
        have e3 := turn4 (c := turnE c a) (z := b) (by omega)
        omega
theorem turn_round {c : Int} (h : printC c = true) {n : Int} (hn : (n = 95 ∧ (enc c).length = 1) ∨ (n = 1888 ∧ (enc c).length = 2) ∨ (n = 61440 ∧ (enc c).length = 3) ∨ (n = 1048576 ∧ (enc c).length = 4)) : turnE c n = c := by
  have hc := printC_iff.1 h
  have he := enc_len c (printC_fine h)
  have hcl : (n = 95 ∧ c ≤ 126) ∨ (n = 1888 ∧ 126 < c ∧ c ≤ 2047) ∨ (n = 61440 ∧ 2047 < c ∧ c ≤ 65535) ∨ (n = 1048576 ∧ 65535 < c) := by
    split at he
    · omega
    · split at he
      · omega
      · split at he
        · omega
        · omega
  rcases hcl with ⟨rfl, h1⟩ | ⟨rfl, h1, h2⟩ | ⟨rfl, h1, h2⟩ | ⟨rfl, h1⟩
  · rw [turn1 h1]; omega
  · rw [turn2 h1 h2]; omega
  · obtain ⟨r1, e1, t1⟩ := turn3 (z := 61440) h1 h2
    rw [t1]
    split at e1 <;> split <;> omega
  · rw [turn4 h1]; omega
theorem turn_one {c : Int} (h : printC c = true) : ¬ turnE c 1 = c := by
  have hc := printC_iff.1 h
  by_cases h1 : c ≤ 126
  · rw [turn1 h1]; omega
  · by_cases h2 : c ≤ 2047
    · rw [turn2 (by omega) h2]; omega
    · by_cases h3 : c ≤ 65535
      · obtain ⟨r1, e1, t1⟩ := turn3 (z := 1) (by omega) h3
        rw [t1]
        split at e1 <;> split <;> omega
      · rw [turn4 (by omega)]; omega

end Go.Proofs.YtbflcikfaoojmaaDoor.Edit

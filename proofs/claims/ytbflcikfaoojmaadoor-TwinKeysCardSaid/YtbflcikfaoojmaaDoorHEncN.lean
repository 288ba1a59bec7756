/- The bytes of the next character are its encoding. -/
import Derived.Test.YtbflcikfaoojmaaDoorHEncP
set_option linter.unusedVariables false
namespace Go.Proofs.YtbflcikfaoojmaaDoor.Edit
open Go.Lib UtfP

theorem bt_enc {c : Int} {zs : List Int} (h : encodeRuneZ c = zs) (hb : ∀ z ∈ zs, 0 ≤ z ∧ z < 256) (i : Nat) (z : Int) (hz : zs[i]? = some z) : (bt (enc c) i : Int) = z := by
  rw [enc_eq h]
  unfold bt
  rw [List.getD_eq_getElem?_getD, List.getElem?_map, hz]
  simp only [Option.map_some, Option.getD_some]
  have hb' := hb z (List.mem_of_getElem? hz)
  exact u8_of hb'.1 hb'.2

theorem take_of_bt (l m : List UInt8) (k : Nat) (hk : k ≤ l.length) (hm : m.length = k) (h : ∀ i, i < k → bt m i = bt l i) : m = l.take k := by
  apply List.ext_getElem
  · rw [List.length_take]; omega
  · intro i h1 h2
    have := h i (by omega)
    unfold bt at this
    rw [List.getD_eq_getElem?_getD, List.getD_eq_getElem?_getD, List.getElem?_eq_getElem h1, List.getElem?_eq_getElem (by omega)] at this
    simp only [Option.getD_some] at this
    rw [List.getElem_take]
    exact UInt8.toNat_inj.1 this

theorem enc_next {l : List UInt8} (he : (next l).2.2 = 0) : (enc ((next l).1 : Int)).length = (next l).2.1 ∧ ∀ i, i < (next l).2.1 → bt (enc ((next l).1 : Int)) i = bt l i := by
  revert he
  refine (?_ : (fun r : Nat × Nat × Nat => r.2.2 = 0 → (enc (r.1 : Int)).length = r.2.1 ∧ ∀ i, i < r.2.1 → bt (enc (r.1 : Int)) i = bt l i) (next l))
  have hk : ∀ {c : Prop} [Decidable c] {x y : Nat × Nat × Nat}, (c → (x.2.2 = 0 → (enc (x.1 : Int)).length = x.2.1 ∧ ∀ i, i < x.2.1 → bt (enc (x.1 : Int)) i = bt l i)) → (¬ c → (y.2.2 = 0 → (enc (y.1 : Int)).length = y.2.1 ∧ ∀ i, i < y.2.1 → bt (enc (y.1 : Int)) i = bt l i)) → ((if c then x else y).2.2 = 0 → (enc ((if c then x else y).1 : Int)).length = (if c then x else y).2.1 ∧ ∀ i, i < (if c then x else y).2.1 → bt (enc ((if c then x else y).1 : Int)) i = bt l i) := by
    intro c _ x y hx hy
    by_cases hc : c
    · rw [if_pos hc]; exact hx hc
    · rw [if_neg hc]; exact hy hc
  have hc := size_class (bt l 0)
  have hs := size_cases (bt l 0)
  have s := @sec_iff (bt l 0) (bt l 1)
  have hl := lo_hi_at (bt l 0)
  have hlh := lo_hi (bt l 0)
  have c2 := @cont_iff (bt l 2)
  have c3 := @cont_iff (bt l 3)
  have fin : ∀ (c : Nat) (zs : List Int) (k : Nat), encodeRuneZ (c : Int) = zs → zs.length = k → (∀ z ∈ zs, 0 ≤ z ∧ z < 256) → (∀ (i : Nat) (z : Int), zs[i]? = some z → z = (bt l i : Int)) → (enc (c : Int)).length = k ∧ ∀ i, i < k → bt (enc (c : Int)) i = bt l i := by
    intro c zs k hz hk hb hbt
    refine ⟨by rw [enc_eq hz, List.length_map, hk], fun i hi => ?_⟩
    have h1 := bt_enc hz hb i zs[i] (List.getElem?_eq_getElem (by omega))
    have h2 := hbt i zs[i] (List.getElem?_eq_getElem (by omega))
    omega
  unfold next nextN
  refine hk (fun _ h => absurd h (by decide)) (fun _ => hk (fun _ h => absurd (show (8 : Nat) = 0 from h) (by decide)) (fun a0 => hk (fun a1 _ => ?_) (fun a1 => hk (fun _ h => absurd (show (7 : Nat) = 0 from h) (by decide)) (fun _ => hk (fun _ h => absurd (show (8 : Nat) = 0 from h) (by decide)) (fun s1 => hk (fun a2 _ => ?_) (fun a2 => hk (fun _ h => absurd (show (7 : Nat) = 0 from h) (by decide)) (fun _ => hk (fun _ h => absurd (show (8 : Nat) = 0 from h) (by decide)) (fun s2 => hk (fun a3 _ => ?_) (fun a3 => hk (fun _ h => absurd (show (7 : Nat) = 0 from h) (by decide)) (fun _ => hk (fun _ h => absurd (show (8 : Nat) = 0 from h) (by decide)) (fun s3 _ => ?_)))))))))))
  · have := hc.1.1 a1
    refine fin (bt l 0) [(bt l 0 : Int)] 1 (encodeRuneZ_one (by omega) (by omega)) rfl (by simp; omega) ?_
    intro i z hz
    rcases i with _ | i
    · simp at hz; omega
    · simp at hz
  · have k1 := s.1.1 (by simpa using s1)
    have k4 := hc.2.1.1 a2
    have b1 := bt_lt l 1
    refine fin (bt l 0 % 32 * 64 + (bt l 1 - 128)) _ 2 (encodeRuneZ_two (by omega) (by omega)) rfl (by simp; omega) ?_
    intro i z hz
    rcases i with _ | _ | i
    · simp at hz; show z = ((bt l 0 : Nat) : Int); omega
    · simp at hz; show z = ((bt l 1 : Nat) : Int); omega
    · simp at hz
  · have k1 := s.1.1 (by simpa using s1)
    have k2 := c2.1.1 (by simpa using s2)
    have k4 := hc.2.2.1.1 a3
    have hr : (2048 ≤ ((bt l 0 % 16 * 4096 + (bt l 1 - 128) * 64 + (bt l 2 - 128) : Nat) : Int) ∧ ((bt l 0 % 16 * 4096 + (bt l 1 - 128) * 64 + (bt l 2 - 128) : Nat) : Int) < 55296) ∨ (57343 < ((bt l 0 % 16 * 4096 + (bt l 1 - 128) * 64 + (bt l 2 - 128) : Nat) : Int) ∧ ((bt l 0 % 16 * 4096 + (bt l 1 - 128) * 64 + (bt l 2 - 128) : Nat) : Int) ≤ 65535) := by
      by_cases e : bt l 0 = 237
      · have := hl.2.2.2.2.1 e
        omega
      · by_cases e' : bt l 0 = 224
        · have := hl.2.1 e'
          omega
        · omega
    refine fin (bt l 0 % 16 * 4096 + (bt l 1 - 128) * 64 + (bt l 2 - 128)) _ 3 (encodeRuneZ_three hr) rfl (by simp; omega) ?_
    intro i z hz
    rcases i with _ | _ | _ | i
    · simp at hz; show z = ((bt l 0 : Nat) : Int); omega
    · simp at hz; show z = ((bt l 1 : Nat) : Int); omega
    · simp at hz; show z = ((bt l 2 : Nat) : Int); omega
    · simp at hz
  · have k1 := s.1.1 (by simpa using s1)
    have k2 := c2.1.1 (by simpa using s2)
    have k3 := c3.1.1 (by simpa using s3)
    have k4 : 240 ≤ bt l 0 ∧ bt l 0 ≤ 244 := hc.2.2.2.1 (by omega)
    have hr : 65536 ≤ ((bt l 0 % 8 * 262144 + (bt l 1 - 128) * 4096 + (bt l 2 - 128) * 64 + (bt l 3 - 128) : Nat) : Int) ∧ ((bt l 0 % 8 * 262144 + (bt l 1 - 128) * 4096 + (bt l 2 - 128) * 64 + (bt l 3 - 128) : Nat) : Int) ≤ 1114111 := by
      by_cases e : bt l 0 = 244
      · have := hl.2.2.2.2.2 e
        omega
      · by_cases e' : bt l 0 = 240
        · have := hl.2.2.1 e'
          omega
        · omega
    refine fin (bt l 0 % 8 * 262144 + (bt l 1 - 128) * 4096 + (bt l 2 - 128) * 64 + (bt l 3 - 128)) _ 4 (encodeRuneZ_four hr.1 hr.2) rfl (by simp; omega) ?_
    intro i z hz
    rcases i with _ | _ | _ | _ | i
    · simp at hz; show z = ((bt l 0 : Nat) : Int); omega
    · simp at hz; show z = ((bt l 1 : Nat) : Int); omega
    · simp at hz; show z = ((bt l 2 : Nat) : Int); omega
    · simp at hz; show z = ((bt l 3 : Nat) : Int); omega
    · simp at hz

end Go.Proofs.YtbflcikfaoojmaaDoor.Edit

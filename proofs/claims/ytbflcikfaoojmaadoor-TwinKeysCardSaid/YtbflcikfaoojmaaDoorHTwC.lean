/- A copy into a row of one's own, within a fence. -/
import Derived.Test.YtbflcikfaoojmaaDoorHTw9
import Derived.Test.YtbflcikfaoojmaaDoorHTw5
set_option linter.unusedVariables false
set_option linter.unusedSimpArgs false
namespace Go.Proofs.YtbflcikfaoojmaaDoor.Edit
open Go.RowKit Go.Lib Go.Shelf ChangeShapes Mem Utf UtfP

theorem keepsFrom_below {B : Nat} {W W' : World} (h : Below W.heap.size W W') : KeepsFrom B W W' :=
  ⟨h.size, fun k o _ hk _ => (h.block k (Array.getElem?_eq_some_iff.1 hk).1).trans hk⟩
theorem keepsFrom_but {B g : Nat} {W W' : World} {cs : Array Value} {t : TypeId} (hg : Blk W g cs t) (h : But [g] W W') : KeepsFrom B W W' :=
  ⟨h.size, fun k o _ hk ho => (h.block k (Array.getElem?_eq_some_iff.1 hk).1 (by
    intro hm
    rw [List.mem_singleton] at hm
    subst hm
    rw [show W.heap[k]? = _ from hg] at hk
    cases hk
    cases ho)).trans hk⟩

theorem ownB_row {w : World} {B g cap : Nat} {n : Nat} {l : List UInt8} (h : OwnB w B (.slice (some ⟨g, 0, none⟩) n cap) l) : n = l.length ∧ B ≤ g ∧ ∃ cur, Blk w g cur 5 ∧ l.length ≤ cap ∧ cap ≤ maxLen ∧ cur.size = cap ∧ cur.toList.take l.length = cellsU l := by
  rcases h.2 with ⟨h, _⟩ | ⟨g', cap', cur, hv, hB, hg, hn, hm, hsz, htake⟩
  · cases h
  · cases hv
    exact ⟨rfl, hB, cur, hg, hn, hm, by omega, by rw [Nat.mul_one] at htake; exact htake⟩

theorem splice_take {α : Type} (L : List α) (n i : Nat) (x : List α) (h : i + x.length ≤ n) (hn : n ≤ L.length) : (splice L i x).take n = splice (L.take n) i x := by
  unfold splice
  rw [List.take_append, List.take_append, List.length_take, List.drop_take, List.take_of_length_le (l := x) (by omega)]
  congr 1
  · rw [List.take_take, List.take_take, Nat.min_comm]
  · congr 2
    omega

theorem ownB_copy {w : World} {B g cap : Nat} {t x : List UInt8} (i : Nat) (h : OwnB w B (.slice (some ⟨g, 0, none⟩) t.length cap) t) (hi : i + x.length ≤ t.length) :
    OwnB (w.setCells g i (cellsB x)) B (.slice (some ⟨g, 0, none⟩) t.length cap) (splice t i x) ∧ But [g] w (w.setCells g i (cellsB x)) ∧ (∀ j, j < (cellsB x).length → (w.cell? ⟨g, i + j, none⟩).isSome = true) ∧ (∀ j, j < (cellsB x).length → w.frozen? ⟨g, i + j, none⟩ = false) := by
  obtain ⟨_, hB, cur, hg, hn, hm, hsz, htake⟩ := ownB_row h
  have hl : (splice t i x).length = t.length := by unfold splice; simp; omega
  have hg' : Blk w g cur.toList.toArray 5 := hg
  refine ⟨⟨by rw [cellsU_length, Nat.mul_one], .inr ⟨g, cap, _, by rw [hl], hB, Blk.setCells (cellsB x) i w cur.toList hg' (by simp [cellsB_length]; omega), by omega, hm, ?_, ?_⟩⟩, But.setCells (.inl (by simp)) _ _ _ (But.refl _ _), ?_, ?_⟩
  · unfold splice
    simp [cellsB_length]
    omega
  · rw [Nat.mul_one, hl]
    show (splice cur.toList i (cellsB x)).take t.length = _
    rw [splice_take _ _ _ _ (by rw [cellsB_length]; exact hi) (by simp; omega), htake]
    exact cellsB_splice t x i
  · intro j hj
    rw [cellsB_length] at hj
    rw [hg.cell (j := i + j) (v := cur[i + j]'(by omega)) (Array.getElem?_eq_getElem _)]
    rfl
  · intro j hj
    exact hg.free _

theorem wpListIn_copy_own {F : Fence} {n : Nat} {w : World} {ops : Array Oper} {rest : List Oper} {o : Oper} {a : Act} {Q : Exit → Act → World → Prop} (hgd : o.guard = none) (d s : Operand)
    (ho : o.op = .call { callee := .builtin .copy, args := #[d, s], argTypes := #[47, 47] }) {B g cap : Nat} {t x : List UInt8} (i : Nat) (dLen dCap sCap sLen : Nat) (ad : Addr)
    (hd : a.eval d = .slice (some ⟨g, i, none⟩) dLen dCap) (hs : a.eval s = .slice (some ad) sLen sCap)
    (hdl : dLen = t.length - i) (hsl : sLen = x.length) (hsrc : BytesAt w (some ad) x) (hown : OwnB w B (.slice (some ⟨g, 0, none⟩) t.length cap) t) (hi : i ≤ t.length)
    (hK : ∀ w' k, Hid (OwnB w' B (.slice (some ⟨g, 0, none⟩) t.length cap) (splice t i (x.take (t.length - i)))) → Hid (But [g] w w') → wpListIn F n Tryd.prog ops Q rest (a.put o.dst (goInt k)) w') :
    wpListIn F n Tryd.prog ops Q (o :: rest) a w := by
  refine wpListIn_plain hgd fun K hK' => ?_
  have hlen : (cellsB (x.take (t.length - i))).length = Nat.min sLen dLen := by rw [cellsB_length, List.length_take, hdl, hsl]; exact Nat.min_comm _ _
  obtain ⟨h1, h2, h3, h4⟩ := ownB_copy (x := x.take (t.length - i)) i hown (by rw [List.length_take]; omega)
  have hcs : ∀ j v, (cellsB (x.take (t.length - i)))[j]? = some v → w.cell? (ad.add j) = some v := by
    intro j v hj
    have hjl : j < (x.take (t.length - i)).length := by
      have := (List.getElem?_eq_some_iff.1 hj).1
      rwa [cellsB_length] at this
    have hjx : j < x.length := by rw [List.length_take] at hjl; omega
    have hne : x ≠ [] := by intro e; rw [e] at hjx; simp at hjx
    obtain ⟨b, off, hA, hlt, hc⟩ := hsrc hne
    cases hA
    rw [addr_add, hc j hjx]
    rw [cellsB_take, List.getElem?_take_of_lt (by rw [List.length_take] at hjl; omega)] at hj
    rw [← hj]
    exact (cellsU_at hjx).symm
  have hrun := run_copy_cells (P := Tryd.prog) w 47 47 o.type 5 g i dLen dCap ad sLen sCap _ Tryd.underlying47 (by kernel_rfl) hlen hcs h3 h4 (cellsB_one _)
  unfold Oper.wpIn
  refine ⟨?_, ?_⟩
  · simp [Oper.about, ho, resolve, Target.leads, Sem.run_pure]
  · rw [Oper.semAt_plain F _ _ (by rw [ho]; intro c hc'; cases hc')]
    simp [execOp, ho, resolve, invoke, builtin, hd, hs, hrun, Result.andThen]
    exact hK' _ _ (hK _ _ h1 h2)

end Go.Proofs.YtbflcikfaoojmaaDoor.Edit

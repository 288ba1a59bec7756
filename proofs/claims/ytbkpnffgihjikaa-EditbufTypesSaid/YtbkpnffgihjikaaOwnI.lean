/- Rows of integers of the call's own. -/
import Derived.Test.YtbkpnffgihjikaaOwn
set_option linter.unusedVariables false
namespace Go.Proofs.Ytbkpnffgihjikaa.Utf
open Go.RowKit Go.Lib Go.Shelf UtfP

theorem infoInt : (Try.prog.info? 3).map (fun i => (i.zero, i.size, i.bytes)) = some (some (.int .i64 0), 1, 8) := by kernel_rfl
def cellsI (cs : List Int) : List Value := cs.map fun c => .int .i64 c
theorem cellsI_length (cs : List Int) : (cellsI cs).length = cs.length := by simp [cellsI]
theorem cellsI_append (a b : List Int) : cellsI (a ++ b) = cellsI a ++ cellsI b := by simp [cellsI]
def OwnI (w : World) (B : Nat) (v : Value) (cs : List Int) : Prop := w.ownsRow B 3 1 v cs.length (cellsI cs)
theorem OwnI.nil (w : World) (B : Nat) : OwnI w B (.slice none 0 0) [] := ⟨rfl, Or.inl ⟨rfl, rfl⟩⟩
theorem OwnI.lt {w : World} {B : Nat} {v : Value} {l : List Int} (h : OwnI w B v l) {k : Nat} (hk : v.ownBlock = some k) : B ≤ k ∧ k < w.heap.size := by
  rcases h.2 with ⟨rfl, _⟩ | ⟨g, cap, cur, rfl, hB, hg, _⟩
  · cases hk
  · cases hk
    refine ⟨hB, ?_⟩
    rcases Nat.lt_or_ge g w.heap.size with h' | h'
    · exact h'
    · rw [Array.getElem?_eq_none h'] at hg; cases hg
theorem OwnI.below {w w' : World} {B : Nat} {v : Value} {l : List Int} (h : OwnI w B v l) (hb : Below w.heap.size w w') : OwnI w' B v l := by
  obtain ⟨h1, h2 | ⟨g, cap, cur, h3, h4, h5, h6⟩⟩ := h
  · exact ⟨h1, Or.inl h2⟩
  · refine ⟨h1, Or.inr ⟨g, cap, cur, h3, h4, ?_, h6⟩⟩
    rw [hb.block g]
    · exact h5
    · rcases Nat.lt_or_ge g w.heap.size with h' | h'
      · exact h'
      · rw [Array.getElem?_eq_none h'] at h5; cases h5
theorem OwnI.form {w : World} {B : Nat} {v : Value} {l : List Int} (h : OwnI w B v l) : ∃ A cap, v = .slice A l.length cap ∧ l.length ≤ cap ∧ CellsAt w A (cellsI l) ∧ (∀ a, A = some a → B ≤ a.block ∧ a.spot = none) ∧ v.ownBlock = A.map (·.block) := by
  rcases h.2 with ⟨rfl, h0⟩ | ⟨g, cap, cur, rfl, hB, hg, hn, hm, hsz, htake⟩
  · have : l = [] := List.eq_nil_of_length_eq_zero h0
    subst this
    exact ⟨none, 0, rfl, Nat.le_refl _, fun h => absurd rfl h, (fun a ha => by cases ha), rfl⟩
  · refine ⟨some ⟨g, 0, none⟩, cap, rfl, hn, ?_, (fun a ha => by cases ha; exact ⟨hB, rfl⟩), rfl⟩
    intro _
    have hlt : g < w.heap.size := by
      rcases Nat.lt_or_ge g w.heap.size with h' | h'
      · exact h'
      · rw [Array.getElem?_eq_none h'] at hg; cases hg
    refine ⟨g, 0, rfl, hlt, fun j u hu => ?_⟩
    have e := cell_of_row w g j cur 3 (0, 0) hg
    rw [Nat.zero_add, e, ← Array.getElem?_toList]
    rw [← htake] at hu
    have hj : j < l.length * 1 := by
      rcases Nat.lt_or_ge j (l.length * 1) with h' | h'
      · exact h'
      · rw [List.getElem?_take_eq_none h'] at hu; cases hu
    rwa [List.getElem?_take_of_lt hj] at hu
theorem OwnI.base {w : World} {B B' : Nat} {v : Value} {l : List Int} (h : OwnI w B v l) (hB : B' ≤ B) : OwnI w B' v l := by
  obtain ⟨h1, h2 | ⟨g, cap, cur, h3, h4, h5⟩⟩ := h
  · exact ⟨h1, Or.inl h2⟩
  · exact ⟨h1, Or.inr ⟨g, cap, cur, h3, Nat.le_trans hB h4, h5⟩⟩
theorem OwnI.new (w : World) (B : Nat) (cs : Array Value) (l : List Int) (hcs : cs.toList = cellsI l) (hB : B ≤ w.heap.size) (hm : l.length ≤ maxLen) : OwnI (w.alloc (.cells cs 3)) B (.slice (some ⟨w.heap.size, 0, none⟩) l.length l.length) l := by
  have hsz : cs.size = l.length := by rw [← Array.length_toList, hcs, cellsI_length]
  refine ⟨by rw [cellsI_length, Nat.mul_one], Or.inr ⟨w.heap.size, l.length, cs, rfl, hB, heap_alloc_new w _, Nat.le_refl _, hm, by rw [hsz, Nat.mul_one], ?_⟩⟩
  rw [hcs, Nat.mul_one, ← cellsI_length]; exact List.take_length

theorem wpList_append_ints {w : World} {ops : Array Oper} {rest : List Oper} {o : Oper} {a : Act} {Q : Exit → Act → World → Prop} (hgd : o.guard = none) (s x : Operand)
    (ho : o.op = .call { callee := .builtin .append, args := #[s, x], argTypes := #[22, 22] })
    {B : Nat} {v : Value} {l : List Int} (hs : a.eval s = v) (hown : OwnI w B v l) {A : Option Addr} {src : List Int} {n c : Nat} (hx : a.eval x = .slice A n c) (hn : src.length = n) (hsrc : CellsAt w A (cellsI src))
    (hb : l.length + src.length ≤ 17592186044416) (hbase : B ≤ w.heap.size)
    (h : ∀ v' w', OwnI w' B v' (l ++ src) → w.grownBy w' v.ownBlock → wpList Try.prog ops Q rest (a.put o.dst v') w') : wpList Try.prog ops Q (o :: rest) a w := by
  subst hn
  refine wpList_append_cells hgd s x ho Try.underlying22 infoInt rfl (by decide) hs hown hx (by rw [cellsI_length, Nat.mul_one]) hsrc ?_ ?_ ?_ hbase ?_
  · intro u hu
    obtain ⟨c, _, rfl⟩ := List.mem_map.1 hu
    rfl
  · unfold maxLen; omega
  · omega
  · intro v' w' h2 h3
    refine h v' w' ?_ h3
    unfold OwnI
    rw [List.length_append, cellsI_append]
    exact h2

end Go.Proofs.Ytbkpnffgihjikaa.Utf

/- Rows of keys in memory: a slice that a function made. -/
import Derived.Test.YtbflcikfaoojmaaDoorHKd12
set_option linter.unusedVariables false
set_option linter.unusedSimpArgs false
namespace Go.Proofs.YtbflcikfaoojmaaDoor.Edit
open Go.RowKit Go.Lib Go.Shelf ChangeShapes Mem Utf UtfP

def cellsK (l : List (Int × Int)) : List Value := l.flatMap fun k => [.int .i64 k.1, .int .i64 k.2]
theorem cellsK_length (l : List (Int × Int)) : (cellsK l).length = l.length * 2 := by
  induction l with
  | nil => rfl
  | cons x r ih =>
    have e : cellsK (x :: r) = .int .i64 x.1 :: .int .i64 x.2 :: cellsK r := rfl
    rw [e, List.length_cons, List.length_cons, ih, List.length_cons]; omega
theorem cellsK_append (l m : List (Int × Int)) : cellsK (l ++ m) = cellsK l ++ cellsK m := by simp [cellsK]
theorem cellsK_at : ∀ (l : List (Int × Int)) (j : Nat) (k : Int × Int), l[j]? = some k → (cellsK l)[j * 2]? = some (.int .i64 k.1) ∧ (cellsK l)[j * 2 + 1]? = some (.int .i64 k.2) := by
  intro l
  induction l with
  | nil => intro j k h; simp at h
  | cons x r ih =>
    intro j k h
    have e : cellsK (x :: r) = .int .i64 x.1 :: .int .i64 x.2 :: cellsK r := rfl
    rw [e]
    cases j with
    | zero => simp at h; subst h; exact ⟨rfl, rfl⟩
    | succ j =>
      have := ih j k (by simpa using h)
      rw [show (j + 1) * 2 = j * 2 + 1 + 1 by omega]
      exact this

theorem infoKey : (Tryd.prog.info? 62).map (fun i => (i.zero, i.size, i.bytes)) = some (some (.agg #[.int .i64 0, .int .i64 0]), 2, 16) := by kernel_rfl
def OwnK (w : World) (B : Nat) (v : Value) (l : List (Int × Int)) : Prop := w.ownsRow B 62 2 v l.length (cellsK l)

theorem OwnK.nil (w : World) (B : Nat) : OwnK w B (.slice none 0 0) [] := ⟨rfl, Or.inl ⟨rfl, rfl⟩⟩
theorem OwnK.lt {w : World} {B : Nat} {v : Value} {l : List (Int × Int)} (h : OwnK w B v l) {k : Nat} (hk : v.ownBlock = some k) : B ≤ k ∧ k < w.heap.size := World.ownsRow.lt h k hk
theorem OwnK.but {S : List Nat} {w w' : World} {B : Nat} {v : Value} {l : List (Int × Int)} (h : OwnK w B v l) (hb : But S w w') (hS : ∀ k ∈ S, k < B) : OwnK w' B v l := by
  obtain ⟨h1, h2 | ⟨g, cap, cur, h3, h4, h5, h6⟩⟩ := h
  · exact ⟨h1, Or.inl h2⟩
  · refine ⟨h1, Or.inr ⟨g, cap, cur, h3, h4, ?_, h6⟩⟩
    rw [hb.block g]
    · exact h5
    · rcases Nat.lt_or_ge g w.heap.size with h' | h'
      · exact h'
      · rw [Array.getElem?_eq_none h'] at h5; cases h5
    · intro hg
      have := hS g hg
      omega
theorem OwnK.below {w w' : World} {B : Nat} {v : Value} {l : List (Int × Int)} (h : OwnK w B v l) (hb : Below w.heap.size w w') : OwnK w' B v l := h.but (But.of_below (S := []) hb) (by simp)
theorem OwnK.base {w : World} {B B' : Nat} {v : Value} {l : List (Int × Int)} (h : OwnK w B v l) (hB : B' ≤ B) : OwnK w B' v l := by
  obtain ⟨h1, h2 | ⟨g, cap, cur, h3, h4, h5⟩⟩ := h
  · exact ⟨h1, Or.inl h2⟩
  · exact ⟨h1, Or.inr ⟨g, cap, cur, h3, Nat.le_trans hB h4, h5⟩⟩
theorem OwnK.new (w : World) (B : Nat) (cs : Array Value) (l : List (Int × Int)) (hcs : cs.toList = cellsK l) (hB : B ≤ w.heap.size) (hm : l.length ≤ maxLen) : OwnK (w.alloc (.cells cs 62)) B (.slice (some ⟨w.heap.size, 0, none⟩) l.length l.length) l := by
  have hsz : cs.size = l.length * 2 := by rw [← Array.length_toList, hcs, cellsK_length]
  refine ⟨by rw [cellsK_length], Or.inr ⟨w.heap.size, l.length, cs, rfl, hB, heap_alloc_new w _, Nat.le_refl _, hm, hsz, ?_⟩⟩
  rw [hcs, ← cellsK_length]; exact List.take_length
/-- keys in memory at an address -/
def KeysAt (w : World) (A : Option Addr) (l : List (Int × Int)) : Prop := CellsAt w A (cellsK l)
theorem OwnK.form {w : World} {B : Nat} {v : Value} {l : List (Int × Int)} (h : OwnK w B v l) : ∃ A cap, v = .slice A l.length cap ∧ l.length ≤ cap ∧ KeysAt w A l ∧ (∀ a, A = some a → B ≤ a.block ∧ a.block < w.heap.size ∧ a.spot = none) ∧ v.ownBlock = A.map (·.block) := by
  rcases h.2 with ⟨rfl, h0⟩ | ⟨g, cap, cur, rfl, hB, hg, hn, hm, hsz, htake⟩
  · have : l = [] := List.eq_nil_of_length_eq_zero h0
    subst this
    exact ⟨none, 0, rfl, Nat.le_refl _, fun h => absurd rfl h, (fun a ha => by cases ha), rfl⟩
  · have hlt : g < w.heap.size := by
      rcases Nat.lt_or_ge g w.heap.size with h' | h'
      · exact h'
      · rw [Array.getElem?_eq_none h'] at hg; cases hg
    refine ⟨some ⟨g, 0, none⟩, cap, rfl, hn, ?_, (fun a ha => by cases ha; exact ⟨hB, hlt, rfl⟩), rfl⟩
    intro _
    refine ⟨g, 0, rfl, hlt, fun j u hu => ?_⟩
    have e := cell_of_row w g j cur 62 (0, 0) hg
    rw [Nat.zero_add, e, ← Array.getElem?_toList]
    rw [← htake] at hu
    have hj : j < l.length * 2 := by
      rcases Nat.lt_or_ge j (l.length * 2) with h' | h'
      · exact h'
      · rw [List.getElem?_take_eq_none h'] at hu; cases hu
    rwa [List.getElem?_take_of_lt hj] at hu
theorem KeysAt.cell {w : World} {A : Option Addr} {l : List (Int × Int)} (h : KeysAt w A l) {j : Nat} {k : Int × Int} (hj : l[j]? = some k) : ∃ b off, A = some ⟨b, off, none⟩ ∧ b < w.heap.size ∧ w.cell? ⟨b, off + j * 2, none⟩ = some (.int .i64 k.1) ∧ w.cell? ⟨b, off + j * 2 + 1, none⟩ = some (.int .i64 k.2) := by
  obtain ⟨h1, h2⟩ := cellsK_at l j k hj
  have hne : cellsK l ≠ [] := by intro e; rw [e] at h1; simp at h1
  obtain ⟨b, off, hA, hb, hc⟩ := h hne
  exact ⟨b, off, hA, hb, hc _ _ h1, by rw [Nat.add_assoc]; exact hc _ _ h2⟩
theorem KeysAt.but {S : List Nat} {w w' : World} {A : Option Addr} {l : List (Int × Int)} (h : KeysAt w A l) (hb : But S w w') (hS : ∀ a, A = some a → a.block ∉ S) : KeysAt w' A l := by
  intro hne
  obtain ⟨b, off, rfl, hlt, hc⟩ := h hne
  refine ⟨b, off, rfl, Nat.lt_of_lt_of_le hlt hb.size, fun j u hu => ?_⟩
  rw [But.cell hb (p := ⟨b, off + j, none⟩) hlt (hS ⟨b, off, none⟩ rfl)]
  exact hc j u hu

theorem wpList_append_keys {w : World} {ops : Array Oper} {rest : List Oper} {o : Oper} {a : Act} {Q : Exit → Act → World → Prop} (hgd : o.guard = none) (s x : Operand)
    (ho : o.op = .call { callee := .builtin .append, args := #[s, x], argTypes := #[57, 57] })
    {B : Nat} {v : Value} {l : List (Int × Int)} (hs : a.eval s = v) (hown : OwnK w B v l) {A : Option Addr} {src : List (Int × Int)} {n c : Nat} (hx : a.eval x = .slice A n c) (hn : src.length = n) (hsrc : KeysAt w A src)
    (hb : l.length + src.length ≤ 1099511627776) (hbase : B ≤ w.heap.size)
    (h : ∀ v' w', OwnK w' B v' (l ++ src) → w.grownBy w' v.ownBlock → wpList Tryd.prog ops Q rest (a.put o.dst v') w') : wpList Tryd.prog ops Q (o :: rest) a w := by
  subst hn
  refine wpList_append_cells hgd s x ho Tryd.underlying57 infoKey rfl (by decide) hs hown hx (by rw [cellsK_length]) hsrc ?_ ?_ ?_ hbase ?_
  · intro u hu
    obtain ⟨c, _, hc⟩ := List.mem_flatMap.1 hu
    simp at hc
    rcases hc with rfl | rfl <;> rfl
  · unfold maxLen; omega
  · omega
  · intro v' w' h2 h3
    refine h v' w' ?_ h3
    unfold OwnK
    rw [List.length_append, cellsK_append]
    exact h2

theorem But.of_grown {S : List Nat} {a w w' : World} {row : Option Nat} (h : But S a w) (hg : w.grownBy w' row) (hr : ∀ k, row = some k → k ∈ S ∨ a.heap.size ≤ k) : But S a w' :=
  ⟨hg.os.trans h.os, hg.tape.trans h.tape, hg.output.trans h.output, Nat.le_trans h.size hg.size, fun k hk hs => (hg.block k (Nat.lt_of_lt_of_le hk h.size) (fun e => by rcases hr k e.symm with h1 | h1; exact hs h1; omega)).trans (h.block k hk hs)⟩

end Go.Proofs.YtbflcikfaoojmaaDoor.Edit

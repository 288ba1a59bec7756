/- Texts joined: Own; Str; ArZ. -/
import Derived.Test.YtbflcikfaoojmaaDoorGA
import Derived.Maps.AppendAt
import Derived.Deep.AppendLies
import Derived.OwnWalk
import Derived.Laws.BytesArg
import Derived.Test.YtbflcikfaoojmaaDoorGD
import Derived.LoopN
/- Rows of the call's own: append, whatever is appended. -/
set_option linter.unusedVariables false
namespace Go.Proofs.YtbflcikfaoojmaaDoor.Utf
open Go.RowKit Go.Lib Go.Shelf UtfP

theorem cell_alloc_new (w : World) (cs : Array Value) (t : TypeId) (j : Nat) : (w.alloc (.cells cs t)).cell? ⟨w.heap.size, j, none⟩ = cs[j]? := by
  have h : (w.alloc (.cells cs t)).heap[w.heap.size]? = some (.cells cs t (0, 0)) := heap_alloc_new w _
  exact cell_of_row _ _ j cs t (0, 0) h

theorem addr_add (b off j : Nat) : (⟨b, off, none⟩ : Addr).add j = ⟨b, off + j, none⟩ := by
  unfold Addr.add
  by_cases h : j = 0
  · subst h; rfl
  · rw [if_neg h]

/-- cells in memory, from an address on -/
def CellsAt (w : World) (A : Option Addr) (xs : List Value) : Prop :=
  xs ≠ [] → ∃ b off, A = some ⟨b, off, none⟩ ∧ b < w.heap.size ∧ ∀ j u, xs[j]? = some u → w.cell? ⟨b, off + j, none⟩ = some u

def cellsU (l : List UInt8) : List Value := l.map fun c => .int .u8 (c.toNat : Int)
theorem cellsU_length (l : List UInt8) : (cellsU l).length = l.length := by simp [cellsU]
theorem cellsU_append (l m : List UInt8) : cellsU (l ++ m) = cellsU l ++ cellsU m := by simp [cellsU]
theorem cellsU_at {l : List UInt8} {j : Nat} (hj : j < l.length) : (cellsU l)[j]? = some (.int .u8 (bt l j : Int)) := by
  unfold cellsU bt
  rw [List.getElem?_map, List.getD_eq_getElem?_getD, List.getElem?_eq_getElem hj]
  rfl

theorem CellsAt.bytes {w : World} {A : Option Addr} {l : List UInt8} (h : CellsAt w A (cellsU l)) : BytesAt w A l := by
  intro hne
  have hne' : cellsU l ≠ [] := fun e => hne (by have := cellsU_length l; rw [e] at this; exact List.eq_nil_of_length_eq_zero this.symm)
  obtain ⟨b, off, hA, hb, hc⟩ := h hne'
  exact ⟨b, off, hA, hb, fun j hj => hc j _ (cellsU_at hj)⟩
theorem BytesAt.cells {w : World} {A : Option Addr} {l : List UInt8} (h : BytesAt w A l) : CellsAt w A (cellsU l) := by
  intro hne
  have hne' : l ≠ [] := fun e => hne (by subst e; rfl)
  obtain ⟨b, off, hA, hb, hc⟩ := h hne'
  refine ⟨b, off, hA, hb, fun j u hu => ?_⟩
  have hj : j < l.length := by
    have := (List.getElem?_eq_some_iff.1 hu).1
    rwa [cellsU_length] at this
  rw [cellsU_at hj] at hu
  cases hu
  exact hc j hj
theorem CellsAt.new (w : World) (cs : Array Value) (t : TypeId) (xs : List Value) (hcs : cs.toList = xs) : CellsAt (w.alloc (.cells cs t)) (some ⟨w.heap.size, 0, none⟩) xs := by
  intro _
  refine ⟨_, 0, rfl, by simp, fun j u hu => ?_⟩
  rw [Nat.zero_add, cell_alloc_new, ← Array.getElem?_toList, hcs]
  exact hu
theorem bytes_new (w : World) (l : List UInt8) (t : TypeId) (cs : Array Value) (hcs : cs.toList = cellsU l) : BytesAt (w.alloc (.cells cs t)) (some ⟨w.heap.size, 0, none⟩) l :=
  (CellsAt.new w cs t _ hcs).bytes

section
variable {P : Program} {w : World} {base : Nat} {t e : TypeId} {z : Value} {size bytes : Nat}

theorem run_append_cells (ty : TypeId) (ht : P.underlying t = some (.slice e)) (hinfo : (P.info? e).map (fun i => (i.zero, i.size, i.bytes)) = some (some z, size, bytes)) (hzs : z.cells.size = size) (hsz : 0 < size)
    {v : Value} {n : Nat} {xs : List Value} (hown : w.ownsRow base e size v n xs) {A : Option Addr} {m c : Nat} {news : List Value} (hl : news.length = m * size) (hsrc : CellsAt w A news) (h1 : ∀ u ∈ news, u.oneCell' = true)
    (h63 : n + m ≤ maxLen) (hbytes : (n + m) * bytes ≤ 140737488355328) (hbase : base ≤ w.heap.size) :
    ∃ v' w', (Builtin.append_ #[t, t] ty #[v, .slice A m c]).run P w = .ok v' w' ∧ w'.ownsRow base e size v' (n + m) (xs ++ news) ∧ w.grownBy w' v.ownBlock := by
  obtain ⟨i, hi, hz, hs, hby⟩ := info_parts hinfo
  rcases A with _ | ad
  · have hnil : news = [] := by
      apply Classical.byContradiction
      intro hne
      obtain ⟨b, off, hA, _⟩ := hsrc hne
      cases hA
    subst hnil
    have hm : m = 0 := by
      rcases Nat.eq_zero_or_pos m with h | h
      · exact h
      · have := Nat.mul_pos h hsz
        simp at hl
        omega
    subst hm
    refine ⟨v, w, ?_, by simpa using hown, World.grownBy.refl w _⟩
    rcases hown.2 with ⟨rfl, rfl⟩ | ⟨g, cap, cur, rfl, _, _, hnc, _⟩
    · simp [Builtin.append_, run_underlying ht, Go.sizeOf, typeInfo, hi, Builtin.lenOf, Builtin.firstCells]
    · simp [Builtin.append_, run_underlying ht, Go.sizeOf, typeInfo, hi, Builtin.lenOf, Builtin.firstCells, hnc, storeCells]
  · have hcells : ∀ j u, news[j]? = some u → w.cell? (ad.add j) = some u := by
      intro j u hu
      have hne : news ≠ [] := fun e => by subst e; simp at hu
      obtain ⟨b, off, hA, _, hc⟩ := hsrc hne
      cases hA
      rw [addr_add]
      exact hc j u hu
    obtain ⟨v', w', hrun, h2, h3, _, _⟩ := run_append_own_at (P := P) w base t ty e i z size bytes ht hi hz hs hby hzs hsz v n xs hown ad m c news hl hcells h1 h63 hbytes hbase
    exact ⟨v', w', hrun, h2, h3⟩

theorem wp_append_cells {o : Oper} {a : Act} {K : Act → World → Prop} {Q : Exit → Act → World → Prop} (s x : Operand)
    (ho : o.op = .call { callee := .builtin .append, args := #[s, x], argTypes := #[t, t] })
    (ht : P.underlying t = some (.slice e)) (hinfo : (P.info? e).map (fun i => (i.zero, i.size, i.bytes)) = some (some z, size, bytes)) (hzs : z.cells.size = size) (hsz : 0 < size)
    {v : Value} {n : Nat} {xs : List Value} (hs : a.eval s = v) (hown : w.ownsRow base e size v n xs) {A : Option Addr} {m c : Nat} {news : List Value} (hx : a.eval x = .slice A m c)
    (hl : news.length = m * size) (hsrc : CellsAt w A news) (h1 : ∀ u ∈ news, u.oneCell' = true)
    (h63 : n + m ≤ maxLen) (hbytes : (n + m) * bytes ≤ 140737488355328) (hbase : base ≤ w.heap.size)
    (h : ∀ v' w', w'.ownsRow base e size v' (n + m) (xs ++ news) → w.grownBy w' v.ownBlock → K (a.put o.dst v') w') : o.wp P a w K Q := by
  obtain ⟨v', w', hrun, h2, h3⟩ := run_append_cells (P := P) o.type ht hinfo hzs hsz hown hl hsrc (c := c) h1 h63 hbytes hbase
  unfold Oper.wp execOp
  simp only [ho, resolve, invoke, builtin, Sem.run_bind, Sem.run_pure, Result.andThen_ok, List.map_toArray, List.map_cons, List.map_nil, hs, hx, hrun]
  exact h v' w' h2 h3

theorem wpList_append_cells {ops : Array Oper} {rest : List Oper} {o : Oper} {a : Act} {Q : Exit → Act → World → Prop} (hgd : o.guard = none) (s x : Operand)
    (ho : o.op = .call { callee := .builtin .append, args := #[s, x], argTypes := #[t, t] })
    (ht : P.underlying t = some (.slice e)) (hinfo : (P.info? e).map (fun i => (i.zero, i.size, i.bytes)) = some (some z, size, bytes)) (hzs : z.cells.size = size) (hsz : 0 < size)
    {v : Value} {n : Nat} {xs : List Value} (hs : a.eval s = v) (hown : w.ownsRow base e size v n xs) {A : Option Addr} {m c : Nat} {news : List Value} (hx : a.eval x = .slice A m c)
    (hl : news.length = m * size) (hsrc : CellsAt w A news) (h1 : ∀ u ∈ news, u.oneCell' = true)
    (h63 : n + m ≤ maxLen) (hbytes : (n + m) * bytes ≤ 140737488355328) (hbase : base ≤ w.heap.size)
    (h : ∀ v' w', w'.ownsRow base e size v' (n + m) (xs ++ news) → w.grownBy w' v.ownBlock → wpList P ops Q rest (a.put o.dst v') w') : wpList P ops Q (o :: rest) a w :=
  wpList_plain hgd fun _ hK => wp_append_cells s x ho ht hinfo hzs hsz hs hown hx hl hsrc h1 h63 hbytes hbase fun v' w' h2 h3 => hK _ _ (h v' w' h2 h3)
end

/-! bytes -/
theorem infoU8 : (Tryd.prog.info? 5).map (fun i => (i.zero, i.size, i.bytes)) = some (some (.int .u8 0), 1, 1) := by kernel_rfl
def OwnB (w : World) (B : Nat) (v : Value) (l : List UInt8) : Prop := w.ownsRow B 5 1 v l.length (cellsU l)

theorem OwnB.nil (w : World) (B : Nat) : OwnB w B (.slice none 0 0) [] := ⟨rfl, Or.inl ⟨rfl, rfl⟩⟩
theorem OwnB.new (w : World) (B : Nat) (cs : Array Value) (l : List UInt8) (hcs : cs.toList = cellsU l) (hB : B ≤ w.heap.size) (hm : l.length ≤ maxLen) : OwnB (w.alloc (.cells cs 5)) B (.slice (some ⟨w.heap.size, 0, none⟩) l.length l.length) l := by
  have hsz : cs.size = l.length := by rw [← Array.length_toList, hcs, cellsU_length]
  refine ⟨by rw [cellsU_length, Nat.mul_one], Or.inr ⟨w.heap.size, l.length, cs, rfl, hB, heap_alloc_new w _, Nat.le_refl _, hm, by rw [hsz, Nat.mul_one], ?_⟩⟩
  rw [hcs, Nat.mul_one, ← cellsU_length]; exact List.take_length
theorem OwnB.form {w : World} {B : Nat} {v : Value} {l : List UInt8} (h : OwnB w B v l) : ∃ A cap, v = .slice A l.length cap ∧ l.length ≤ cap ∧ BytesAt w A l ∧ (∀ a, A = some a → B ≤ a.block ∧ a.spot = none) ∧ v.ownBlock = A.map (·.block) := by
  rcases h.2 with ⟨rfl, h0⟩ | ⟨g, cap, cur, rfl, hB, hg, hn, hm, hsz, htake⟩
  · have : l = [] := List.eq_nil_of_length_eq_zero h0
    subst this
    exact ⟨none, 0, rfl, Nat.le_refl _, fun h => absurd rfl h, (fun a ha => by cases ha), rfl⟩
  · refine ⟨some ⟨g, 0, none⟩, cap, rfl, hn, ?_, (fun a ha => by cases ha; exact ⟨hB, rfl⟩), rfl⟩
    apply CellsAt.bytes
    intro _
    have hlt : g < w.heap.size := by
      rcases Nat.lt_or_ge g w.heap.size with h' | h'
      · exact h'
      · rw [Array.getElem?_eq_none h'] at hg; cases hg
    refine ⟨g, 0, rfl, hlt, fun j u hu => ?_⟩
    have e := cell_of_row w g j cur 5 (0, 0) hg
    rw [Nat.zero_add, e, ← Array.getElem?_toList]
    rw [← htake] at hu
    have hj : j < l.length * 1 := by
      rcases Nat.lt_or_ge j (l.length * 1) with h' | h'
      · exact h'
      · rw [List.getElem?_take_eq_none h'] at hu; cases hu
    rwa [List.getElem?_take_of_lt hj] at hu

theorem wpList_append_bytes {w : World} {ops : Array Oper} {rest : List Oper} {o : Oper} {a : Act} {Q : Exit → Act → World → Prop} (hgd : o.guard = none) (s x : Operand)
    (ho : o.op = .call { callee := .builtin .append, args := #[s, x], argTypes := #[47, 47] })
    {B : Nat} {v : Value} {l : List UInt8} (hs : a.eval s = v) (hown : OwnB w B v l) {A : Option Addr} {src : List UInt8} {n c : Nat} (hx : a.eval x = .slice A n c) (hn : src.length = n) (hsrc : BytesAt w A src)
    (hb : l.length + src.length ≤ 140737488355328) (hbase : B ≤ w.heap.size)
    (h : ∀ v' w', OwnB w' B v' (l ++ src) → w.grownBy w' v.ownBlock → wpList Tryd.prog ops Q rest (a.put o.dst v') w') : wpList Tryd.prog ops Q (o :: rest) a w := by
  subst hn
  refine wpList_append_cells hgd s x ho Tryd.underlying47 infoU8 rfl (by decide) hs hown hx (by rw [cellsU_length, Nat.mul_one]) hsrc.cells ?_ ?_ ?_ hbase ?_
  · intro u hu
    obtain ⟨c, _, rfl⟩ := List.mem_map.1 hu
    rfl
  · unfold maxLen; omega
  · omega
  · intro v' w' h2 h3
    refine h v' w' ?_ h3
    unfold OwnB
    rw [List.length_append, cellsU_append]
    exact h2

theorem BytesAt.grown {w w' : World} {A : Option Addr} {l : List UInt8} {row : Option Nat} (h : BytesAt w A l) (hg : w.grownBy w' row) (hr : ∀ a k, A = some a → row = some k → a.block ≠ k) : BytesAt w' A l := by
  intro hne
  obtain ⟨b, off, rfl, hlt, hc⟩ := h hne
  refine ⟨b, off, rfl, Nat.lt_of_lt_of_le hlt hg.size, fun j hj => ?_⟩
  rw [World.cell?_of_block (w := w) (a := ⟨b, off + j, none⟩) (hg.block b hlt (fun e => hr _ b rfl e.symm rfl))]
  exact hc j hj

theorem Below.of_grown {B : Nat} {a w w' : World} {row : Option Nat} (h : Below B a w) (hg : w.grownBy w' row) (hB : B ≤ w.heap.size) (hr : ∀ k, row = some k → B ≤ k) : Below B a w' := h.grown hg hB hr

end Go.Proofs.YtbflcikfaoojmaaDoor.Utf

/- string(b): a slice of bytes as a string. -/
set_option linter.unusedVariables false
namespace Go.Proofs.YtbflcikfaoojmaaDoor.Utf
open Go.RowKit Go.Lib Go.Shelf UtfP

theorem bytesAt_drew (w : World) (A : Option Addr) (l : List UInt8) : BytesAt w.drew A l = BytesAt w A l := rfl
theorem bytesAt_drewN (w : World) (n : Nat) (A : Option Addr) (l : List UInt8) : BytesAt (w.drewN n) A l = BytesAt w A l := rfl

def strOf (l : List UInt8) : ByteArray := ⟨l.toArray⟩
theorem strOf_inj {l m : List UInt8} (h : strOf l = strOf m) : l = m := by
  have := congrArg (fun s : ByteArray => s.data.toList) h
  simpa [strOf] using this
theorem strOf_toList (l : List UInt8) : (strOf l).toList = l := by
  rw [ByteArray.toList_eq]
  rfl
theorem strOf_size (l : List UInt8) : (strOf l).size = l.length := rfl

theorem OwnB.form' {w : World} {B : Nat} {v : Value} {l : List UInt8} (h : OwnB w B v l) : ∃ A n cap, v = .slice A n cap ∧ l.length = n ∧ n ≤ cap ∧ BytesAt w A l := by
  obtain ⟨A, cap, hv, hc, hb, _⟩ := h.form
  exact ⟨A, _, cap, hv, rfl, hc, hb⟩

theorem lit_fffd : (ByteArray.mk #[239, 191, 189]) = strOf [239, 191, 189] := rfl
theorem strOf_append (a b : List UInt8) : strOf a ++ strOf b = strOf (a ++ b) := by
  apply ByteArray.ext
  apply Array.ext'
  simp [strOf]

theorem conv_str {w : World} {A : Option Addr} {l : List UInt8} {cap : Nat} (h : BytesAt w A l) :
    (convert 47 9 (.slice A l.length cap)).run Tryd.prog w = .ok (.string (strOf l)) w := by
  by_cases hne : l = []
  · subst hne
    cases A with
    | none => exact run_convert_bytes_nil w 47 5 Tryd.underlying47 Tryd.underlying5 _ _ _ Tryd.underlying9
    | some a =>
      rw [run_convert_bytes_string w 47 9 5 _ _ cap Tryd.underlying47 Tryd.underlying5 Tryd.underlying9]
      have := run_bytesToString (P := Tryd.prog) w a 0 cap [] (by simp [loadCells, loadCellsFrom])
      exact this
  · obtain ⟨b, off, rfl, _, hc⟩ := h hne
    have hx : ∀ i, i < l.length → w.cell? ⟨b, off + i, none⟩ = some (.int .u8 ((l.map fun c => (c.toNat : Int)).getD i 0)) := by
      intro i hi
      have e : (l.map fun c => (c.toNat : Int)).getD i 0 = (bt l i : Int) := by
        unfold bt
        rw [List.getD_eq_getElem?_getD, List.getD_eq_getElem?_getD, List.getElem?_map, List.getElem?_eq_getElem hi]
        rfl
      rw [e]
      exact hc i hi
    have := run_convert_bytes_arg w 47 5 Tryd.underlying47 Tryd.underlying5 b off l.length cap (l.map fun c => (c.toNat : Int)) (by simp) hx 9 Tryd.underlying9
    rw [this]
    have h2 : (l.map fun c => (c.toNat : Int)).map (fun n => UInt8.ofNat n.toNat) = l := by
      rw [List.map_map]
      conv => rhs; rw [← List.map_id l]
      apply List.map_congr_left
      intro c _
      simp
    have e : strOfNums (l.map fun c => (c.toNat : Int)) = strOf l := congrArg (fun x : List UInt8 => (⟨x.toArray⟩ : ByteArray)) h2
    rw [e]

end Go.Proofs.YtbflcikfaoojmaaDoor.Utf

/- The arena alone (for seats without the edit buffer): its cells, its bytes one by one, whether it is zero, whether it is clean. The lines are XKeys1's and XZero's. -/
set_option linter.unusedVariables false
set_option linter.unusedSimpArgs false
namespace Go.Proofs.YtbflcikfaoojmaaDoor.Edit
open Go.RowKit Go.Lib Go.Shelf ChangeShapes Mem Utf UtfP

theorem bt_append_left {l m : List UInt8} {i : Nat} (h : i < l.length) : bt (l ++ m) i = bt l i := by
  unfold bt
  rw [List.getD_eq_getElem?_getD, List.getD_eq_getElem?_getD, List.getElem?_append_left h]
theorem bt_append_right {l m : List UInt8} {i : Nat} (h : l.length ≤ i) : bt (l ++ m) i = bt m (i - l.length) := by
  unfold bt
  rw [List.getD_eq_getElem?_getD, List.getD_eq_getElem?_getD, List.getElem?_append_right h]

def allZ (l : List UInt8) : Bool := decide (∀ j, j < l.length → bt l j = 0)

theorem allZ_replicate (n : Nat) : allZ (List.replicate n 0) = true := by
  unfold allZ
  rw [decide_eq_true_iff]
  intro j hj
  unfold bt
  rw [List.length_replicate] at hj
  simp [List.getD_eq_getElem?_getD, hj]
theorem allZ_pad (t : List UInt8) (n : Nat) : allZ (t ++ List.replicate n 0) = allZ t := by
  have h0 := allZ_replicate n
  unfold allZ at h0 ⊢
  rw [decide_eq_true_iff] at h0
  rw [decide_eq_decide]
  constructor
  · intro h j hj
    rw [← bt_append_left hj (m := List.replicate n 0)]
    exact h j (by rw [List.length_append]; omega)
  · intro h j hj
    by_cases hjl : j < t.length
    · rw [bt_append_left hjl]; exact h j hjl
    · rw [bt_append_right (by omega)]
      exact h0 _ (by rw [List.length_append] at hj; omega)

theorem cells_bytes {w : World} {c : Nat} {l : List UInt8} (h : Blk w c (cellsB l).toArray 5) (k : Nat) : BytesAt w (some ⟨c, k, none⟩) (l.drop k) := by
  intro hne
  refine ⟨c, k, rfl, h.lt, fun j hj => ?_⟩
  rw [List.length_drop] at hj
  have := cellsB_get l (k + j) (by omega)
  rw [h.cell (j := k + j) (v := .int .u8 ((l.getD (k + j) 0).toNat : Int)) (by simpa using this)]
  unfold bt
  rw [List.getD_eq_getElem?_getD, List.getD_eq_getElem?_getD, List.getElem?_drop]

end Go.Proofs.YtbflcikfaoojmaaDoor.Edit

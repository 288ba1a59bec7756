/- Texts joined: Own; PutP; AppR; Put; RefPrint; Cut; TextP; EncP; Text; Str; OwnI; Count; Conv; RefPut. -/
import Derived.Test.YtbkpnffgihjikaaDoorGA
import Derived.Maps.AppendAt
import Derived.Deep.AppendLies
import Derived.OwnWalk
import Derived.Lib.RuneBytes
import Derived.Shelf.Utf8.AppendRunePlain
import Derived.Shelf.Small.Utf8
import Derived.Test.YtbkpnffgihjikaaDoorGB
import Derived.Laws.BytesArg
import Derived.Lib.ConvBytes
import Derived.Laws.AppendOwn
/- Rows of the call's own: append, whatever is appended. -/
set_option linter.unusedVariables false
namespace Go.Proofs.YtbkpnffgihjikaaDoor.Utf
open Go.RowKit Go.Lib Go.Shelf UtfP

theorem cell_alloc_new (w : World) (cs : Array Value) (t : TypeId) (j : Nat) : (w.alloc (.cells cs t)).cell? ⟨w.heap.size, j, none⟩ = cs[j]? := by
  have h : (w.alloc (.cells cs t)).heap[w.heap.size]? = some (.cells cs t (0, 0)) := heap_alloc_new w _
  exact cell_of_row _ _ j cs t (0, 0) h

theorem addr_add (b off j : Nat) : (⟨b, off, none⟩ : Addr).add j = ⟨b, off + j, none⟩ := by
  unfold Addr.add
  by_cases h : j = 0
  · subst h; rfl
  · rw [if_neg h]

/-- cells in memory, from an address on -/
def CellsAt (w : World) (A : Option Addr) (xs : List Value) : Prop :=
  xs ≠ [] → ∃ b off, A = some ⟨b, off, none⟩ ∧ b < w.heap.size ∧ ∀ j u, xs[j]? = some u → w.cell? ⟨b, off + j, none⟩ = some u

def cellsU (l : List UInt8) : List Value := l.map fun c => .int .u8 (c.toNat : Int)
theorem cellsU_length (l : List UInt8) : (cellsU l).length = l.length := by simp [cellsU]
theorem cellsU_append (l m : List UInt8) : cellsU (l ++ m) = cellsU l ++ cellsU m := by simp [cellsU]
theorem cellsU_at {l : List UInt8} {j : Nat} (hj : j < l.length) : (cellsU l)[j]? = some (.int .u8 (bt l j : Int)) := by
  unfold cellsU bt
  rw [List.getElem?_map, List.getD_eq_getElem?_getD, List.getElem?_eq_getElem hj]
  rfl

theorem CellsAt.bytes {w : World} {A : Option Addr} {l : List UInt8} (h : CellsAt w A (cellsU l)) : BytesAt w A l := by
  intro hne
  have hne' : cellsU l ≠ [] := fun e => hne (by have := cellsU_length l; rw [e] at this; exact List.eq_nil_of_length_eq_zero this.symm)
  obtain ⟨b, off, hA, hb, hc⟩ := h hne'
  exact ⟨b, off, hA, hb, fun j hj => hc j _ (cellsU_at hj)⟩
theorem BytesAt.cells {w : World} {A : Option Addr} {l : List UInt8} (h : BytesAt w A l) : CellsAt w A (cellsU l) := by
  intro hne
  have hne' : l ≠ [] := fun e => hne (by subst e; rfl)
  obtain ⟨b, off, hA, hb, hc⟩ := h hne'
  refine ⟨b, off, hA, hb, fun j u hu => ?_⟩
  have hj : j < l.length := by
    have := (List.getElem?_eq_some_iff.1 hu).1
    rwa [cellsU_length] at this
  rw [cellsU_at hj] at hu
  cases hu
  exact hc j hj
theorem CellsAt.new (w : World) (cs : Array Value) (t : TypeId) (xs : List Value) (hcs : cs.toList = xs) : CellsAt (w.alloc (.cells cs t)) (some ⟨w.heap.size, 0, none⟩) xs := by
  intro _
  refine ⟨_, 0, rfl, by simp, fun j u hu => ?_⟩
  rw [Nat.zero_add, cell_alloc_new, ← Array.getElem?_toList, hcs]
  exact hu
theorem bytes_new (w : World) (l : List UInt8) (t : TypeId) (cs : Array Value) (hcs : cs.toList = cellsU l) : BytesAt (w.alloc (.cells cs t)) (some ⟨w.heap.size, 0, none⟩) l :=
  (CellsAt.new w cs t _ hcs).bytes

section
variable {P : Program} {w : World} {base : Nat} {t e : TypeId} {z : Value} {size bytes : Nat}

theorem run_append_cells (ty : TypeId) (ht : P.underlying t = some (.slice e)) (hinfo : (P.info? e).map (fun i => (i.zero, i.size, i.bytes)) = some (some z, size, bytes)) (hzs : z.cells.size = size) (hsz : 0 < size)
    {v : Value} {n : Nat} {xs : List Value} (hown : w.ownsRow base e size v n xs) {A : Option Addr} {m c : Nat} {news : List Value} (hl : news.length = m * size) (hsrc : CellsAt w A news) (h1 : ∀ u ∈ news, u.oneCell' = true)
    (h63 : n + m ≤ maxLen) (hbytes : (n + m) * bytes ≤ 140737488355328) (hbase : base ≤ w.heap.size) :
    ∃ v' w', (Builtin.append_ #[t, t] ty #[v, .slice A m c]).run P w = .ok v' w' ∧ w'.ownsRow base e size v' (n + m) (xs ++ news) ∧ w.grownBy w' v.ownBlock := by
  obtain ⟨i, hi, hz, hs, hby⟩ := info_parts hinfo
  rcases A with _ | ad
  · have hnil : news = [] := by
      apply Classical.byContradiction
      intro hne
      obtain ⟨b, off, hA, _⟩ := hsrc hne
      cases hA
    subst hnil
    have hm : m = 0 := by
      rcases Nat.eq_zero_or_pos m with h | h
      · exact h
      · have := Nat.mul_pos h hsz
        simp at hl
        omega
    subst hm
    refine ⟨v, w, ?_, by simpa using hown, World.grownBy.refl w _⟩
    rcases hown.2 with ⟨rfl, rfl⟩ | ⟨g, cap, cur, rfl, _, _, hnc, _⟩
    · simp [Builtin.append_, run_underlying ht, Go.sizeOf, typeInfo, hi, Builtin.lenOf, Builtin.firstCells]
    · simp [Builtin.append_, run_underlying ht, Go.sizeOf, typeInfo, hi, Builtin.lenOf, Builtin.firstCells, hnc, storeCells]
  · have hcells : ∀ j u, news[j]? = some u → w.cell? (ad.add j) = some u := by
      intro j u hu
      have hne : news ≠ [] := fun e => by subst e; simp at hu
      obtain ⟨b, off, hA, _, hc⟩ := hsrc hne
      cases hA
      rw [addr_add]
      exact hc j u hu
    obtain ⟨v', w', hrun, h2, h3, _, _⟩ := run_append_own_at (P := P) w base t ty e i z size bytes ht hi hz hs hby hzs hsz v n xs hown ad m c news hl hcells h1 h63 hbytes hbase
    exact ⟨v', w', hrun, h2, h3⟩

theorem wp_append_cells {o : Oper} {a : Act} {K : Act → World → Prop} {Q : Exit → Act → World → Prop} (s x : Operand)
    (ho : o.op = .call { callee := .builtin .append, args := #[s, x], argTypes := #[t, t] })
    (ht : P.underlying t = some (.slice e)) (hinfo : (P.info? e).map (fun i => (i.zero, i.size, i.bytes)) = some (some z, size, bytes)) (hzs : z.cells.size = size) (hsz : 0 < size)
    {v : Value} {n : Nat} {xs : List Value} (hs : a.eval s = v) (hown : w.ownsRow base e size v n xs) {A : Option Addr} {m c : Nat} {news : List Value} (hx : a.eval x = .slice A m c)
    (hl : news.length = m * size) (hsrc : CellsAt w A news) (h1 : ∀ u ∈ news, u.oneCell' = true)
    (h63 : n + m ≤ maxLen) (hbytes : (n + m) * bytes ≤ 140737488355328) (hbase : base ≤ w.heap.size)
    (h : ∀ v' w', w'.ownsRow base e size v' (n + m) (xs ++ news) → w.grownBy w' v.ownBlock → K (a.put o.dst v') w') : o.wp P a w K Q := by
  obtain ⟨v', w', hrun, h2, h3⟩ := run_append_cells (P := P) o.type ht hinfo hzs hsz hown hl hsrc (c := c) h1 h63 hbytes hbase
  unfold Oper.wp execOp
  simp only [ho, resolve, invoke, builtin, Sem.run_bind, Sem.run_pure, Result.andThen_ok, List.map_toArray, List.map_cons, List.map_nil, hs, hx, hrun]
  exact h v' w' h2 h3

theorem wpList_append_cells {ops : Array Oper} {rest : List Oper} {o : Oper} {a : Act} {Q : Exit → Act → World → Prop} (hgd : o.guard = none) (s x : Operand)
    (ho : o.op = .call { callee := .builtin .append, args := #[s, x], argTypes := #[t, t] })
    (ht : P.underlying t = some (.slice e)) (hinfo : (P.info? e).map (fun i => (i.zero, i.size, i.bytes)) = some (some z, size, bytes)) (hzs : z.cells.size = size) (hsz : 0 < size)
    {v : Value} {n : Nat} {xs : List Value} (hs : a.eval s = v) (hown : w.ownsRow base e size v n xs) {A : Option Addr} {m c : Nat} {news : List Value} (hx : a.eval x = .slice A m c)
    (hl : news.length = m * size) (hsrc : CellsAt w A news) (h1 : ∀ u ∈ news, u.oneCell' = true)
    (h63 : n + m ≤ maxLen) (hbytes : (n + m) * bytes ≤ 140737488355328) (hbase : base ≤ w.heap.size)
    (h : ∀ v' w', w'.ownsRow base e size v' (n + m) (xs ++ news) → w.grownBy w' v.ownBlock → wpList P ops Q rest (a.put o.dst v') w') : wpList P ops Q (o :: rest) a w :=
  wpList_plain hgd fun _ hK => wp_append_cells s x ho ht hinfo hzs hsz hs hown hx hl hsrc h1 h63 hbytes hbase fun v' w' h2 h3 => hK _ _ (h v' w' h2 h3)
end

/-! bytes -/
theorem infoU8 : (Tryd.prog.info? 5).map (fun i => (i.zero, i.size, i.bytes)) = some (some (.int .u8 0), 1, 1) := by kernel_rfl
def OwnB (w : World) (B : Nat) (v : Value) (l : List UInt8) : Prop := w.ownsRow B 5 1 v l.length (cellsU l)

theorem OwnB.nil (w : World) (B : Nat) : OwnB w B (.slice none 0 0) [] := ⟨rfl, Or.inl ⟨rfl, rfl⟩⟩
theorem OwnB.new (w : World) (B : Nat) (cs : Array Value) (l : List UInt8) (hcs : cs.toList = cellsU l) (hB : B ≤ w.heap.size) (hm : l.length ≤ maxLen) : OwnB (w.alloc (.cells cs 5)) B (.slice (some ⟨w.heap.size, 0, none⟩) l.length l.length) l := by
  have hsz : cs.size = l.length := by rw [← Array.length_toList, hcs, cellsU_length]
  refine ⟨by rw [cellsU_length, Nat.mul_one], Or.inr ⟨w.heap.size, l.length, cs, rfl, hB, heap_alloc_new w _, Nat.le_refl _, hm, by rw [hsz, Nat.mul_one], ?_⟩⟩
  rw [hcs, Nat.mul_one, ← cellsU_length]; exact List.take_length
theorem OwnB.form {w : World} {B : Nat} {v : Value} {l : List UInt8} (h : OwnB w B v l) : ∃ A cap, v = .slice A l.length cap ∧ l.length ≤ cap ∧ BytesAt w A l ∧ (∀ a, A = some a → B ≤ a.block ∧ a.spot = none) ∧ v.ownBlock = A.map (·.block) := by
  rcases h.2 with ⟨rfl, h0⟩ | ⟨g, cap, cur, rfl, hB, hg, hn, hm, hsz, htake⟩
  · have : l = [] := List.eq_nil_of_length_eq_zero h0
    subst this
    exact ⟨none, 0, rfl, Nat.le_refl _, fun h => absurd rfl h, (fun a ha => by cases ha), rfl⟩
  · refine ⟨some ⟨g, 0, none⟩, cap, rfl, hn, ?_, (fun a ha => by cases ha; exact ⟨hB, rfl⟩), rfl⟩
    apply CellsAt.bytes
    intro _
    have hlt : g < w.heap.size := by
      rcases Nat.lt_or_ge g w.heap.size with h' | h'
      · exact h'
      · rw [Array.getElem?_eq_none h'] at hg; cases hg
    refine ⟨g, 0, rfl, hlt, fun j u hu => ?_⟩
    have e := cell_of_row w g j cur 5 (0, 0) hg
    rw [Nat.zero_add, e, ← Array.getElem?_toList]
    rw [← htake] at hu
    have hj : j < l.length * 1 := by
      rcases Nat.lt_or_ge j (l.length * 1) with h' | h'
      · exact h'
      · rw [List.getElem?_take_eq_none h'] at hu; cases hu
    rwa [List.getElem?_take_of_lt hj] at hu

theorem wpList_append_bytes {w : World} {ops : Array Oper} {rest : List Oper} {o : Oper} {a : Act} {Q : Exit → Act → World → Prop} (hgd : o.guard = none) (s x : Operand)
    (ho : o.op = .call { callee := .builtin .append, args := #[s, x], argTypes := #[22, 22] })
    {B : Nat} {v : Value} {l : List UInt8} (hs : a.eval s = v) (hown : OwnB w B v l) {A : Option Addr} {src : List UInt8} {n c : Nat} (hx : a.eval x = .slice A n c) (hn : src.length = n) (hsrc : BytesAt w A src)
    (hb : l.length + src.length ≤ 140737488355328) (hbase : B ≤ w.heap.size)
    (h : ∀ v' w', OwnB w' B v' (l ++ src) → w.grownBy w' v.ownBlock → wpList Tryd.prog ops Q rest (a.put o.dst v') w') : wpList Tryd.prog ops Q (o :: rest) a w := by
  subst hn
  refine wpList_append_cells hgd s x ho Tryd.underlying22 infoU8 rfl (by decide) hs hown hx (by rw [cellsU_length, Nat.mul_one]) hsrc.cells ?_ ?_ ?_ hbase ?_
  · intro u hu
    obtain ⟨c, _, rfl⟩ := List.mem_map.1 hu
    rfl
  · unfold maxLen; omega
  · omega
  · intro v' w' h2 h3
    refine h v' w' ?_ h3
    unfold OwnB
    rw [List.length_append, cellsU_append]
    exact h2

theorem BytesAt.grown {w w' : World} {A : Option Addr} {l : List UInt8} {row : Option Nat} (h : BytesAt w A l) (hg : w.grownBy w' row) (hr : ∀ a k, A = some a → row = some k → a.block ≠ k) : BytesAt w' A l := by
  intro hne
  obtain ⟨b, off, rfl, hlt, hc⟩ := h hne
  refine ⟨b, off, rfl, Nat.lt_of_lt_of_le hlt hg.size, fun j hj => ?_⟩
  rw [World.cell?_of_block (w := w) (a := ⟨b, off + j, none⟩) (hg.block b hlt (fun e => hr _ b rfl e.symm rfl))]
  exact hc j hj

theorem Below.of_grown {B : Nat} {a w w' : World} {row : Option Nat} (h : Below B a w) (hg : w.grownBy w' row) (hB : B ≤ w.heap.size) (hr : ∀ k, row = some k → B ≤ k) : Below B a w' := h.grown hg hB hr

end Go.Proofs.YtbkpnffgihjikaaDoor.Utf

/- Characters as numbers: which may be, which may be shown, their bytes. Plain. -/
set_option linter.unusedVariables false
namespace Go.Proofs.YtbkpnffgihjikaaDoor.UtfP
open Go.Lib

def fineC (c : Int) : Bool := decide (0 ≤ c ∧ c ≤ 1114111 ∧ ¬ (55296 ≤ c ∧ c ≤ 57343))
def printC (c : Int) : Bool := fineC c && decide (32 ≤ c ∧ ¬ (127 ≤ c ∧ c ≤ 159))
theorem fineC_iff {c : Int} : (fineC c = true ↔ 0 ≤ c ∧ c ≤ 1114111 ∧ ¬ (55296 ≤ c ∧ c ≤ 57343)) ∧ (fineC c = false ↔ ¬ (0 ≤ c ∧ c ≤ 1114111 ∧ ¬ (55296 ≤ c ∧ c ≤ 57343))) := by
  unfold fineC; exact ⟨decide_eq_true_iff, decide_eq_false_iff_not⟩
theorem printC_iff {c : Int} : (printC c = true ↔ (0 ≤ c ∧ c ≤ 1114111 ∧ ¬ (55296 ≤ c ∧ c ≤ 57343)) ∧ 32 ≤ c ∧ ¬ (127 ≤ c ∧ c ≤ 159)) := by
  unfold printC fineC; rw [Bool.and_eq_true, decide_eq_true_iff, decide_eq_true_iff]
theorem printC_fine {c : Int} (h : printC c = true) : fineC c = true := by
  unfold printC at h; rw [Bool.and_eq_true] at h; exact h.1
/-- a character's bytes -/
def enc (c : Int) : List UInt8 := encodeRune c
theorem enc_length (c : Int) : 1 ≤ (enc c).length ∧ (enc c).length ≤ 4 := by
  have := runeCells_le c
  rw [runeCells_length] at this
  exact this

end Go.Proofs.YtbkpnffgihjikaaDoor.UtfP

/- utf8.AppendRune, by the shelf's contract. -/
set_option linter.unusedVariables false
namespace Go.Proofs.YtbkpnffgihjikaaDoor.Utf
open Go.RowKit Go.Lib Go.Shelf UtfP

def rhoA : Ren := ⟨fun | 242 => 73 | 278 => 87 | _ => 0,
  fun | 4 => 4 | 5 => 5 | 21 => 21 | 37 => 22 | 46 => 47 | 51 => 113 | _ => 0, fun _ => 0⟩
theorem laysA : Lays.n242 Tryd.prog rhoA where
  mixed := by kernel_rfl
  f242 := by kernel_rfl
  f278 := by kernel_rfl
  t4 := by kernel_rfl
  a4 := fun _ => by kernel_rfl
  z4 := fun _ => by kernel_rfl
  v4 := fun _ => by kernel_rfl
  t5 := by kernel_rfl
  a5 := fun _ => by kernel_rfl
  z5 := fun _ => by kernel_rfl
  v5 := fun _ => by kernel_rfl
  t21 := by kernel_rfl
  a21 := fun _ => by kernel_rfl
  z21 := fun _ => by kernel_rfl
  v21 := fun _ => by kernel_rfl
  t37 := by kernel_rfl
  a37 := fun _ => by kernel_rfl
  z37 := fun _ => by kernel_rfl
  v37 := fun _ => by kernel_rfl
  t46 := by kernel_rfl
  a46 := fun _ => by kernel_rfl
  z46 := fun _ => by kernel_rfl
  v46 := fun _ => by kernel_rfl
  t51 := by kernel_rfl
  a51 := fun _ => by kernel_rfl
  z51 := fun _ => by kernel_rfl
  v51 := fun _ => by kernel_rfl
theorem enc_cells (c : Int) : cellsU (enc c) = Lib.runeCells c := byteCells_encodeRune c

theorem appendRune (B : Nat) (v : Value) (l : List UInt8) (r : Int) (h0 : -2147483648 ≤ r) (h1 : r ≤ 2147483647) (w : World) (hown : OwnB w B v l) (hlen : l.length + 4 ≤ 140737488355328) (hB : B ≤ w.heap.size) :
    Calls Tryd.prog 73 #[v, .int .i32 r] w fun e w' => ∃ v', e = .returned v' ∧ OwnB w' B v' (l ++ enc r) ∧ w.grownBy w' v.ownBlock := by
  refine (Any.utf8_AppendRune_plain (P := Tryd.prog) (ρ := rhoA) laysA infoU8 B v l.length (cellsU l) r h0 h1 w hown hlen hB).mono ?_
  rintro e w' ⟨v', he, hown', o, hg⟩
  refine ⟨v', he, ?_, ⟨hg.os, hg.tape, hg.output, ?_, fun k hk hne => ?_⟩⟩
  · unfold OwnB
    rw [List.length_append, cellsU_append, enc_cells]
    rw [runeCells_length] at hown'
    exact hown'
  · have := hg.size; simp at this; omega
  · rw [hg.block k (by simp; omega) hne]
    exact Below.heap_alloc w o k hk

theorem OwnB.base {w : World} {B B' : Nat} {v : Value} {l : List UInt8} (h : OwnB w B v l) (hB : B' ≤ B) : OwnB w B' v l := by
  obtain ⟨h1, h2 | ⟨g, cap, cur, h3, h4, h5⟩⟩ := h
  · exact ⟨h1, Or.inl h2⟩
  · exact ⟨h1, Or.inr ⟨g, cap, cur, h3, Nat.le_trans hB h4, h5⟩⟩

end Go.Proofs.YtbkpnffgihjikaaDoor.Utf

/- utf.Put, utf.Printable and the reference's Fine, Printable, Put, walked. -/
set_option linter.unusedVariables false
namespace Go.Proofs.YtbkpnffgihjikaaDoor.Utf
open Go.RowKit Go.Lib Go.Shelf UtfP

def rhoV : Ren := ⟨fun | 119 => 72 | _ => 0, fun | 4 => 4 | 5 => 5 | 21 => 21 | 37 => 22 | 46 => 47 | 51 => 113 | _ => 0, fun _ => 0⟩
theorem laysV : Lays.n119 Tryd.prog rhoV where
  mixed := by kernel_rfl
  f119 := by kernel_rfl
  t4 := by kernel_rfl
  a4 := fun _ => by kernel_rfl
  z4 := fun _ => by kernel_rfl
  v4 := fun _ => by kernel_rfl
  t21 := by kernel_rfl
  a21 := fun _ => by kernel_rfl
  z21 := fun _ => by kernel_rfl
  v21 := fun _ => by kernel_rfl

theorem validRune (r : Int) (w : World) : Calls Tryd.prog 72 #[.int .i32 r] w fun e w' => e = .returned (.bool (Lib.validRune r)) ∧ w = w' :=
  (Any.utf8_ValidRune (P := Tryd.prog) (ρ := rhoV) laysV r w).mono fun _ _ ⟨he, hw⟩ => ⟨he, hw.symm⟩

/-- what Put hands back of a character that may be -/
def PutOk (w : World) (c : Int) (e : Ending) (w' : World) : Prop := ∃ v, e = .returned (.tuple #[v, .int .i64 0]) ∧ OwnB w' w.heap.size v (enc c) ∧ Below w.heap.size w w'

set_option maxHeartbeats 1000000 in
theorem put_ok (c : Int) (w : World) (h : fineC c = true) : Calls Tryd.prog 61 #[.int .i64 c] w (PutOk w c) := by
  have hc := fineC_iff.1.1 h
  have C1 := fun W => validRune c W
  rw [show Lib.validRune c = true by unfold Lib.validRune; simp; omega] at C1
  have C2 := appendRune w.heap.size (.slice none 0 0) [] c (by omega) (by omega) w (OwnB.nil _ _) (by simp) (Nat.le_refl _)
  have H1 := Lib.hid C1
  have H2 := Lib.hid C2
  have k1 : decide (c < 0) = false := by simp; omega
  have k2 : decide (1114111 < c) = false := by simp; omega
  have b1 : 0 ≤ c := hc.1
  have b2 : c ≤ 1114111 := hc.2.1
  clear C1 C2 h hc
  go_enter Tryd.func61, Tryd.ntmps61
  go_wp2_with (first | (go_at_call 72; refine (H1.out _).mono ?_; rintro e w1 ⟨rfl, rfl⟩) | (go_at_call 73; refine (H2.out).mono ?_; rintro e w2 ⟨v, rfl, hown, hg⟩))
  go_ret2
  exact ⟨v, rfl, by simpa using hown, (Below.refl _ _).grown hg (Nat.le_refl _) (fun k hk => by cases hk)⟩

set_option maxHeartbeats 1000000 in
theorem put_bad (c : Int) (w : World) (h : fineC c = false) : Calls Tryd.prog 61 #[.int .i64 c] w fun e w' => e = .returned (.tuple #[.slice none 0 0, .int .i64 3]) ∧ w = w' := by
  have hc := fineC_iff.2.1 h
  by_cases h1 : c < 0
  · clear h hc
    go_enter Tryd.func61, Tryd.ntmps61
    go_wp2
    go_ret2
    exact ⟨rfl, rfl⟩
  · have k1 : decide (c < 0) = false := by simp; omega
    by_cases h2 : 1114111 < c
    · clear h hc h1
      go_enter Tryd.func61, Tryd.ntmps61
      go_wp2
      go_ret2
      exact ⟨rfl, rfl⟩
    · have k2 : decide (1114111 < c) = false := by simp; omega
      have C1 := fun W => validRune c W
      rw [show Lib.validRune c = false by unfold Lib.validRune; simp; omega] at C1
      have H1 := Lib.hid C1
      have b1 : 0 ≤ c := by omega
      have b2 : c ≤ 1114111 := by omega
      clear C1 h hc h1 h2
      go_enter Tryd.func61, Tryd.ntmps61
      go_wp2_with (go_at_call 72; refine (H1.out _).mono ?_; rintro e w1 ⟨rfl, rfl⟩)
      go_ret2
      exact ⟨rfl, rfl⟩

set_option maxHeartbeats 1000000 in
theorem printable (c : Int) (w : World) : Calls Tryd.prog 53 #[.int .i64 c] w fun e w' => e = .returned (.bool (printC c)) ∧ Below w.heap.size w w' := by
  cases hf : fineC c with
  | false =>
    have H1 := Lib.hid (put_bad c w hf)
    rw [show printC c = false by unfold printC; rw [hf]; rfl]
    clear hf
    go_enter Tryd.func53, Tryd.ntmps53
    go_wp2_with (go_at_call 61; refine (H1.out).mono ?_; rintro e w1 ⟨rfl, rfl⟩)
    go_ret
    exact ⟨rfl, Below.refl _ _⟩
  | true =>
    have H1 := Lib.hid (put_ok c w hf)
    have hp : printC c = decide (32 ≤ c ∧ ¬ (127 ≤ c ∧ c ≤ 159)) := by unfold printC; rw [hf]; rfl
    clear hf
    by_cases h1 : 32 ≤ c
    · by_cases h2 : c < 127
      · rw [show printC c = true by rw [hp]; simp; omega]
        clear hp
        go_enter Tryd.func53, Tryd.ntmps53
        go_wp2_with (go_at_call 61; refine (H1.out).mono ?_; rintro e w1 ⟨v, rfl, _, hb⟩)
        go_ret
        exact ⟨rfl, hb⟩
      · have k2 : decide (c < 127) = false := by simp; omega
        by_cases h3 : 159 < c
        · rw [show printC c = true by rw [hp]; simp; omega]
          clear hp h2
          go_enter Tryd.func53, Tryd.ntmps53
          go_wp2_with (go_at_call 61; refine (H1.out).mono ?_; rintro e w1 ⟨v, rfl, _, hb⟩)
          go_ret
          exact ⟨rfl, hb⟩
        · have k3 : decide (159 < c) = false := by simp; omega
          rw [show printC c = false by rw [hp]; simp; omega]
          clear hp h2 h3
          go_enter Tryd.func53, Tryd.ntmps53
          go_wp2_with (go_at_call 61; refine (H1.out).mono ?_; rintro e w1 ⟨v, rfl, _, hb⟩)
          go_ret
          exact ⟨rfl, hb⟩
    · have k1 : decide (32 ≤ c) = false := by simp; omega
      rw [show printC c = false by rw [hp]; simp; omega]
      clear hp h1
      go_enter Tryd.func53, Tryd.ntmps53
      go_wp2_with (go_at_call 61; refine (H1.out).mono ?_; rintro e w1 ⟨v, rfl, _, hb⟩)
      go_ret
      exact ⟨rfl, hb⟩

end Go.Proofs.YtbkpnffgihjikaaDoor.Utf

/- (the document's tests) The reference's Fine, Printable, Put, walked. -/
set_option linter.unusedVariables false
namespace Go.Proofs.YtbkpnffgihjikaaDoor.Utf
open Go.RowKit Go.Lib Go.Shelf UtfP

set_option maxHeartbeats 1000000 in
theorem refFine (c : Int) (w : World) : Calls Tryd.prog 84 #[.int .i64 c] w fun e w' => e = .returned (.bool (fineC c)) ∧ w = w' := by
  have hi := @fineC_iff c
  generalize fineC c = v at *
  by_cases h1 : 0 ≤ c
  · by_cases h2 : c ≤ 1114111
    · by_cases h3 : 55296 ≤ c
      · by_cases h4 : c ≤ 57343
        · obtain rfl : v = false := hi.2.2 (by omega)
          clear hi
          go_enter Tryd.func84, Tryd.ntmps84
          go_wp2
          go_ret
          exact ⟨rfl, rfl⟩
        · obtain rfl : v = true := hi.1.2 (by omega)
          have k4 : decide (c ≤ 57343) = false := by simp; omega
          clear hi h4
          go_enter Tryd.func84, Tryd.ntmps84
          go_wp2
          go_ret
          exact ⟨rfl, rfl⟩
      · obtain rfl : v = true := hi.1.2 (by omega)
        have k3 : decide (55296 ≤ c) = false := by simp; omega
        clear hi h3
        go_enter Tryd.func84, Tryd.ntmps84
        go_wp2
        go_ret
        exact ⟨rfl, rfl⟩
    · obtain rfl : v = false := hi.2.2 (by omega)
      have k2 : decide (c ≤ 1114111) = false := by simp; omega
      clear hi h2
      go_enter Tryd.func84, Tryd.ntmps84
      go_wp2
      go_ret
      exact ⟨rfl, rfl⟩
  · obtain rfl : v = false := hi.2.2 (by omega)
    have k1 : decide (0 ≤ c) = false := by simp; omega
    clear hi h1
    go_enter Tryd.func84, Tryd.ntmps84
    go_wp2
    go_ret
    exact ⟨rfl, rfl⟩

set_option maxHeartbeats 1000000 in
theorem refPrintable (c : Int) (w : World) : Calls Tryd.prog 68 #[.int .i64 c] w fun e w' => e = .returned (.bool (printC c)) ∧ w = w' := by
  have H1 := Lib.hid (refFine c)
  have hp : printC c = (fineC c && decide (32 ≤ c ∧ ¬ (127 ≤ c ∧ c ≤ 159))) := rfl
  generalize fineC c = f at *
  generalize printC c = v at *
  cases f with
  | false =>
    obtain rfl : v = false := by simpa using hp
    clear hp
    go_enter Tryd.func68, Tryd.ntmps68
    go_wp2_with (go_at_call 84; refine (H1.out _).mono ?_; rintro e w1 ⟨rfl, rfl⟩)
    go_ret
    exact ⟨rfl, rfl⟩
  | true =>
    by_cases h1 : 32 ≤ c
    · by_cases h2 : 127 ≤ c
      · by_cases h3 : c ≤ 159
        · obtain rfl : v = false := by rw [hp]; simp; omega
          clear hp
          go_enter Tryd.func68, Tryd.ntmps68
          go_wp2_with (go_at_call 84; refine (H1.out _).mono ?_; rintro e w1 ⟨rfl, rfl⟩)
          go_ret
          exact ⟨rfl, rfl⟩
        · obtain rfl : v = true := by rw [hp]; simp; omega
          have k3 : decide (c ≤ 159) = false := by simp; omega
          clear hp h3
          go_enter Tryd.func68, Tryd.ntmps68
          go_wp2_with (go_at_call 84; refine (H1.out _).mono ?_; rintro e w1 ⟨rfl, rfl⟩)
          go_ret
          exact ⟨rfl, rfl⟩
      · obtain rfl : v = true := by rw [hp]; simp; omega
        have k2 : decide (127 ≤ c) = false := by simp; omega
        clear hp h2
        go_enter Tryd.func68, Tryd.ntmps68
        go_wp2_with (go_at_call 84; refine (H1.out _).mono ?_; rintro e w1 ⟨rfl, rfl⟩)
        go_ret
        exact ⟨rfl, rfl⟩
    · obtain rfl : v = false := by rw [hp]; simp; omega
      have k1 : decide (32 ≤ c) = false := by simp; omega
      clear hp h1
      go_enter Tryd.func68, Tryd.ntmps68
      go_wp2_with (go_at_call 84; refine (H1.out _).mono ?_; rintro e w1 ⟨rfl, rfl⟩)
      go_ret
      exact ⟨rfl, rfl⟩

end Go.Proofs.YtbkpnffgihjikaaDoor.Utf

/- A cut of bytes; a row of one's own in a later world. -/
set_option linter.unusedVariables false
namespace Go.Proofs.YtbkpnffgihjikaaDoor.Utf
open Go.RowKit Go.Lib Go.Shelf UtfP

def lenOf : Value → Nat | .slice _ n _ => n | _ => 0

theorem BytesAt.cut {w : World} {A : Option Addr} {l : List UInt8} {k cap : Nat} (h : BytesAt w A l) (hcap : l.length ≤ cap) :
    BytesAt w (if cap = k then A else A.map (·.add k)) (l.drop k) := by
  intro hne
  have hk : k < l.length := by
    rcases Nat.lt_or_ge k l.length with h' | h'
    · exact h'
    · exact absurd (List.drop_of_length_le h') hne
  obtain ⟨b, off, rfl, hlt, hc⟩ := h (fun e => by subst e; simp at hk)
  rw [if_neg (by omega)]
  refine ⟨b, off + k, by simp [addr_add], hlt, fun j hj => ?_⟩
  rw [List.length_drop] at hj
  rw [Nat.add_assoc, hc (k + j) (by omega)]
  have : bt (l.drop k) j = bt l (k + j) := by
    unfold bt
    rw [List.getD_eq_getElem?_getD, List.getD_eq_getElem?_getD, List.getElem?_drop]
  rw [this]

theorem OwnB.lt {w : World} {B : Nat} {v : Value} {l : List UInt8} (h : OwnB w B v l) {k : Nat} (hk : v.ownBlock = some k) : B ≤ k ∧ k < w.heap.size := by
  rcases h.2 with ⟨rfl, _⟩ | ⟨g, cap, cur, rfl, hB, hg, _⟩
  · cases hk
  · cases hk
    refine ⟨hB, ?_⟩
    rcases Nat.lt_or_ge g w.heap.size with h' | h'
    · exact h'
    · rw [Array.getElem?_eq_none h'] at hg; cases hg
theorem OwnB.below {w w' : World} {B : Nat} {v : Value} {l : List UInt8} (h : OwnB w B v l) (hb : Below w.heap.size w w') : OwnB w' B v l := by
  obtain ⟨h1, h2 | ⟨g, cap, cur, h3, h4, h5, h6⟩⟩ := h
  · exact ⟨h1, Or.inl h2⟩
  · refine ⟨h1, Or.inr ⟨g, cap, cur, h3, h4, ?_, h6⟩⟩
    rw [hb.block g]
    · exact h5
    · rcases Nat.lt_or_ge g w.heap.size with h' | h'
      · exact h'
      · rw [Array.getElem?_eq_none h'] at h5; cases h5

end Go.Proofs.YtbkpnffgihjikaaDoor.Utf

/- The characters of a text; plain. -/
set_option linter.unusedVariables false
namespace Go.Proofs.YtbkpnffgihjikaaDoor.UtfP
open Go.Lib

def charsF : Nat → List UInt8 → List Int
  | 0, _ => []
  | d + 1, l => if l = [] then [] else (if (next l).2.2 = 0 then ((next l).1 : Int) else 65533) :: charsF d (l.drop (next l).2.1)
/-- the characters of a text, what isn't right replaced -/
def chars (l : List UInt8) : List Int := charsF l.length l
def headC (l : List UInt8) : Int := if (next l).2.2 = 0 then ((next l).1 : Int) else 65533

theorem charsF_more : ∀ (d d' : Nat) (l : List UInt8), l.length ≤ d → l.length ≤ d' → charsF d l = charsF d' l := by
  intro d
  induction d with
  | zero =>
    intro d' l h _
    have : l = [] := List.eq_nil_of_length_eq_zero (by omega)
    subst this
    cases d' with
    | zero => rfl
    | succ d' => unfold charsF; rw [if_pos rfl]
  | succ d ih =>
    intro d' l h h'
    by_cases hl : l = []
    · subst hl
      unfold charsF
      cases d' with
      | zero => simp
      | succ d' => simp
    · obtain ⟨f1, f2, _⟩ := next_facts hl
      cases d' with
      | zero => exact absurd (List.eq_nil_of_length_eq_zero (by omega)) hl
      | succ d' =>
        unfold charsF
        rw [if_neg hl, if_neg hl, ih d' (l.drop (next l).2.1) (by rw [List.length_drop]; omega) (by rw [List.length_drop]; omega)]
theorem chars_nil : chars [] = [] := rfl
theorem chars_cons {l : List UInt8} (h : l ≠ []) : chars l = headC l :: chars (l.drop (next l).2.1) := by
  obtain ⟨f1, f2, _⟩ := next_facts h
  have hl := List.length_pos_iff.2 h
  obtain ⟨d, hd⟩ : ∃ d, l.length = d + 1 := ⟨l.length - 1, by omega⟩
  unfold chars
  rw [hd]
  conv => lhs; unfold charsF
  rw [if_neg h]
  unfold headC
  rw [charsF_more d (l.drop (next l).2.1).length (l.drop (next l).2.1) (by rw [List.length_drop]; omega) (Nat.le_refl _)]

def text (l : List UInt8) : List UInt8 := (chars l).flatMap enc

theorem next_small {l : List UInt8} : (next l).1 ≤ 1114111 := by
  unfold next
  by_cases hn : l.length = 0
  · unfold nextN; rw [if_pos hn]; decide
  · have ite_le : ∀ {c : Prop} [Decidable c] {x y : Nat × Nat × Nat}, (c → x.1 ≤ 1114111) → (¬ c → y.1 ≤ 1114111) → (if c then x else y).1 ≤ 1114111 := by
      intro c _ x y hx hy
      by_cases hc : c
      · rw [if_pos hc]; exact hx hc
      · rw [if_neg hc]; exact hy hc
    have hc := size_class (bt l 0)
    have hs := size_cases (bt l 0)
    have s := @sec_iff (bt l 0) (bt l 1)
    have hl := lo_hi_at (bt l 0)
    have c2 := @cont_iff (bt l 2)
    have c3 := @cont_iff (bt l 3)
    unfold nextN
    rw [if_neg hn]
    by_cases a0 : size1 (bt l 0) = 0
    · rw [if_pos a0]; decide
    · rw [if_neg a0]
      by_cases a1 : size1 (bt l 0) = 1
      · rw [if_pos a1]; show bt l 0 ≤ 1114111; omega
      · rw [if_neg a1]
        refine ite_le (fun _ => by decide) (fun _ => ite_le (fun _ => by decide) (fun h1 => ite_le (fun h2 => ?_) (fun h2 => ite_le (fun _ => by decide) (fun _ => ite_le (fun _ => by decide) (fun h3 => ite_le (fun h4 => ?_) (fun h4 => ite_le (fun _ => by decide) (fun _ => ite_le (fun _ => by decide) (fun h5 => ?_))))))))
        · show bt l 0 % 32 * 64 + (bt l 1 - 128) ≤ 1114111
          have := bt_lt l 1; omega
        · show bt l 0 % 16 * 4096 + (bt l 1 - 128) * 64 + (bt l 2 - 128) ≤ 1114111
          have := bt_lt l 1; have := bt_lt l 2; omega
        · show bt l 0 % 8 * 262144 + (bt l 1 - 128) * 4096 + (bt l 2 - 128) * 64 + (bt l 3 - 128) ≤ 1114111
          have k1 := s.1.1 (by simpa using h1)
          have k2 := c2.1.1 (by simpa using h3)
          have k3 := c3.1.1 (by simpa using h5)
          have k4 : 240 ≤ bt l 0 ∧ bt l 0 ≤ 244 := hc.2.2.2.1 (by omega)
          by_cases e : bt l 0 = 244
          · have := hl.2.2.2.2.2 e; rw [e]; omega
          · have : hi2 (bt l 0) = 191 := hl.2.2.2.1 (by omega) e
            omega
theorem headC_bd (l : List UInt8) : 0 ≤ headC l ∧ headC l ≤ 1114111 := by
  unfold headC
  have := @next_small l
  split <;> omega

/-- a replaced one has three bytes; any has at most four, and no more than it came of but for a replaced one -/
theorem enc_le (c : Int) (h0 : 0 ≤ c) : (enc c).length ≤ 4 := (enc_length c).2

end Go.Proofs.YtbkpnffgihjikaaDoor.UtfP

/- A character's bytes are that character; a text's characters may be; plain. -/
set_option linter.unusedVariables false
namespace Go.Proofs.YtbkpnffgihjikaaDoor.UtfP
open Go.Lib

theorem u8_of {z : Int} (h0 : 0 ≤ z) (h1 : z < 256) : ((z.toNat.toUInt8).toNat : Int) = z := by
  have : z.toNat.toUInt8.toNat = z.toNat % 256 := by simp
  rw [this]; omega
theorem enc_eq {c : Int} {zs : List Int} (h : encodeRuneZ c = zs) : enc c = zs.map fun x => x.toNat.toUInt8 := by
  unfold enc encodeRune; rw [h]

theorem next_enc {c : Int} (m : List UInt8) (h : fineC c = true) : next (enc c ++ m) = (c.toNat, (enc c).length, 0) := by
  have hc := fineC_iff.1.1 h
  have hs := @size_class
  have sg : ∀ {z : Int} {n : Nat}, ((z.toNat.toUInt8).toNat : Int) = z → (n : Int) = z → z.toNat.toUInt8.toNat = n := by intro z n h1 h2; omega
  by_cases h1 : c < 128
  · have e := enc_eq (c := c) (zs := [c]) (by unfold encodeRuneZ; rw [if_pos (by omega)])
    rw [e]
    have b0 := u8_of (z := c) (by omega) (by omega)
    unfold next
    have q0 : bt (([c].map fun x : Int => x.toNat.toUInt8) ++ m) 0 = c.toNat := by show c.toNat.toUInt8.toNat = _; omega
    rw [q0]
    unfold nextN
    have z := (hs c.toNat).1.2 (by omega)
    rw [if_neg (by simp), if_neg (by omega), if_pos z]
    rfl
  · by_cases h2 : c < 2048
    · have e := enc_eq (c := c) (zs := [192 + c / 64, 128 + c % 64]) (by unfold encodeRuneZ; rw [if_neg (by omega), if_pos (by omega)])
      rw [e]
      have b0 := u8_of (z := 192 + c / 64) (by omega) (by omega)
      have b1 := u8_of (z := 128 + c % 64) (by omega) (by omega)
      unfold next
      have q0 : bt (([192 + c / 64, 128 + c % 64].map fun x : Int => x.toNat.toUInt8) ++ m) 0 = (192 + c / 64).toNat := by show (192 + c / 64).toNat.toUInt8.toNat = _; omega
      have q1 : bt (([192 + c / 64, 128 + c % 64].map fun x : Int => x.toNat.toUInt8) ++ m) 1 = (128 + c % 64).toNat := by show (128 + c % 64).toNat.toUInt8.toNat = _; omega
      rw [q0, q1]
      have z : size1 (192 + c / 64).toNat = 2 := (hs _).2.1.2 (by omega)
      have s : sec (192 + c / 64).toNat (128 + c % 64).toNat = true := by
        refine sec_iff.1.2 ?_
        have := lo_hi_at (192 + c / 64).toNat
        have a1 := this.1 (by omega) (by omega)
        have a2 := this.2.2.2.1 (by omega) (by omega)
        omega
      unfold nextN
      rw [if_neg (by simp), if_neg (by omega), if_neg (by omega), if_neg (by simp), s, if_neg (by simp), if_pos z]
      refine Prod.ext ?_ rfl
      show (192 + c / 64).toNat % 32 * 64 + ((128 + c % 64).toNat - 128) = c.toNat
      omega
    · by_cases h3 : c < 65536
      · have e := enc_eq (c := c) (zs := [224 + c / 4096, 128 + c / 64 % 64, 128 + c % 64]) (by unfold encodeRuneZ; rw [if_neg (by omega), if_neg (by omega), if_pos (by omega)])
        rw [e]
        have b0 := u8_of (z := 224 + c / 4096) (by omega) (by omega)
        have b1 := u8_of (z := 128 + c / 64 % 64) (by omega) (by omega)
        have b2 := u8_of (z := 128 + c % 64) (by omega) (by omega)
        unfold next
        have q0 : bt (([224 + c / 4096, 128 + c / 64 % 64, 128 + c % 64].map fun x : Int => x.toNat.toUInt8) ++ m) 0 = (224 + c / 4096).toNat := by show (224 + c / 4096).toNat.toUInt8.toNat = _; omega
        have q1 : bt (([224 + c / 4096, 128 + c / 64 % 64, 128 + c % 64].map fun x : Int => x.toNat.toUInt8) ++ m) 1 = (128 + c / 64 % 64).toNat := by show (128 + c / 64 % 64).toNat.toUInt8.toNat = _; omega
        have q2 : bt (([224 + c / 4096, 128 + c / 64 % 64, 128 + c % 64].map fun x : Int => x.toNat.toUInt8) ++ m) 2 = (128 + c % 64).toNat := by show (128 + c % 64).toNat.toUInt8.toNat = _; omega
        rw [q0, q1, q2]
        have z : size1 (224 + c / 4096).toNat = 3 := (hs _).2.2.1.2 (by omega)
        have s : sec (224 + c / 4096).toNat (128 + c / 64 % 64).toNat = true := by
          refine sec_iff.1.2 ?_
          have := lo_hi_at (224 + c / 4096).toNat
          by_cases k1 : (224 + c / 4096).toNat = 224
          · have a1 := this.2.1 k1
            have a2 := this.2.2.2.1 (by omega) (by omega)
            omega
          · have a1 := this.1 k1 (by omega)
            by_cases k2 : (224 + c / 4096).toNat = 237
            · have a2 := this.2.2.2.2.1 k2
              omega
            · have a2 := this.2.2.2.1 k2 (by omega)
              omega
        have s2 : cont (128 + c % 64).toNat = true := cont_iff.1.2 (by omega)
        unfold nextN
        rw [if_neg (by simp), if_neg (by omega), if_neg (by omega), if_neg (by simp), s, if_neg (by simp), if_neg (by omega), if_neg (by simp), s2, if_neg (by simp), if_pos z]
        refine Prod.ext ?_ rfl
        show (224 + c / 4096).toNat % 16 * 4096 + ((128 + c / 64 % 64).toNat - 128) * 64 + ((128 + c % 64).toNat - 128) = c.toNat
        omega
      · have e := enc_eq (c := c) (zs := [240 + c / 262144, 128 + c / 4096 % 64, 128 + c / 64 % 64, 128 + c % 64]) (by unfold encodeRuneZ; rw [if_neg (by omega), if_neg (by omega), if_neg (by omega), if_pos (by omega)])
        rw [e]
        have b0 := u8_of (z := 240 + c / 262144) (by omega) (by omega)
        have b1 := u8_of (z := 128 + c / 4096 % 64) (by omega) (by omega)
        have b2 := u8_of (z := 128 + c / 64 % 64) (by omega) (by omega)
        have b3 := u8_of (z := 128 + c % 64) (by omega) (by omega)
        unfold next
        have q0 : bt (([240 + c / 262144, 128 + c / 4096 % 64, 128 + c / 64 % 64, 128 + c % 64].map fun x : Int => x.toNat.toUInt8) ++ m) 0 = (240 + c / 262144).toNat := by show (240 + c / 262144).toNat.toUInt8.toNat = _; omega
        have q1 : bt (([240 + c / 262144, 128 + c / 4096 % 64, 128 + c / 64 % 64, 128 + c % 64].map fun x : Int => x.toNat.toUInt8) ++ m) 1 = (128 + c / 4096 % 64).toNat := by show (128 + c / 4096 % 64).toNat.toUInt8.toNat = _; omega
        have q2 : bt (([240 + c / 262144, 128 + c / 4096 % 64, 128 + c / 64 % 64, 128 + c % 64].map fun x : Int => x.toNat.toUInt8) ++ m) 2 = (128 + c / 64 % 64).toNat := by show (128 + c / 64 % 64).toNat.toUInt8.toNat = _; omega
        have q3 : bt (([240 + c / 262144, 128 + c / 4096 % 64, 128 + c / 64 % 64, 128 + c % 64].map fun x : Int => x.toNat.toUInt8) ++ m) 3 = (128 + c % 64).toNat := by show (128 + c % 64).toNat.toUInt8.toNat = _; omega
        rw [q0, q1, q2, q3]
        have z : size1 (240 + c / 262144).toNat = 4 := (hs _).2.2.2.2 (by omega)
        have s : sec (240 + c / 262144).toNat (128 + c / 4096 % 64).toNat = true := by
          refine sec_iff.1.2 ?_
          have := lo_hi_at (240 + c / 262144).toNat
          by_cases k1 : (240 + c / 262144).toNat = 240
          · have a1 := this.2.2.1 k1
            have a2 := this.2.2.2.1 (by omega) (by omega)
            omega
          · have a1 := this.1 (by omega) k1
            by_cases k2 : (240 + c / 262144).toNat = 244
            · have a2 := this.2.2.2.2.2 k2
              omega
            · have a2 := this.2.2.2.1 (by omega) k2
              omega
        have s2 : cont (128 + c / 64 % 64).toNat = true := cont_iff.1.2 (by omega)
        have s3 : cont (128 + c % 64).toNat = true := cont_iff.1.2 (by omega)
        unfold nextN
        rw [if_neg (by simp), if_neg (by omega), if_neg (by omega), if_neg (by simp), s, if_neg (by simp), if_neg (by omega), if_neg (by simp), s2, if_neg (by simp), if_neg (by omega), if_neg (by simp), s3, if_neg (by simp)]
        refine Prod.ext ?_ rfl
        show (240 + c / 262144).toNat % 8 * 262144 + ((128 + c / 4096 % 64).toNat - 128) * 4096 + ((128 + c / 64 % 64).toNat - 128) * 64 + ((128 + c % 64).toNat - 128) = c.toNat
        omega

theorem enc_ne (c : Int) : enc c ≠ [] := fun h => by have := (enc_length c).1; rw [h] at this; simp at this
theorem headC_enc {c : Int} (m : List UInt8) (h : fineC c = true) : headC (enc c ++ m) = c := by
  unfold headC
  rw [next_enc m h]
  have := (fineC_iff.1.1 h).1
  simp; omega
theorem chars_enc {c : Int} (m : List UInt8) (h : fineC c = true) : chars (enc c ++ m) = c :: chars m := by
  rw [chars_cons (by simp [enc_ne]), headC_enc m h, next_enc m h]
  simp
theorem chars_encs (m : List UInt8) : ∀ (cs : List Int), (∀ c ∈ cs, fineC c = true) → chars (cs.flatMap enc ++ m) = cs ++ chars m
  | [], _ => rfl
  | c :: cs, h => by
    rw [List.flatMap_cons, List.append_assoc, chars_enc _ (h c (by simp)), chars_encs m cs (fun x hx => h x (by simp [hx]))]
    rfl

theorem next_fineC {l : List UInt8} (he : (next l).2.2 = 0) : fineC ((next l).1 : Int) = true := by
  revert he
  refine (?_ : (fun r : Nat × Nat × Nat => r.2.2 = 0 → fineC (r.1 : Int) = true) (next l))
  have hk : ∀ {c : Prop} [Decidable c] {x y : Nat × Nat × Nat}, (c → (x.2.2 = 0 → fineC (x.1 : Int) = true)) → (¬ c → (y.2.2 = 0 → fineC (y.1 : Int) = true)) → ((if c then x else y).2.2 = 0 → fineC ((if c then x else y).1 : Int) = true) := by
    intro c _ x y hx hy
    by_cases hc : c
    · rw [if_pos hc]; exact hx hc
    · rw [if_neg hc]; exact hy hc
  have hc := size_class (bt l 0)
  have hs := size_cases (bt l 0)
  have s := @sec_iff (bt l 0) (bt l 1)
  have hl := lo_hi_at (bt l 0)
  have hlh := lo_hi (bt l 0)
  have c2 := @cont_iff (bt l 2)
  have c3 := @cont_iff (bt l 3)
  unfold next nextN
  refine hk (fun _ h => absurd h (by decide)) (fun _ => hk (fun _ h => absurd (show (8 : Nat) = 0 from h) (by decide)) (fun a0 => hk (fun a1 _ => ?_) (fun a1 => hk (fun _ h => absurd (show (7 : Nat) = 0 from h) (by decide)) (fun _ => hk (fun _ h => absurd (show (8 : Nat) = 0 from h) (by decide)) (fun s1 => hk (fun a2 _ => ?_) (fun a2 => hk (fun _ h => absurd (show (7 : Nat) = 0 from h) (by decide)) (fun _ => hk (fun _ h => absurd (show (8 : Nat) = 0 from h) (by decide)) (fun s2 => hk (fun a3 _ => ?_) (fun a3 => hk (fun _ h => absurd (show (7 : Nat) = 0 from h) (by decide)) (fun _ => hk (fun _ h => absurd (show (8 : Nat) = 0 from h) (by decide)) (fun s3 _ => ?_)))))))))))
  · refine fineC_iff.1.2 ?_
    show 0 ≤ ((bt l 0 : Nat) : Int) ∧ _
    have := hc.1.1 a1
    omega
  · refine fineC_iff.1.2 ?_
    show 0 ≤ ((bt l 0 % 32 * 64 + (bt l 1 - 128) : Nat) : Int) ∧ _
    have k1 := s.1.1 (by simpa using s1)
    omega
  · refine fineC_iff.1.2 ?_
    show 0 ≤ ((bt l 0 % 16 * 4096 + (bt l 1 - 128) * 64 + (bt l 2 - 128) : Nat) : Int) ∧ _
    have k1 := s.1.1 (by simpa using s1)
    have k2 := c2.1.1 (by simpa using s2)
    have k4 := hc.2.2.1.1 a3
    by_cases e : bt l 0 = 237
    · have := hl.2.2.2.2.1 e
      omega
    · omega
  · refine fineC_iff.1.2 ?_
    show 0 ≤ ((bt l 0 % 8 * 262144 + (bt l 1 - 128) * 4096 + (bt l 2 - 128) * 64 + (bt l 3 - 128) : Nat) : Int) ∧ _
    have k1 := s.1.1 (by simpa using s1)
    have k2 := c2.1.1 (by simpa using s2)
    have k3 := c3.1.1 (by simpa using s3)
    have k4 : 240 ≤ bt l 0 ∧ bt l 0 ≤ 244 := hc.2.2.2.1 (by omega)
    by_cases e : bt l 0 = 244
    · have := hl.2.2.2.2.2 e
      rw [e]; omega
    · by_cases e' : bt l 0 = 240
      · have := hl.2.2.1 e'
        rw [e']; omega
      · omega
theorem headC_fine (l : List UInt8) : fineC (headC l) = true := by
  unfold headC
  by_cases h : (next l).2.2 = 0
  · rw [if_pos h]; exact next_fineC h
  · rw [if_neg h]; decide
theorem chars_fine (l : List UInt8) : ∀ c ∈ chars l, fineC c = true := by
  have : ∀ (n : Nat) (l : List UInt8), l.length ≤ n → ∀ c ∈ chars l, fineC c = true := by
    intro n
    induction n with
    | zero => intro l h c hc; rw [List.eq_nil_of_length_eq_zero (by omega : l.length = 0)] at hc; cases hc
    | succ n ih =>
      intro l h c hc
      by_cases hl : l = []
      · subst hl; cases hc
      · rw [chars_cons hl] at hc
        obtain ⟨f1, f2, _⟩ := next_facts hl
        rcases List.mem_cons.1 hc with rfl | hc
        · exact headC_fine l
        · exact ih _ (by rw [List.length_drop]; omega) c hc
  exact this l.length l (Nat.le_refl _)
theorem chars_text_append (l m : List UInt8) : chars (text l ++ m) = chars l ++ chars m := chars_encs m _ (chars_fine l)
theorem chars_text (l : List UInt8) : chars (text l) = chars l := by
  have := chars_text_append l []
  rwa [List.append_nil, chars_nil, List.append_nil] at this
theorem text_text (l : List UInt8) : text (text l) = text l := by unfold text; rw [show chars (List.flatMap enc (chars l)) = chars l from chars_text l]
theorem text_append (l m : List UInt8) : text (text l ++ m) = text l ++ text m := by
  unfold text
  rw [show chars (List.flatMap enc (chars l) ++ m) = chars l ++ chars m from chars_text_append l m, List.flatMap_append]

end Go.Proofs.YtbkpnffgihjikaaDoor.UtfP

/- utf.Text, walked. -/
set_option linter.unusedVariables false
namespace Go.Proofs.YtbkpnffgihjikaaDoor.Utf
open Go.RowKit Go.Lib Go.Shelf UtfP

set_option maxHeartbeats 2000000 in
theorem textGo (l : List UInt8) (A : Option Addr) (cap : Nat) (w : World) (hT : Tabs w) (hA : BytesAt w A l) (hcap : l.length ≤ cap) (hm : l.length ≤ 1099511627776) :
    Calls Tryd.prog 71 #[.slice A l.length cap] w fun e w' => ∃ v, e = .returned v ∧ OwnB w' w.heap.size v (text l) ∧ Below w.heap.size w w' := by
  have HA := Lib.hid hA
  have HT := Lib.hid hT
  clear hA hT
  go_enter Tryd.func71, Tryd.ntmps71
  go_wp2
  go_loopw [0, 3] (fun b out wr => ∃ (rest : List UInt8) (done : List Int) (A' : Option Addr) (cap' : Nat), b = .slice A' rest.length cap' ∧ rest.length ≤ cap' ∧ Hid (BytesAt w A' rest) ∧ Hid (chars l = done ++ chars rest) ∧ Hid (OwnB wr w.heap.size out (done.flatMap enc)) ∧ (done.flatMap enc).length + 4 * rest.length ≤ 4 * l.length ∧ Below w.heap.size w wr) (fun b _ _ => lenOf b)
  case atStart => exact ⟨l, [], A, cap, rfl, hcap, HA, Lib.hid rfl, OwnB.nil _ _, by simp, Below.refl _ _⟩
  case round =>
    obtain ⟨rest, done, A', cap', rfl, hcap', HA', Hch, Hown, hlen, hbw⟩ := hrel
    by_cases hne : rest = []
    · subst hne
      have Hb := Lib.hid hbw
      clear hlen hbw
      go_wp2
      go_ret
      exact ⟨_, rfl, by have := Hch.out; rw [chars_nil, List.append_nil] at this; unfold text; rw [this]; exact Hown.out, Hb.out⟩
    · obtain ⟨f1, f2, f3, _, f5, f6⟩ := next_facts hne
      have hcons := chars_cons hne
      have hhd := headC_bd rest
      obtain ⟨c, k, f, hc⟩ : ∃ c k f, next rest = (c, k, f) := ⟨_, _, _, rfl⟩
      have C1 := (nextGo rest A' cap' wr (HT.out.below hbw) (HA'.out.below hbw) hcap' (by omega)).mono (R' := fun e w' => e = .returned (.tuple #[.int .i64 c, .int .i64 k, .int .i64 f]) ∧ Below wr.heap.size wr w') (fun e w' ⟨he, hb⟩ => ⟨by rw [he, hc]; rfl, hb⟩)
      have hhc : headC rest = if f = 0 then (c : Int) else 65533 := by unfold headC; rw [hc]
      rw [hc] at f1 f2 f3 f5 hcons
      simp only at f1 f2 f3 f5 hcons
      have hen := enc_length (headC rest)
      have hpos : 0 < rest.length := List.length_pos_iff.2 hne
      have H1 := Lib.hid C1
      have Hcons := Lib.hid hcons
      have Hne := Lib.hid hne
      have C2 : ∀ w1, Below wr.heap.size wr w1 → Calls Tryd.prog 73 #[u3, .int .i32 (headC rest)] w1 fun e w2 => ∃ v', e = .returned v' ∧ Hid (OwnB w2 w.heap.size v' ((done ++ [headC rest]).flatMap enc)) ∧ Below w.heap.size w w2 := fun w1 hb1 => by
        have hs := hbw.size
        have hs1 := hb1.size
        refine (appendRune w.heap.size u3 (done.flatMap enc) (headC rest) (by omega) (by omega) w1 (Hown.out.below hb1) (by omega) (by omega)).mono ?_
        rintro e w2 ⟨v', he, hown, hg⟩
        refine ⟨v', he, ?_, ?_⟩
        · unfold Hid
          rw [List.flatMap_append, List.flatMap_singleton]
          exact hown
        · exact (hbw.trans (hb1.mono hs)).grown hg (by omega) (fun k hk => ((Hown.out.below hb1).lt hk).1)
      have H2 := Lib.hid C2
      have k0 : (0 : Int) < (rest.length : Int) := by omega
      have k1 : (k : Int) ≤ (rest.length : Int) := by omega
      have Hx : Hid ((done ++ [headC rest]).flatMap enc = done.flatMap enc ++ enc (headC rest)) := by unfold Hid; rw [List.flatMap_append, List.flatMap_singleton]
      have Hhd := Lib.hid hhd
      have Hen := Lib.hid hen
      clear C1 C2 hc hcons hne f6 hhd hen
      by_cases hf : f = 0
      · subst hf
        rw [if_pos rfl] at hhc
        have Hhc := Lib.hid hhc
        have hb := Hhd.out
        rw [hhc] at hb
        have b1 := hb.2
        clear hhc hb f5
        go_wp2_with (first | (go_at_call 74; refine (H1.out).mono ?_; rintro e w1 ⟨rfl, hb1⟩) | (go_at_call 73; rw [← Hhc.out]; refine (H2.out _ hb1).mono ?_; rintro e w2 ⟨v', rfl, hown2, hb2⟩))
        go_roundw
        case rel =>
          refine ⟨rest.drop k, done ++ [headC rest], _, cap' - k, ?_, ?_, BytesAt.cut HA'.out hcap', ?_, hown2, ?_, hb2⟩
          · rw [List.length_drop]
          · rw [List.length_drop]; omega
          · unfold Hid; rw [Hch.out, Hcons.out, List.append_assoc]; rfl
          · have := Hen.out; rw [Hx.out, List.length_append, List.length_drop]; omega
        case measure => simp [lenOf]; omega
      · rw [if_neg hf] at hhc
        have Hhc := Lib.hid hhc
        have k2 : ((f : Int) != 0) = true := by rw [bne_iff_ne]; omega
        clear hhc f5
        go_wp2_with (first | (go_at_call 74; refine (H1.out).mono ?_; rintro e w1 ⟨rfl, hb1⟩) | (go_at_call 73; rw [← Hhc.out]; refine (H2.out _ hb1).mono ?_; rintro e w2 ⟨v', rfl, hown2, hb2⟩))
        go_roundw
        case rel =>
          refine ⟨rest.drop k, done ++ [headC rest], _, cap' - k, ?_, ?_, BytesAt.cut HA'.out hcap', ?_, hown2, ?_, hb2⟩
          · rw [List.length_drop]
          · rw [List.length_drop]; omega
          · unfold Hid; rw [Hch.out, Hcons.out, List.append_assoc]; rfl
          · have := Hen.out; rw [Hx.out, List.length_append, List.length_drop]; omega
        case measure => simp [lenOf]; omega

end Go.Proofs.YtbkpnffgihjikaaDoor.Utf

/- string(b): a slice of bytes as a string. -/
set_option linter.unusedVariables false
namespace Go.Proofs.YtbkpnffgihjikaaDoor.Utf
open Go.RowKit Go.Lib Go.Shelf UtfP

theorem bytesAt_drew (w : World) (A : Option Addr) (l : List UInt8) : BytesAt w.drew A l = BytesAt w A l := rfl
theorem bytesAt_drewN (w : World) (n : Nat) (A : Option Addr) (l : List UInt8) : BytesAt (w.drewN n) A l = BytesAt w A l := rfl

def strOf (l : List UInt8) : ByteArray := ⟨l.toArray⟩
theorem strOf_inj {l m : List UInt8} (h : strOf l = strOf m) : l = m := by
  have := congrArg (fun s : ByteArray => s.data.toList) h
  simpa [strOf] using this
theorem strOf_toList (l : List UInt8) : (strOf l).toList = l := by
  rw [ByteArray.toList_eq]
  rfl
theorem strOf_size (l : List UInt8) : (strOf l).size = l.length := rfl

theorem OwnB.form' {w : World} {B : Nat} {v : Value} {l : List UInt8} (h : OwnB w B v l) : ∃ A n cap, v = .slice A n cap ∧ l.length = n ∧ n ≤ cap ∧ BytesAt w A l := by
  obtain ⟨A, cap, hv, hc, hb, _⟩ := h.form
  exact ⟨A, _, cap, hv, rfl, hc, hb⟩

theorem lit_fffd : (ByteArray.mk #[239, 191, 189]) = strOf [239, 191, 189] := rfl
theorem strOf_append (a b : List UInt8) : strOf a ++ strOf b = strOf (a ++ b) := by
  apply ByteArray.ext
  apply Array.ext'
  simp [strOf]

theorem conv_str {w : World} {A : Option Addr} {l : List UInt8} {cap : Nat} (h : BytesAt w A l) :
    (convert 22 9 (.slice A l.length cap)).run Tryd.prog w = .ok (.string (strOf l)) w := by
  by_cases hne : l = []
  · subst hne
    cases A with
    | none => exact run_convert_bytes_nil w 22 5 Tryd.underlying22 Tryd.underlying5 _ _ _ Tryd.underlying9
    | some a =>
      rw [run_convert_bytes_string w 22 9 5 _ _ cap Tryd.underlying22 Tryd.underlying5 Tryd.underlying9]
      have := run_bytesToString (P := Tryd.prog) w a 0 cap [] (by simp [loadCells, loadCellsFrom])
      exact this
  · obtain ⟨b, off, rfl, _, hc⟩ := h hne
    have hx : ∀ i, i < l.length → w.cell? ⟨b, off + i, none⟩ = some (.int .u8 ((l.map fun c => (c.toNat : Int)).getD i 0)) := by
      intro i hi
      have e : (l.map fun c => (c.toNat : Int)).getD i 0 = (bt l i : Int) := by
        unfold bt
        rw [List.getD_eq_getElem?_getD, List.getD_eq_getElem?_getD, List.getElem?_map, List.getElem?_eq_getElem hi]
        rfl
      rw [e]
      exact hc i hi
    have := run_convert_bytes_arg w 22 5 Tryd.underlying22 Tryd.underlying5 b off l.length cap (l.map fun c => (c.toNat : Int)) (by simp) hx 9 Tryd.underlying9
    rw [this]
    have h2 : (l.map fun c => (c.toNat : Int)).map (fun n => UInt8.ofNat n.toNat) = l := by
      rw [List.map_map]
      conv => rhs; rw [← List.map_id l]
      apply List.map_congr_left
      intro c _
      simp
    have e : strOfNums (l.map fun c => (c.toNat : Int)) = strOf l := congrArg (fun x : List UInt8 => (⟨x.toArray⟩ : ByteArray)) h2
    rw [e]

end Go.Proofs.YtbkpnffgihjikaaDoor.Utf

/- Rows of integers of the call's own. -/
set_option linter.unusedVariables false
namespace Go.Proofs.YtbkpnffgihjikaaDoor.Utf
open Go.RowKit Go.Lib Go.Shelf UtfP

theorem infoInt : (Tryd.prog.info? 3).map (fun i => (i.zero, i.size, i.bytes)) = some (some (.int .i64 0), 1, 8) := by kernel_rfl
def cellsI (cs : List Int) : List Value := cs.map fun c => .int .i64 c
theorem cellsI_length (cs : List Int) : (cellsI cs).length = cs.length := by simp [cellsI]
theorem cellsI_append (a b : List Int) : cellsI (a ++ b) = cellsI a ++ cellsI b := by simp [cellsI]
def OwnI (w : World) (B : Nat) (v : Value) (cs : List Int) : Prop := w.ownsRow B 3 1 v cs.length (cellsI cs)
theorem OwnI.nil (w : World) (B : Nat) : OwnI w B (.slice none 0 0) [] := ⟨rfl, Or.inl ⟨rfl, rfl⟩⟩
theorem OwnI.lt {w : World} {B : Nat} {v : Value} {l : List Int} (h : OwnI w B v l) {k : Nat} (hk : v.ownBlock = some k) : B ≤ k ∧ k < w.heap.size := by
  rcases h.2 with ⟨rfl, _⟩ | ⟨g, cap, cur, rfl, hB, hg, _⟩
  · cases hk
  · cases hk
    refine ⟨hB, ?_⟩
    rcases Nat.lt_or_ge g w.heap.size with h' | h'
    · exact h'
    · rw [Array.getElem?_eq_none h'] at hg; cases hg
theorem OwnI.below {w w' : World} {B : Nat} {v : Value} {l : List Int} (h : OwnI w B v l) (hb : Below w.heap.size w w') : OwnI w' B v l := by
  obtain ⟨h1, h2 | ⟨g, cap, cur, h3, h4, h5, h6⟩⟩ := h
  · exact ⟨h1, Or.inl h2⟩
  · refine ⟨h1, Or.inr ⟨g, cap, cur, h3, h4, ?_, h6⟩⟩
    rw [hb.block g]
    · exact h5
    · rcases Nat.lt_or_ge g w.heap.size with h' | h'
      · exact h'
      · rw [Array.getElem?_eq_none h'] at h5; cases h5
theorem OwnI.form {w : World} {B : Nat} {v : Value} {l : List Int} (h : OwnI w B v l) : ∃ A cap, v = .slice A l.length cap ∧ l.length ≤ cap ∧ CellsAt w A (cellsI l) ∧ (∀ a, A = some a → B ≤ a.block ∧ a.spot = none) ∧ v.ownBlock = A.map (·.block) := by
  rcases h.2 with ⟨rfl, h0⟩ | ⟨g, cap, cur, rfl, hB, hg, hn, hm, hsz, htake⟩
  · have : l = [] := List.eq_nil_of_length_eq_zero h0
    subst this
    exact ⟨none, 0, rfl, Nat.le_refl _, fun h => absurd rfl h, (fun a ha => by cases ha), rfl⟩
  · refine ⟨some ⟨g, 0, none⟩, cap, rfl, hn, ?_, (fun a ha => by cases ha; exact ⟨hB, rfl⟩), rfl⟩
    intro _
    have hlt : g < w.heap.size := by
      rcases Nat.lt_or_ge g w.heap.size with h' | h'
      · exact h'
      · rw [Array.getElem?_eq_none h'] at hg; cases hg
    refine ⟨g, 0, rfl, hlt, fun j u hu => ?_⟩
    have e := cell_of_row w g j cur 3 (0, 0) hg
    rw [Nat.zero_add, e, ← Array.getElem?_toList]
    rw [← htake] at hu
    have hj : j < l.length * 1 := by
      rcases Nat.lt_or_ge j (l.length * 1) with h' | h'
      · exact h'
      · rw [List.getElem?_take_eq_none h'] at hu; cases hu
    rwa [List.getElem?_take_of_lt hj] at hu
theorem OwnI.base {w : World} {B B' : Nat} {v : Value} {l : List Int} (h : OwnI w B v l) (hB : B' ≤ B) : OwnI w B' v l := by
  obtain ⟨h1, h2 | ⟨g, cap, cur, h3, h4, h5⟩⟩ := h
  · exact ⟨h1, Or.inl h2⟩
  · exact ⟨h1, Or.inr ⟨g, cap, cur, h3, Nat.le_trans hB h4, h5⟩⟩
theorem OwnI.new (w : World) (B : Nat) (cs : Array Value) (l : List Int) (hcs : cs.toList = cellsI l) (hB : B ≤ w.heap.size) (hm : l.length ≤ maxLen) : OwnI (w.alloc (.cells cs 3)) B (.slice (some ⟨w.heap.size, 0, none⟩) l.length l.length) l := by
  have hsz : cs.size = l.length := by rw [← Array.length_toList, hcs, cellsI_length]
  refine ⟨by rw [cellsI_length, Nat.mul_one], Or.inr ⟨w.heap.size, l.length, cs, rfl, hB, heap_alloc_new w _, Nat.le_refl _, hm, by rw [hsz, Nat.mul_one], ?_⟩⟩
  rw [hcs, Nat.mul_one, ← cellsI_length]; exact List.take_length

theorem wpList_append_ints {w : World} {ops : Array Oper} {rest : List Oper} {o : Oper} {a : Act} {Q : Exit → Act → World → Prop} (hgd : o.guard = none) (s x : Operand)
    (ho : o.op = .call { callee := .builtin .append, args := #[s, x], argTypes := #[37, 37] })
    {B : Nat} {v : Value} {l : List Int} (hs : a.eval s = v) (hown : OwnI w B v l) {A : Option Addr} {src : List Int} {n c : Nat} (hx : a.eval x = .slice A n c) (hn : src.length = n) (hsrc : CellsAt w A (cellsI src))
    (hb : l.length + src.length ≤ 17592186044416) (hbase : B ≤ w.heap.size)
    (h : ∀ v' w', OwnI w' B v' (l ++ src) → w.grownBy w' v.ownBlock → wpList Tryd.prog ops Q rest (a.put o.dst v') w') : wpList Tryd.prog ops Q (o :: rest) a w := by
  subst hn
  refine wpList_append_cells hgd s x ho Tryd.underlying37 infoInt rfl (by decide) hs hown hx (by rw [cellsI_length, Nat.mul_one]) hsrc ?_ ?_ ?_ hbase ?_
  · intro u hu
    obtain ⟨c, _, rfl⟩ := List.mem_map.1 hu
    rfl
  · unfold maxLen; omega
  · omega
  · intro v' w' h2 h3
    refine h v' w' ?_ h3
    unfold OwnI
    rw [List.length_append, cellsI_append]
    exact h2

end Go.Proofs.YtbkpnffgihjikaaDoor.Utf

/- utf.Count, walked. -/
set_option linter.unusedVariables false
namespace Go.Proofs.YtbkpnffgihjikaaDoor.Utf
open Go.RowKit Go.Lib Go.Shelf UtfP

theorem bt_drop (l : List UInt8) (p j : Nat) : bt (l.drop p) j = bt l (p + j) := by
  unfold bt
  rw [List.getD_eq_getElem?_getD, List.getD_eq_getElem?_getD, List.getElem?_drop]
/-- the model's own decoding at a place of a string -/
theorem decode_str (l : List UInt8) (p : Nat) (hp : p < l.length) : Utf8.decode (strOf l) p = decOf (next (l.drop p)) := by
  rw [Lib.decode_at]
  have hg : ∀ j, ((strOf l).get! j).toNat = bt l j := fun j => get!_mk l j
  have hs : (strOf l).size = l.length := rfl
  rw [hg, hg, hg, hg, hs, decode_ok (by omega) (bt_lt _ _) (bt_lt _ _) (bt_lt _ _) (bt_lt _ _)]
  unfold next
  rw [List.length_drop, bt_drop, bt_drop, bt_drop, bt_drop]
  rfl

theorem decode_encs {done : List Int} {c : Int} {cs : List Int} (hc : fineC c = true) :
    Utf8.decode (strOf ((done ++ c :: cs).flatMap enc)) (done.flatMap enc).length = (c.toNat, (enc c).length) := by
  have e : ((done ++ c :: cs).flatMap enc) = done.flatMap enc ++ (enc c ++ cs.flatMap enc) := by rw [List.flatMap_append, List.flatMap_cons]
  have hlen := (enc_length c).1
  rw [decode_str _ _ (by rw [e, List.length_append, List.length_append]; omega), e, List.drop_left, next_enc _ hc]
  rfl

/-- where the characters of a list end -/
def posOf (done : List Int) : Nat := (done.flatMap enc).length
theorem posOf_snoc (done : List Int) (c : Int) : posOf done + (enc c).length = posOf (done ++ [c]) := by unfold posOf; rw [List.flatMap_append, List.flatMap_singleton, List.length_append]

theorem flatMap_len (done : List Int) : done.length ≤ (done.flatMap enc).length := by
  induction done with
  | nil => simp
  | cons c done ih => rw [List.flatMap_cons, List.length_append, List.length_cons]; have := (enc_length c).1; omega

set_option maxHeartbeats 1000000 in
theorem countGo (l : List UInt8) (A : Option Addr) (cap : Nat) (w : World) (hT : Tabs w) (hA : BytesAt w A l) (hcap : l.length ≤ cap) (hm : l.length ≤ 1099511627776) :
    Calls Tryd.prog 50 #[.slice A l.length cap] w fun e w' => e = .returned (.int .i64 ((chars l).length : Int)) ∧ Below w.heap.size w w' := by
  have C := (textGo l A cap w hT hA hcap hm).mono (R' := fun e w' => ∃ A' cap', e = .returned (.slice A' (text l).length cap') ∧ (convert 22 9 (.slice A' (text l).length cap')).run Tryd.prog w' = .ok (.string (strOf (text l))) w' ∧ Below w.heap.size w w') (fun e w' ⟨v, he, hown, hb⟩ => by
    obtain ⟨A', cap', rfl, _, hby, _⟩ := hown.form
    exact ⟨A', cap', he, conv_str hby, hb⟩)
  have hlen : (chars l).length ≤ 4 * l.length + 4 := by
    have : ∀ (n : Nat) (l : List UInt8), l.length ≤ n → (chars l).length ≤ l.length := by
      intro n
      induction n with
      | zero => intro l h; rw [List.eq_nil_of_length_eq_zero (by omega : l.length = 0)]; simp [chars_nil]
      | succ n ih =>
        intro l h
        by_cases hl : l = []
        · subst hl; simp [chars_nil]
        · rw [chars_cons hl]
          obtain ⟨f1, f2, _⟩ := next_facts hl
          have := ih (l.drop (next l).2.1) (by rw [List.length_drop]; omega)
          rw [List.length_drop] at this
          rw [List.length_cons]; omega
    have := this l.length l (Nat.le_refl _)
    omega
  have hfine := chars_fine l
  have htext : text l = (chars l).flatMap enc := rfl
  generalize hcs : chars l = cs at *
  have H1 := Lib.hid C
  have Hf := Lib.hid hfine
  have Ht := Lib.hid htext
  clear C hfine htext hT hA hcs
  generalize text l = t at *
  generalize l.length = n at *
  go_enter Tryd.func50, Tryd.ntmps50
  go_wp2_with (go_at_call 71; refine (H1.out).mono ?_; rintro e w1 ⟨A', cap', rfl, hconv, hb1⟩)
  have Hb := Lib.hid hb1
  clear hb1 hconv
  go_loopw [3] (fun i wr => ∃ (done rest : List Int), i = .int .i64 (done.length : Int) ∧ Hid (cs = done ++ rest) ∧ done.length + rest.length = cs.length ∧ wr = w1.iter (strOf t) (posOf done)) (fun i _ => cs.length - (RowKit.intOf i).toNat)
  case atStart => exact ⟨[], cs, rfl, Lib.hid rfl, by simp, rfl⟩
  case round =>
    obtain ⟨done, rest, rfl, Hcs, hl, rfl⟩ := hrel
    have ht : t = (done ++ rest).flatMap enc := by rw [Ht.out, Hcs.out]
    cases rest with
    | nil =>
      have hnx := fun ty => run_next_end (P := Tryd.prog) w1 (strOf t) (posOf done) ty (by rw [ht, List.append_nil]; exact Nat.lt_irrefl _)
      have Hl := Lib.hid hl
      clear ht hl
      go_wp2
      go_ret
      refine ⟨?_, Hb.out.trans ((Below.refl _ _).alloc Hb.out.size _)⟩
      have := Hl.out
      simp at this
      rw [this]; rfl
    | cons c rest =>
      have hc : fineC c = true := Hf.out c (by rw [Hcs.out]; simp)
      have hdec : Utf8.decode (strOf ((done ++ c :: rest).flatMap enc)) (posOf done) = (c.toNat, (enc c).length) := decode_encs (done := done) (cs := rest) hc
      have hc0 : ((c.toNat : Nat) : Int) = c := by have := (fineC_iff.1.1 hc).1; omega
      have hpos : posOf done < (strOf t).size := by
        unfold posOf
        rw [ht, List.flatMap_append, List.flatMap_cons]
        show _ < (done.flatMap enc ++ (enc c ++ _)).length
        rw [List.length_append, List.length_append]
        have := (enc_length c).1
        omega
      have hnx := fun ty => run_next_any (P := Tryd.prog) w1 (strOf t) (posOf done) ty hpos
      rw [ht, hdec] at hnx
      rw [← ht] at hnx
      simp only [posOf_snoc, hc0] at hnx
      have hl1 : done.length + (rest.length + 1) = cs.length := hl
      have b1 : (done.length : Int) ≤ 4398046511112 := by omega
      clear ht hdec hpos hl hc hc0
      go_wp2
      go_roundw
      case rel => exact ⟨done ++ [c], rest, by rw [List.length_append]; simp, by unfold Hid; rw [Hcs.out, List.append_assoc]; rfl, by rw [List.length_append, List.length_singleton]; omega, rfl⟩
      case measure => simp [RowKit.intOf]; omega

end Go.Proofs.YtbkpnffgihjikaaDoor.Utf

/- The bytes of a string, in a row of their own. -/
set_option linter.unusedVariables false
set_option linter.unusedSimpArgs false
namespace Go.Proofs.YtbkpnffgihjikaaDoor.Utf
open Go.RowKit Go.Lib Go.Shelf UtfP

theorem conv_bytes (w : World) (l : List UInt8) : (convert 9 22 (.string (strOf l))).run Tryd.prog w = .ok (.slice (some ⟨w.heap.size, 0, none⟩) l.length (grownCap w l.length 0 5)) (Lib.bytesWorld w 5 (strOf l)) :=
  Lib.run_convert_string_bytes w 9 22 5 (strOf l) Tryd.underlying9 Tryd.underlying22 Tryd.underlying5

theorem bytesW_below (w : World) (l : List UInt8) : Below w.heap.size w (Lib.bytesWorld w 5 (strOf l)) :=
  ⟨by simp [Lib.bytesWorld, World.freeze, World.alloc, World.drew, -World.alloc_eq, -World.drew_eq], by simp [Lib.bytesWorld, World.freeze, World.alloc, World.drew, -World.alloc_eq, -World.drew_eq], by simp [Lib.bytesWorld, World.freeze, World.alloc, World.drew, -World.alloc_eq, -World.drew_eq], by rw [Lib.bytesWorld_size]; omega, fun k hk => Lib.bytesWorld_at_old w _ _ k hk⟩

theorem bytesW_at (w : World) (l : List UInt8) : BytesAt (Lib.bytesWorld w 5 (strOf l)) (some ⟨w.heap.size, 0, none⟩) l := by
  intro _
  refine ⟨w.heap.size, 0, rfl, by rw [Lib.bytesWorld_size]; omega, fun j hj => ?_⟩
  rw [Nat.zero_add, Lib.bytesWorld_cell w _ _ j (by rw [strOf_size]; exact hj)]
  rfl

/-- the bytes of a string that a walk has come to, under names of their own -/
theorem conv_named (w : World) (l : List UInt8) : ∃ w' g cap, (convert 9 22 (.string (strOf l))).run Tryd.prog w = .ok (.slice (some ⟨g, 0, none⟩) l.length cap) w' ∧ l.length ≤ cap ∧ BytesAt w' (some ⟨g, 0, none⟩) l ∧ w.heap.size ≤ g ∧ Below w.heap.size w w' :=
  ⟨_, _, _, conv_bytes w l, grownCap_ge _ _ _ _, bytesW_at w l, Nat.le_refl _, bytesW_below w l⟩

end Go.Proofs.YtbkpnffgihjikaaDoor.Utf

/- The reference's Fine, Printable, Put, walked. -/
set_option linter.unusedVariables false
namespace Go.Proofs.YtbkpnffgihjikaaDoor.Utf
open Go.RowKit Go.Lib Go.Shelf UtfP

/-- a slice that the call has just built -/
def NewB (w : World) (l : List UInt8) (e : Ending) (w' : World) : Prop := ∃ v, e = .returned v ∧ OwnB w' w.heap.size v l ∧ Below w.heap.size w w'

theorem newB_of (w : World) (l : List UInt8) (cs : List Value) (n : Nat) (hn : l.length = n) (hm : n ≤ maxLen) (hcs : cs = cellsU l) : NewB w l (.returned (.slice (some ⟨w.heap.size, 0, none⟩) n n)) (w.alloc (.cells cs.toArray 5)) := by
  subst hn
  exact ⟨_, rfl, OwnB.new w _ _ l (by rw [hcs]) (Nat.le_refl _) hm, (Below.refl _ _).alloc (Nat.le_refl _) _⟩

theorem enc_of {c : Int} {zs : List Int} (h : encodeRuneZ c = zs) : cellsU (enc c) = zs.map (Value.int .u8 ·) ∧ (enc c).length = zs.length := by
  have e : cellsU (enc c) = zs.map (Value.int .u8 ·) := by rw [enc_cells]; unfold runeCells; rw [h]
  exact ⟨e, by rw [← cellsU_length, e, List.length_map]⟩

set_option maxHeartbeats 1000000 in
theorem refPut (c : Int) (w : World) (h : fineC c = true) : Calls Tryd.prog 28 #[.int .i64 c] w (NewB w (enc c)) := by
  have hc := fineC_iff.1.1 h
  have b1 : 0 ≤ c := hc.1
  have b2 : c ≤ 1114111 := hc.2.1
  by_cases h1 : c < 128
  · have E := enc_of (c := c) (zs := [c]) (by unfold encodeRuneZ; rw [if_pos (by omega)])
    have HE := Lib.hid E
    clear h hc E
    go_enter Tryd.func28, Tryd.ntmps28
    go_wp2
    go_ret
    exact newB_of w (enc c) [_] 1 HE.out.2 (by decide) HE.out.1.symm
  · have k1 : decide (c < 128) = false := by simp; omega
    by_cases h2 : c < 2048
    · have E := enc_of (c := c) (zs := [192 + c / 64, 128 + c % 64]) (by unfold encodeRuneZ; rw [if_neg (by omega), if_pos (by omega)])
      have HE := Lib.hid E
      clear h hc E h1
      go_enter Tryd.func28, Tryd.ntmps28
      go_wp2
      go_ret
      exact newB_of w (enc c) [_, _] 2 HE.out.2 (by decide) HE.out.1.symm
    · have k2 : decide (c < 2048) = false := by simp; omega
      by_cases h3 : c < 65536
      · have E := enc_of (c := c) (zs := [224 + c / 4096, 128 + c / 64 % 64, 128 + c % 64]) (by unfold encodeRuneZ; rw [if_neg (by omega), if_neg (by omega), if_pos (by omega)])
        have HE := Lib.hid E
        clear h hc E h1 h2
        go_enter Tryd.func28, Tryd.ntmps28
        go_wp2
        go_ret
        exact newB_of w (enc c) [_, _, _] 3 HE.out.2 (by decide) HE.out.1.symm
      · have k3 : decide (c < 65536) = false := by simp; omega
        have E := enc_of (c := c) (zs := [240 + c / 262144, 128 + c / 4096 % 64, 128 + c / 64 % 64, 128 + c % 64]) (by unfold encodeRuneZ; rw [if_neg (by omega), if_neg (by omega), if_neg (by omega), if_pos (by omega)])
        have HE := Lib.hid E
        clear h hc E h1 h2 h3
        go_enter Tryd.func28, Tryd.ntmps28
        go_wp2
        go_ret
        exact newB_of w (enc c) [_, _, _, _] 4 HE.out.2 (by decide) HE.out.1.symm

end Go.Proofs.YtbkpnffgihjikaaDoor.Utf

/- Texts joined: Own; PutP; AppR; Put; RefPrint; Str. -/
import Derived.Test.YtcakeolnokninaaDoorGA
import Derived.Maps.AppendAt
import Derived.Deep.AppendLies
import Derived.OwnWalk
import Derived.Lib.RuneBytes
import Derived.Shelf.Utf8.AppendRunePlain
import Derived.Shelf.Small.Utf8
import Derived.Laws.BytesArg
/- Rows of the call's own: append, whatever is appended. -/
set_option linter.unusedVariables false
namespace Go.Proofs.YtcakeolnokninaaDoor.Utf
open Go.RowKit Go.Lib Go.Shelf UtfP

theorem cell_alloc_new (w : World) (cs : Array Value) (t : TypeId) (j : Nat) : (w.alloc (.cells cs t)).cell? ⟨w.heap.size, j, none⟩ = cs[j]? := by
  have h : (w.alloc (.cells cs t)).heap[w.heap.size]? = some (.cells cs t (0, 0)) := heap_alloc_new w _
  exact cell_of_row _ _ j cs t (0, 0) h

theorem addr_add (b off j : Nat) : (⟨b, off, none⟩ : Addr).add j = ⟨b, off + j, none⟩ := by
  unfold Addr.add
  by_cases h : j = 0
  · subst h; rfl
  · rw [if_neg h]

/-- cells in memory, from an address on -/
def CellsAt (w : World) (A : Option Addr) (xs : List Value) : Prop :=
  xs ≠ [] → ∃ b off, A = some ⟨b, off, none⟩ ∧ b < w.heap.size ∧ ∀ j u, xs[j]? = some u → w.cell? ⟨b, off + j, none⟩ = some u

def cellsU (l : List UInt8) : List Value := l.map fun c => .int .u8 (c.toNat : Int)
theorem cellsU_length (l : List UInt8) : (cellsU l).length = l.length := by simp [cellsU]
theorem cellsU_append (l m : List UInt8) : cellsU (l ++ m) = cellsU l ++ cellsU m := by simp [cellsU]
theorem cellsU_at {l : List UInt8} {j : Nat} (hj : j < l.length) : (cellsU l)[j]? = some (.int .u8 (bt l j : Int)) := by
  unfold cellsU bt
  rw [List.getElem?_map, List.getD_eq_getElem?_getD, List.getElem?_eq_getElem hj]
  rfl

theorem CellsAt.bytes {w : World} {A : Option Addr} {l : List UInt8} (h : CellsAt w A (cellsU l)) : BytesAt w A l := by
  intro hne
  have hne' : cellsU l ≠ [] := fun e => hne (by have := cellsU_length l; rw [e] at this; exact List.eq_nil_of_length_eq_zero this.symm)
  obtain ⟨b, off, hA, hb, hc⟩ := h hne'
  exact ⟨b, off, hA, hb, fun j hj => hc j _ (cellsU_at hj)⟩
theorem BytesAt.cells {w : World} {A : Option Addr} {l : List UInt8} (h : BytesAt w A l) : CellsAt w A (cellsU l) := by
  intro hne
  have hne' : l ≠ [] := fun e => hne (by subst e; rfl)
  obtain ⟨b, off, hA, hb, hc⟩ := h hne'
  refine ⟨b, off, hA, hb, fun j u hu => ?_⟩
  have hj : j < l.length := by
    have := (List.getElem?_eq_some_iff.1 hu).1
    rwa [cellsU_length] at this
  rw [cellsU_at hj] at hu
  cases hu
  exact hc j hj
theorem CellsAt.new (w : World) (cs : Array Value) (t : TypeId) (xs : List Value) (hcs : cs.toList = xs) : CellsAt (w.alloc (.cells cs t)) (some ⟨w.heap.size, 0, none⟩) xs := by
  intro _
  refine ⟨_, 0, rfl, by simp, fun j u hu => ?_⟩
  rw [Nat.zero_add, cell_alloc_new, ← Array.getElem?_toList, hcs]
  exact hu
theorem bytes_new (w : World) (l : List UInt8) (t : TypeId) (cs : Array Value) (hcs : cs.toList = cellsU l) : BytesAt (w.alloc (.cells cs t)) (some ⟨w.heap.size, 0, none⟩) l :=
  (CellsAt.new w cs t _ hcs).bytes

section
variable {P : Program} {w : World} {base : Nat} {t e : TypeId} {z : Value} {size bytes : Nat}

theorem run_append_cells (ty : TypeId) (ht : P.underlying t = some (.slice e)) (hinfo : (P.info? e).map (fun i => (i.zero, i.size, i.bytes)) = some (some z, size, bytes)) (hzs : z.cells.size = size) (hsz : 0 < size)
    {v : Value} {n : Nat} {xs : List Value} (hown : w.ownsRow base e size v n xs) {A : Option Addr} {m c : Nat} {news : List Value} (hl : news.length = m * size) (hsrc : CellsAt w A news) (h1 : ∀ u ∈ news, u.oneCell' = true)
    (h63 : n + m ≤ maxLen) (hbytes : (n + m) * bytes ≤ 140737488355328) (hbase : base ≤ w.heap.size) :
    ∃ v' w', (Builtin.append_ #[t, t] ty #[v, .slice A m c]).run P w = .ok v' w' ∧ w'.ownsRow base e size v' (n + m) (xs ++ news) ∧ w.grownBy w' v.ownBlock := by
  obtain ⟨i, hi, hz, hs, hby⟩ := info_parts hinfo
  rcases A with _ | ad
  · have hnil : news = [] := by
      apply Classical.byContradiction
      intro hne
      obtain ⟨b, off, hA, _⟩ := hsrc hne
      cases hA
    subst hnil
    have hm : m = 0 := by
      rcases Nat.eq_zero_or_pos m with h | h
      · exact h
      · have := Nat.mul_pos h hsz
        simp at hl
        omega
    subst hm
    refine ⟨v, w, ?_, by simpa using hown, World.grownBy.refl w _⟩
    rcases hown.2 with ⟨rfl, rfl⟩ | ⟨g, cap, cur, rfl, _, _, hnc, _⟩
    · simp [Builtin.append_, run_underlying ht, Go.sizeOf, typeInfo, hi, Builtin.lenOf, Builtin.firstCells]
    · simp [Builtin.append_, run_underlying ht, Go.sizeOf, typeInfo, hi, Builtin.lenOf, Builtin.firstCells, hnc, storeCells]
  · have hcells : ∀ j u, news[j]? = some u → w.cell? (ad.add j) = some u := by
      intro j u hu
      have hne : news ≠ [] := fun e => by subst e; simp at hu
      obtain ⟨b, off, hA, _, hc⟩ := hsrc hne
      cases hA
      rw [addr_add]
      exact hc j u hu
    obtain ⟨v', w', hrun, h2, h3, _, _⟩ := run_append_own_at (P := P) w base t ty e i z size bytes ht hi hz hs hby hzs hsz v n xs hown ad m c news hl hcells h1 h63 hbytes hbase
    exact ⟨v', w', hrun, h2, h3⟩

theorem wp_append_cells {o : Oper} {a : Act} {K : Act → World → Prop} {Q : Exit → Act → World → Prop} (s x : Operand)
    (ho : o.op = .call { callee := .builtin .append, args := #[s, x], argTypes := #[t, t] })
    (ht : P.underlying t = some (.slice e)) (hinfo : (P.info? e).map (fun i => (i.zero, i.size, i.bytes)) = some (some z, size, bytes)) (hzs : z.cells.size = size) (hsz : 0 < size)
    {v : Value} {n : Nat} {xs : List Value} (hs : a.eval s = v) (hown : w.ownsRow base e size v n xs) {A : Option Addr} {m c : Nat} {news : List Value} (hx : a.eval x = .slice A m c)
    (hl : news.length = m * size) (hsrc : CellsAt w A news) (h1 : ∀ u ∈ news, u.oneCell' = true)
    (h63 : n + m ≤ maxLen) (hbytes : (n + m) * bytes ≤ 140737488355328) (hbase : base ≤ w.heap.size)
    (h : ∀ v' w', w'.ownsRow base e size v' (n + m) (xs ++ news) → w.grownBy w' v.ownBlock → K (a.put o.dst v') w') : o.wp P a w K Q := by
  obtain ⟨v', w', hrun, h2, h3⟩ := run_append_cells (P := P) o.type ht hinfo hzs hsz hown hl hsrc (c := c) h1 h63 hbytes hbase
  unfold Oper.wp execOp
  simp only [ho, resolve, invoke, builtin, Sem.run_bind, Sem.run_pure, Result.andThen_ok, List.map_toArray, List.map_cons, List.map_nil, hs, hx, hrun]
  exact h v' w' h2 h3

theorem wpList_append_cells {ops : Array Oper} {rest : List Oper} {o : Oper} {a : Act} {Q : Exit → Act → World → Prop} (hgd : o.guard = none) (s x : Operand)
    (ho : o.op = .call { callee := .builtin .append, args := #[s, x], argTypes := #[t, t] })
    (ht : P.underlying t = some (.slice e)) (hinfo : (P.info? e).map (fun i => (i.zero, i.size, i.bytes)) = some (some z, size, bytes)) (hzs : z.cells.size = size) (hsz : 0 < size)
    {v : Value} {n : Nat} {xs : List Value} (hs : a.eval s = v) (hown : w.ownsRow base e size v n xs) {A : Option Addr} {m c : Nat} {news : List Value} (hx : a.eval x = .slice A m c)
    (hl : news.length = m * size) (hsrc : CellsAt w A news) (h1 : ∀ u ∈ news, u.oneCell' = true)
    (h63 : n + m ≤ maxLen) (hbytes : (n + m) * bytes ≤ 140737488355328) (hbase : base ≤ w.heap.size)
    (h : ∀ v' w', w'.ownsRow base e size v' (n + m) (xs ++ news) → w.grownBy w' v.ownBlock → wpList P ops Q rest (a.put o.dst v') w') : wpList P ops Q (o :: rest) a w :=
  wpList_plain hgd fun _ hK => wp_append_cells s x ho ht hinfo hzs hsz hs hown hx hl hsrc h1 h63 hbytes hbase fun v' w' h2 h3 => hK _ _ (h v' w' h2 h3)
end

/-! bytes -/
theorem infoU8 : (Tryd.prog.info? 5).map (fun i => (i.zero, i.size, i.bytes)) = some (some (.int .u8 0), 1, 1) := by kernel_rfl
def OwnB (w : World) (B : Nat) (v : Value) (l : List UInt8) : Prop := w.ownsRow B 5 1 v l.length (cellsU l)

theorem OwnB.nil (w : World) (B : Nat) : OwnB w B (.slice none 0 0) [] := ⟨rfl, Or.inl ⟨rfl, rfl⟩⟩
theorem OwnB.new (w : World) (B : Nat) (cs : Array Value) (l : List UInt8) (hcs : cs.toList = cellsU l) (hB : B ≤ w.heap.size) (hm : l.length ≤ maxLen) : OwnB (w.alloc (.cells cs 5)) B (.slice (some ⟨w.heap.size, 0, none⟩) l.length l.length) l := by
  have hsz : cs.size = l.length := by rw [← Array.length_toList, hcs, cellsU_length]
  refine ⟨by rw [cellsU_length, Nat.mul_one], Or.inr ⟨w.heap.size, l.length, cs, rfl, hB, heap_alloc_new w _, Nat.le_refl _, hm, by rw [hsz, Nat.mul_one], ?_⟩⟩
  rw [hcs, Nat.mul_one, ← cellsU_length]; exact List.take_length
theorem OwnB.form {w : World} {B : Nat} {v : Value} {l : List UInt8} (h : OwnB w B v l) : ∃ A cap, v = .slice A l.length cap ∧ l.length ≤ cap ∧ BytesAt w A l ∧ (∀ a, A = some a → B ≤ a.block ∧ a.spot = none) ∧ v.ownBlock = A.map (·.block) := by
  rcases h.2 with ⟨rfl, h0⟩ | ⟨g, cap, cur, rfl, hB, hg, hn, hm, hsz, htake⟩
  · have : l = [] := List.eq_nil_of_length_eq_zero h0
    subst this
    exact ⟨none, 0, rfl, Nat.le_refl _, fun h => absurd rfl h, (fun a ha => by cases ha), rfl⟩
  · refine ⟨some ⟨g, 0, none⟩, cap, rfl, hn, ?_, (fun a ha => by cases ha; exact ⟨hB, rfl⟩), rfl⟩
    apply CellsAt.bytes
    intro _
    have hlt : g < w.heap.size := by
      rcases Nat.lt_or_ge g w.heap.size with h' | h'
      · exact h'
      · rw [Array.getElem?_eq_none h'] at hg; cases hg
    refine ⟨g, 0, rfl, hlt, fun j u hu => ?_⟩
    have e := cell_of_row w g j cur 5 (0, 0) hg
    rw [Nat.zero_add, e, ← Array.getElem?_toList]
    rw [← htake] at hu
    have hj : j < l.length * 1 := by
      rcases Nat.lt_or_ge j (l.length * 1) with h' | h'
      · exact h'
      · rw [List.getElem?_take_eq_none h'] at hu; cases hu
    rwa [List.getElem?_take_of_lt hj] at hu

theorem wpList_append_bytes {w : World} {ops : Array Oper} {rest : List Oper} {o : Oper} {a : Act} {Q : Exit → Act → World → Prop} (hgd : o.guard = none) (s x : Operand)
    (ho : o.op = .call { callee := .builtin .append, args := #[s, x], argTypes := #[22, 22] })
    {B : Nat} {v : Value} {l : List UInt8} (hs : a.eval s = v) (hown : OwnB w B v l) {A : Option Addr} {src : List UInt8} {n c : Nat} (hx : a.eval x = .slice A n c) (hn : src.length = n) (hsrc : BytesAt w A src)
    (hb : l.length + src.length ≤ 140737488355328) (hbase : B ≤ w.heap.size)
    (h : ∀ v' w', OwnB w' B v' (l ++ src) → w.grownBy w' v.ownBlock → wpList Tryd.prog ops Q rest (a.put o.dst v') w') : wpList Tryd.prog ops Q (o :: rest) a w := by
  subst hn
  refine wpList_append_cells hgd s x ho Tryd.underlying22 infoU8 rfl (by decide) hs hown hx (by rw [cellsU_length, Nat.mul_one]) hsrc.cells ?_ ?_ ?_ hbase ?_
  · intro u hu
    obtain ⟨c, _, rfl⟩ := List.mem_map.1 hu
    rfl
  · unfold maxLen; omega
  · omega
  · intro v' w' h2 h3
    refine h v' w' ?_ h3
    unfold OwnB
    rw [List.length_append, cellsU_append]
    exact h2

theorem BytesAt.grown {w w' : World} {A : Option Addr} {l : List UInt8} {row : Option Nat} (h : BytesAt w A l) (hg : w.grownBy w' row) (hr : ∀ a k, A = some a → row = some k → a.block ≠ k) : BytesAt w' A l := by
  intro hne
  obtain ⟨b, off, rfl, hlt, hc⟩ := h hne
  refine ⟨b, off, rfl, Nat.lt_of_lt_of_le hlt hg.size, fun j hj => ?_⟩
  rw [World.cell?_of_block (w := w) (a := ⟨b, off + j, none⟩) (hg.block b hlt (fun e => hr _ b rfl e.symm rfl))]
  exact hc j hj

theorem Below.of_grown {B : Nat} {a w w' : World} {row : Option Nat} (h : Below B a w) (hg : w.grownBy w' row) (hB : B ≤ w.heap.size) (hr : ∀ k, row = some k → B ≤ k) : Below B a w' := h.grown hg hB hr

end Go.Proofs.YtcakeolnokninaaDoor.Utf

/- Characters as numbers: which may be, which may be shown, their bytes. Plain. -/
set_option linter.unusedVariables false
namespace Go.Proofs.YtcakeolnokninaaDoor.UtfP
open Go.Lib

def fineC (c : Int) : Bool := decide (0 ≤ c ∧ c ≤ 1114111 ∧ ¬ (55296 ≤ c ∧ c ≤ 57343))
def printC (c : Int) : Bool := fineC c && decide (32 ≤ c ∧ ¬ (127 ≤ c ∧ c ≤ 159))
theorem fineC_iff {c : Int} : (fineC c = true ↔ 0 ≤ c ∧ c ≤ 1114111 ∧ ¬ (55296 ≤ c ∧ c ≤ 57343)) ∧ (fineC c = false ↔ ¬ (0 ≤ c ∧ c ≤ 1114111 ∧ ¬ (55296 ≤ c ∧ c ≤ 57343))) := by
  unfold fineC; exact ⟨decide_eq_true_iff, decide_eq_false_iff_not⟩
theorem printC_iff {c : Int} : (printC c = true ↔ (0 ≤ c ∧ c ≤ 1114111 ∧ ¬ (55296 ≤ c ∧ c ≤ 57343)) ∧ 32 ≤ c ∧ ¬ (127 ≤ c ∧ c ≤ 159)) := by
  unfold printC fineC; rw [Bool.and_eq_true, decide_eq_true_iff, decide_eq_true_iff]
theorem printC_fine {c : Int} (h : printC c = true) : fineC c = true := by
  unfold printC at h; rw [Bool.and_eq_true] at h; exact h.1
/-- a character's bytes -/
def enc (c : Int) : List UInt8 := encodeRune c
theorem enc_length (c : Int) : 1 ≤ (enc c).length ∧ (enc c).length ≤ 4 := by
  have := runeCells_le c
  rw [runeCells_length] at this
  exact this

end Go.Proofs.YtcakeolnokninaaDoor.UtfP

/- utf8.AppendRune, by the shelf's contract. -/
set_option linter.unusedVariables false
namespace Go.Proofs.YtcakeolnokninaaDoor.Utf
open Go.RowKit Go.Lib Go.Shelf UtfP

def rhoA : Ren := ⟨fun | 242 => 70 | 278 => 79 | _ => 0,
  fun | 4 => 4 | 5 => 5 | 21 => 21 | 37 => 22 | 46 => 45 | 51 => 115 | _ => 0, fun _ => 0⟩
theorem laysA : Lays.n242 Tryd.prog rhoA where
  mixed := by kernel_rfl
  f242 := by kernel_rfl
  f278 := by kernel_rfl
  t4 := by kernel_rfl
  a4 := fun _ => by kernel_rfl
  z4 := fun _ => by kernel_rfl
  v4 := fun _ => by kernel_rfl
  t5 := by kernel_rfl
  a5 := fun _ => by kernel_rfl
  z5 := fun _ => by kernel_rfl
  v5 := fun _ => by kernel_rfl
  t21 := by kernel_rfl
  a21 := fun _ => by kernel_rfl
  z21 := fun _ => by kernel_rfl
  v21 := fun _ => by kernel_rfl
  t37 := by kernel_rfl
  a37 := fun _ => by kernel_rfl
  z37 := fun _ => by kernel_rfl
  v37 := fun _ => by kernel_rfl
  t46 := by kernel_rfl
  a46 := fun _ => by kernel_rfl
  z46 := fun _ => by kernel_rfl
  v46 := fun _ => by kernel_rfl
  t51 := by kernel_rfl
  a51 := fun _ => by kernel_rfl
  z51 := fun _ => by kernel_rfl
  v51 := fun _ => by kernel_rfl
theorem enc_cells (c : Int) : cellsU (enc c) = Lib.runeCells c := byteCells_encodeRune c

theorem appendRune (B : Nat) (v : Value) (l : List UInt8) (r : Int) (h0 : -2147483648 ≤ r) (h1 : r ≤ 2147483647) (w : World) (hown : OwnB w B v l) (hlen : l.length + 4 ≤ 140737488355328) (hB : B ≤ w.heap.size) :
    Calls Tryd.prog 70 #[v, .int .i32 r] w fun e w' => ∃ v', e = .returned v' ∧ OwnB w' B v' (l ++ enc r) ∧ w.grownBy w' v.ownBlock := by
  refine (Any.utf8_AppendRune_plain (P := Tryd.prog) (ρ := rhoA) laysA infoU8 B v l.length (cellsU l) r h0 h1 w hown hlen hB).mono ?_
  rintro e w' ⟨v', he, hown', o, hg⟩
  refine ⟨v', he, ?_, ⟨hg.os, hg.tape, hg.output, ?_, fun k hk hne => ?_⟩⟩
  · unfold OwnB
    rw [List.length_append, cellsU_append, enc_cells]
    rw [runeCells_length] at hown'
    exact hown'
  · have := hg.size; simp at this; omega
  · rw [hg.block k (by simp; omega) hne]
    exact Below.heap_alloc w o k hk

theorem OwnB.base {w : World} {B B' : Nat} {v : Value} {l : List UInt8} (h : OwnB w B v l) (hB : B' ≤ B) : OwnB w B' v l := by
  obtain ⟨h1, h2 | ⟨g, cap, cur, h3, h4, h5⟩⟩ := h
  · exact ⟨h1, Or.inl h2⟩
  · exact ⟨h1, Or.inr ⟨g, cap, cur, h3, Nat.le_trans hB h4, h5⟩⟩

end Go.Proofs.YtcakeolnokninaaDoor.Utf

/- utf.Put, utf.Printable and the reference's Fine, Printable, Put, walked. -/
set_option linter.unusedVariables false
namespace Go.Proofs.YtcakeolnokninaaDoor.Utf
open Go.RowKit Go.Lib Go.Shelf UtfP

def rhoV : Ren := ⟨fun | 119 => 69 | _ => 0, fun | 4 => 4 | 5 => 5 | 21 => 21 | 37 => 22 | 46 => 45 | 51 => 115 | _ => 0, fun _ => 0⟩
theorem laysV : Lays.n119 Tryd.prog rhoV where
  mixed := by kernel_rfl
  f119 := by kernel_rfl
  t4 := by kernel_rfl
  a4 := fun _ => by kernel_rfl
  z4 := fun _ => by kernel_rfl
  v4 := fun _ => by kernel_rfl
  t21 := by kernel_rfl
  a21 := fun _ => by kernel_rfl
  z21 := fun _ => by kernel_rfl
  v21 := fun _ => by kernel_rfl

theorem validRune (r : Int) (w : World) : Calls Tryd.prog 69 #[.int .i32 r] w fun e w' => e = .returned (.bool (Lib.validRune r)) ∧ w = w' :=
  (Any.utf8_ValidRune (P := Tryd.prog) (ρ := rhoV) laysV r w).mono fun _ _ ⟨he, hw⟩ => ⟨he, hw.symm⟩

/-- what Put hands back of a character that may be -/
def PutOk (w : World) (c : Int) (e : Ending) (w' : World) : Prop := ∃ v, e = .returned (.tuple #[v, .int .i64 0]) ∧ OwnB w' w.heap.size v (enc c) ∧ Below w.heap.size w w'

set_option maxHeartbeats 1000000 in
theorem put_ok (c : Int) (w : World) (h : fineC c = true) : Calls Tryd.prog 53 #[.int .i64 c] w (PutOk w c) := by
  have hc := fineC_iff.1.1 h
  have C1 := fun W => validRune c W
  rw [show Lib.validRune c = true by unfold Lib.validRune; simp; omega] at C1
  have C2 := appendRune w.heap.size (.slice none 0 0) [] c (by omega) (by omega) w (OwnB.nil _ _) (by simp) (Nat.le_refl _)
  have H1 := Lib.hid C1
  have H2 := Lib.hid C2
  have k1 : decide (c < 0) = false := by simp; omega
  have k2 : decide (1114111 < c) = false := by simp; omega
  have b1 : 0 ≤ c := hc.1
  have b2 : c ≤ 1114111 := hc.2.1
  clear C1 C2 h hc
  go_enter Tryd.func53, Tryd.ntmps53
  go_wp2_with (first | (go_at_call 69; refine (H1.out _).mono ?_; rintro e w1 ⟨rfl, rfl⟩) | (go_at_call 70; refine (H2.out).mono ?_; rintro e w2 ⟨v, rfl, hown, hg⟩))
  go_ret2
  exact ⟨v, rfl, by simpa using hown, (Below.refl _ _).grown hg (Nat.le_refl _) (fun k hk => by cases hk)⟩

set_option maxHeartbeats 1000000 in
theorem put_bad (c : Int) (w : World) (h : fineC c = false) : Calls Tryd.prog 53 #[.int .i64 c] w fun e w' => e = .returned (.tuple #[.slice none 0 0, .int .i64 3]) ∧ w = w' := by
  have hc := fineC_iff.2.1 h
  by_cases h1 : c < 0
  · clear h hc
    go_enter Tryd.func53, Tryd.ntmps53
    go_wp2
    go_ret2
    exact ⟨rfl, rfl⟩
  · have k1 : decide (c < 0) = false := by simp; omega
    by_cases h2 : 1114111 < c
    · clear h hc h1
      go_enter Tryd.func53, Tryd.ntmps53
      go_wp2
      go_ret2
      exact ⟨rfl, rfl⟩
    · have k2 : decide (1114111 < c) = false := by simp; omega
      have C1 := fun W => validRune c W
      rw [show Lib.validRune c = false by unfold Lib.validRune; simp; omega] at C1
      have H1 := Lib.hid C1
      have b1 : 0 ≤ c := by omega
      have b2 : c ≤ 1114111 := by omega
      clear C1 h hc h1 h2
      go_enter Tryd.func53, Tryd.ntmps53
      go_wp2_with (go_at_call 69; refine (H1.out _).mono ?_; rintro e w1 ⟨rfl, rfl⟩)
      go_ret2
      exact ⟨rfl, rfl⟩

set_option maxHeartbeats 1000000 in
theorem printable (c : Int) (w : World) : Calls Tryd.prog 68 #[.int .i64 c] w fun e w' => e = .returned (.bool (printC c)) ∧ Below w.heap.size w w' := by
  cases hf : fineC c with
  | false =>
    have H1 := Lib.hid (put_bad c w hf)
    rw [show printC c = false by unfold printC; rw [hf]; rfl]
    clear hf
    go_enter Tryd.func68, Tryd.ntmps68
    go_wp2_with (go_at_call 53; refine (H1.out).mono ?_; rintro e w1 ⟨rfl, rfl⟩)
    go_ret
    exact ⟨rfl, Below.refl _ _⟩
  | true =>
    have H1 := Lib.hid (put_ok c w hf)
    have hp : printC c = decide (32 ≤ c ∧ ¬ (127 ≤ c ∧ c ≤ 159)) := by unfold printC; rw [hf]; rfl
    clear hf
    by_cases h1 : 32 ≤ c
    · by_cases h2 : c < 127
      · rw [show printC c = true by rw [hp]; simp; omega]
        clear hp
        go_enter Tryd.func68, Tryd.ntmps68
        go_wp2_with (go_at_call 53; refine (H1.out).mono ?_; rintro e w1 ⟨v, rfl, _, hb⟩)
        go_ret
        exact ⟨rfl, hb⟩
      · have k2 : decide (c < 127) = false := by simp; omega
        by_cases h3 : 159 < c
        · rw [show printC c = true by rw [hp]; simp; omega]
          clear hp h2
          go_enter Tryd.func68, Tryd.ntmps68
          go_wp2_with (go_at_call 53; refine (H1.out).mono ?_; rintro e w1 ⟨v, rfl, _, hb⟩)
          go_ret
          exact ⟨rfl, hb⟩
        · have k3 : decide (159 < c) = false := by simp; omega
          rw [show printC c = false by rw [hp]; simp; omega]
          clear hp h2 h3
          go_enter Tryd.func68, Tryd.ntmps68
          go_wp2_with (go_at_call 53; refine (H1.out).mono ?_; rintro e w1 ⟨v, rfl, _, hb⟩)
          go_ret
          exact ⟨rfl, hb⟩
    · have k1 : decide (32 ≤ c) = false := by simp; omega
      rw [show printC c = false by rw [hp]; simp; omega]
      clear hp h1
      go_enter Tryd.func68, Tryd.ntmps68
      go_wp2_with (go_at_call 53; refine (H1.out).mono ?_; rintro e w1 ⟨v, rfl, _, hb⟩)
      go_ret
      exact ⟨rfl, hb⟩

end Go.Proofs.YtcakeolnokninaaDoor.Utf

/- (the document's tests) The reference's Fine, Printable, Put, walked. -/
set_option linter.unusedVariables false
namespace Go.Proofs.YtcakeolnokninaaDoor.Utf
open Go.RowKit Go.Lib Go.Shelf UtfP

set_option maxHeartbeats 1000000 in
theorem refFine (c : Int) (w : World) : Calls Tryd.prog 51 #[.int .i64 c] w fun e w' => e = .returned (.bool (fineC c)) ∧ w = w' := by
  have hi := @fineC_iff c
  generalize fineC c = v at *
  by_cases h1 : 0 ≤ c
  · by_cases h2 : c ≤ 1114111
    · by_cases h3 : 55296 ≤ c
      · by_cases h4 : c ≤ 57343
        · obtain rfl : v = false := hi.2.2 (by omega)
          clear hi
          go_enter Tryd.func51, Tryd.ntmps51
          go_wp2
          go_ret
          exact ⟨rfl, rfl⟩
        · obtain rfl : v = true := hi.1.2 (by omega)
          have k4 : decide (c ≤ 57343) = false := by simp; omega
          clear hi h4
          go_enter Tryd.func51, Tryd.ntmps51
          go_wp2
          go_ret
          exact ⟨rfl, rfl⟩
      · obtain rfl : v = true := hi.1.2 (by omega)
        have k3 : decide (55296 ≤ c) = false := by simp; omega
        clear hi h3
        go_enter Tryd.func51, Tryd.ntmps51
        go_wp2
        go_ret
        exact ⟨rfl, rfl⟩
    · obtain rfl : v = false := hi.2.2 (by omega)
      have k2 : decide (c ≤ 1114111) = false := by simp; omega
      clear hi h2
      go_enter Tryd.func51, Tryd.ntmps51
      go_wp2
      go_ret
      exact ⟨rfl, rfl⟩
  · obtain rfl : v = false := hi.2.2 (by omega)
    have k1 : decide (0 ≤ c) = false := by simp; omega
    clear hi h1
    go_enter Tryd.func51, Tryd.ntmps51
    go_wp2
    go_ret
    exact ⟨rfl, rfl⟩

set_option maxHeartbeats 1000000 in
theorem refPrintable (c : Int) (w : World) : Calls Tryd.prog 30 #[.int .i64 c] w fun e w' => e = .returned (.bool (printC c)) ∧ w = w' := by
  have H1 := Lib.hid (refFine c)
  have hp : printC c = (fineC c && decide (32 ≤ c ∧ ¬ (127 ≤ c ∧ c ≤ 159))) := rfl
  generalize fineC c = f at *
  generalize printC c = v at *
  cases f with
  | false =>
    obtain rfl : v = false := by simpa using hp
    clear hp
    go_enter Tryd.func30, Tryd.ntmps30
    go_wp2_with (go_at_call 51; refine (H1.out _).mono ?_; rintro e w1 ⟨rfl, rfl⟩)
    go_ret
    exact ⟨rfl, rfl⟩
  | true =>
    by_cases h1 : 32 ≤ c
    · by_cases h2 : 127 ≤ c
      · by_cases h3 : c ≤ 159
        · obtain rfl : v = false := by rw [hp]; simp; omega
          clear hp
          go_enter Tryd.func30, Tryd.ntmps30
          go_wp2_with (go_at_call 51; refine (H1.out _).mono ?_; rintro e w1 ⟨rfl, rfl⟩)
          go_ret
          exact ⟨rfl, rfl⟩
        · obtain rfl : v = true := by rw [hp]; simp; omega
          have k3 : decide (c ≤ 159) = false := by simp; omega
          clear hp h3
          go_enter Tryd.func30, Tryd.ntmps30
          go_wp2_with (go_at_call 51; refine (H1.out _).mono ?_; rintro e w1 ⟨rfl, rfl⟩)
          go_ret
          exact ⟨rfl, rfl⟩
      · obtain rfl : v = true := by rw [hp]; simp; omega
        have k2 : decide (127 ≤ c) = false := by simp; omega
        clear hp h2
        go_enter Tryd.func30, Tryd.ntmps30
        go_wp2_with (go_at_call 51; refine (H1.out _).mono ?_; rintro e w1 ⟨rfl, rfl⟩)
        go_ret
        exact ⟨rfl, rfl⟩
    · obtain rfl : v = false := by rw [hp]; simp; omega
      have k1 : decide (32 ≤ c) = false := by simp; omega
      clear hp h1
      go_enter Tryd.func30, Tryd.ntmps30
      go_wp2_with (go_at_call 51; refine (H1.out _).mono ?_; rintro e w1 ⟨rfl, rfl⟩)
      go_ret
      exact ⟨rfl, rfl⟩

end Go.Proofs.YtcakeolnokninaaDoor.Utf

/- string(b): a slice of bytes as a string. -/
set_option linter.unusedVariables false
namespace Go.Proofs.YtcakeolnokninaaDoor.Utf
open Go.RowKit Go.Lib Go.Shelf UtfP

theorem bytesAt_drew (w : World) (A : Option Addr) (l : List UInt8) : BytesAt w.drew A l = BytesAt w A l := rfl
theorem bytesAt_drewN (w : World) (n : Nat) (A : Option Addr) (l : List UInt8) : BytesAt (w.drewN n) A l = BytesAt w A l := rfl

def strOf (l : List UInt8) : ByteArray := ⟨l.toArray⟩
theorem strOf_inj {l m : List UInt8} (h : strOf l = strOf m) : l = m := by
  have := congrArg (fun s : ByteArray => s.data.toList) h
  simpa [strOf] using this
theorem strOf_toList (l : List UInt8) : (strOf l).toList = l := by
  rw [ByteArray.toList_eq]
  rfl
theorem strOf_size (l : List UInt8) : (strOf l).size = l.length := rfl

theorem OwnB.form' {w : World} {B : Nat} {v : Value} {l : List UInt8} (h : OwnB w B v l) : ∃ A n cap, v = .slice A n cap ∧ l.length = n ∧ n ≤ cap ∧ BytesAt w A l := by
  obtain ⟨A, cap, hv, hc, hb, _⟩ := h.form
  exact ⟨A, _, cap, hv, rfl, hc, hb⟩

theorem lit_fffd : (ByteArray.mk #[239, 191, 189]) = strOf [239, 191, 189] := rfl
theorem strOf_append (a b : List UInt8) : strOf a ++ strOf b = strOf (a ++ b) := by
  apply ByteArray.ext
  apply Array.ext'
  simp [strOf]

theorem conv_str {w : World} {A : Option Addr} {l : List UInt8} {cap : Nat} (h : BytesAt w A l) :
    (convert 22 9 (.slice A l.length cap)).run Tryd.prog w = .ok (.string (strOf l)) w := by
  by_cases hne : l = []
  · subst hne
    cases A with
    | none => exact run_convert_bytes_nil w 22 5 Tryd.underlying22 Tryd.underlying5 _ _ _ Tryd.underlying9
    | some a =>
      rw [run_convert_bytes_string w 22 9 5 _ _ cap Tryd.underlying22 Tryd.underlying5 Tryd.underlying9]
      have := run_bytesToString (P := Tryd.prog) w a 0 cap [] (by simp [loadCells, loadCellsFrom])
      exact this
  · obtain ⟨b, off, rfl, _, hc⟩ := h hne
    have hx : ∀ i, i < l.length → w.cell? ⟨b, off + i, none⟩ = some (.int .u8 ((l.map fun c => (c.toNat : Int)).getD i 0)) := by
      intro i hi
      have e : (l.map fun c => (c.toNat : Int)).getD i 0 = (bt l i : Int) := by
        unfold bt
        rw [List.getD_eq_getElem?_getD, List.getD_eq_getElem?_getD, List.getElem?_map, List.getElem?_eq_getElem hi]
        rfl
      rw [e]
      exact hc i hi
    have := run_convert_bytes_arg w 22 5 Tryd.underlying22 Tryd.underlying5 b off l.length cap (l.map fun c => (c.toNat : Int)) (by simp) hx 9 Tryd.underlying9
    rw [this]
    have h2 : (l.map fun c => (c.toNat : Int)).map (fun n => UInt8.ofNat n.toNat) = l := by
      rw [List.map_map]
      conv => rhs; rw [← List.map_id l]
      apply List.map_congr_left
      intro c _
      simp
    have e : strOfNums (l.map fun c => (c.toNat : Int)) = strOf l := congrArg (fun x : List UInt8 => (⟨x.toArray⟩ : ByteArray)) h2
    rw [e]

end Go.Proofs.YtcakeolnokninaaDoor.Utf

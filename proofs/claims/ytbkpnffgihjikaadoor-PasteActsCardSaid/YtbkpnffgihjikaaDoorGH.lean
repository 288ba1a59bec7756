/- Texts joined: RB; RB2; RB3; RB6; RB7; RB8; RB5. -/
import Derived.Test.YtbkpnffgihjikaaDoorGF
import Derived.Test.YtbkpnffgihjikaaDoorGD
import Derived.Deep.RegionHeldLaw
import Derived.Test.YtbkpnffgihjikaaDoorGG
import Derived.Deep.CutBlock
import Derived.Deep.DeepCutAuto
/- The document's edit buffer: where it lies, its lists of characters; an append inside a region that draws its order. -/
set_option linter.unusedVariables false
set_option linter.unusedSimpArgs false
namespace Go.Proofs.YtbkpnffgihjikaaDoor.Edit
open Go.RowKit Go.Lib Go.Shelf ChangeShapes Mem Utf UtfP

theorem step_append_ints {w : World} {ops : Array Oper} {o : Oper} {a : Act} {K : Act → World → Prop} {Q : Exit → Act → World → Prop} {E : Prop} (hgd : o.guard = none) (s x : Operand) (d : Option Tmp) (hdst : o.dst = d)
    (ho : o.op = .call { callee := .builtin .append, args := #[s, x], argTypes := #[37, 37] })
    {B : Nat} {v : Value} {l : List Int} (hs : a.eval s = v) (hown : OwnI w B v l) {A : Option Addr} {src : List Int} {n c : Nat} (hx : a.eval x = .slice A n c) (hn : src.length = n) (hsrc : CellsAt w A (cellsI src))
    (hb : l.length + src.length ≤ 17592186044416) (hbase : B ≤ w.heap.size)
    (h : ∀ v' w', OwnI w' B v' (l ++ src) → w.grownBy w' v.ownBlock → K (a.put d v') w') :
    if Region.wanted o (yielded ops a.tmps) = true then Oper.wp Tryd.prog o a w K Q else E := by
  have hw : Region.wanted o (yielded ops a.tmps) = true := by simp [Region.wanted, hgd]
  rw [if_pos hw]
  subst hdst
  subst hn
  refine wp_append_cells s x ho Tryd.underlying37 infoInt rfl (by decide) hs hown hx (by rw [cellsI_length, Nat.mul_one]) hsrc ?_ ?_ ?_ hbase ?_
  · intro u hu
    obtain ⟨c, _, rfl⟩ := List.mem_map.1 hu
    rfl
  · unfold maxLen; omega
  · omega
  · intro v' w' h2 h3
    refine h v' w' ?_ h3
    unfold OwnI
    rw [List.length_append, cellsI_append]
    exact h2

theorem step_append_bytes {w : World} {ops : Array Oper} {o : Oper} {a : Act} {K : Act → World → Prop} {Q : Exit → Act → World → Prop} {E : Prop} (hgd : o.guard = none) (s x : Operand) (d : Option Tmp) (hdst : o.dst = d)
    (ho : o.op = .call { callee := .builtin .append, args := #[s, x], argTypes := #[22, 22] })
    {B : Nat} {v : Value} {l : List UInt8} (hs : a.eval s = v) (hown : OwnB w B v l) {A : Option Addr} {src : List UInt8} {n c : Nat} (hx : a.eval x = .slice A n c) (hn : src.length = n) (hsrc : BytesAt w A src)
    (hb : l.length + src.length ≤ 17592186044416) (hbase : B ≤ w.heap.size)
    (h : ∀ v' w', OwnB w' B v' (l ++ src) → w.grownBy w' v.ownBlock → K (a.put d v') w') :
    if Region.wanted o (yielded ops a.tmps) = true then Oper.wp Tryd.prog o a w K Q else E := by
  have hw : Region.wanted o (yielded ops a.tmps) = true := by simp [Region.wanted, hgd]
  rw [if_pos hw]
  subst hdst
  subst hn
  refine wp_append_cells s x ho Tryd.underlying22 infoU8 rfl (by decide) hs hown hx (by rw [cellsU_length, Nat.mul_one]) hsrc.cells ?_ ?_ ?_ hbase ?_
  · intro u hu
    obtain ⟨c, _, rfl⟩ := List.mem_map.1 hu
    rfl
  · unfold maxLen; omega
  · omega
  · intro v' w' h2 h3
    refine h v' w' ?_ h3
    unfold OwnB
    rw [List.length_append, cellsU_append]
    exact h2

theorem OwnB.base {w : World} {B B' : Nat} {v : Value} {l : List UInt8} (h : OwnB w B v l) (hB : B' ≤ B) : OwnB w B' v l := by
  obtain ⟨h1, h2 | ⟨g, cap, cur, h3, h4, h5⟩⟩ := h
  · exact ⟨h1, Or.inl h2⟩
  · exact ⟨h1, Or.inr ⟨g, cap, cur, h3, Nat.le_trans hB h4, h5⟩⟩
theorem CellsAt.below {w w' : World} {A : Option Addr} {xs : List Value} (h : CellsAt w A xs) (hb : Below w.heap.size w w') : CellsAt w' A xs := by
  intro hne
  obtain ⟨b, off, rfl, hlt, hc⟩ := h hne
  exact ⟨b, off, rfl, Nat.lt_of_lt_of_le hlt hb.size, fun j u hu => by rw [hb.cell (p := ⟨b, off + j, none⟩) hlt]; exact hc j u hu⟩
theorem CellsAt.but {S : List Nat} {w w' : World} {A : Option Addr} {xs : List Value} (h : CellsAt w A xs) (hb : But S w w') (hs : ∀ a, A = some a → xs ≠ [] → a.block ∉ S) : CellsAt w' A xs := by
  intro hne
  obtain ⟨b, off, rfl, hlt, hc⟩ := h hne
  exact ⟨b, off, rfl, Nat.lt_of_lt_of_le hlt hb.size, fun j u hu => by rw [hb.cell (p := ⟨b, off + j, none⟩) hlt (show b ∉ S from hs ⟨b, off, none⟩ rfl hne)]; exact hc j u hu⟩
theorem CellsAt.grown {w w' : World} {A : Option Addr} {xs : List Value} {row : Option Nat} (h : CellsAt w A xs) (hg : w.grownBy w' row) (hr : ∀ a k, A = some a → row = some k → a.block ≠ k) : CellsAt w' A xs := by
  intro hne
  obtain ⟨b, off, rfl, hlt, hc⟩ := h hne
  exact ⟨b, off, rfl, Nat.lt_of_lt_of_le hlt hg.size, fun j u hu => by
    rw [World.cell?_of_block (w := w) (a := ⟨b, off + j, none⟩) (hg.block b hlt (fun e => hr _ b rfl e.symm rfl))]
    exact hc j u hu⟩

/-- a list of characters at a place that is none of S -/
structure Row (w : World) (S : List Nat) (p : Option Addr) (c : Nat) (l : List Int) : Prop where
  at' : CellsAt w p (cellsI l)
  le : l.length ≤ c
  out : ∀ a, p = some a → l ≠ [] → a.block ∉ S

theorem cellsI_ne {l : List Int} (h : l ≠ []) : cellsI l ≠ [] := by
  intro e
  have := cellsI_length l
  rw [e] at this
  exact h (List.eq_nil_of_length_eq_zero this.symm)
theorem ne_of_cellsI {l : List Int} (h : cellsI l ≠ []) : l ≠ [] := by
  intro e; subst e; exact h rfl

theorem Row.nil (w : World) (S : List Nat) (p : Option Addr) (c : Nat) : Row w S p c [] := ⟨fun h => absurd rfl h, by simp, fun _ _ h => absurd rfl h⟩
theorem Row.but {S T : List Nat} {w w' : World} {p : Option Addr} {c : Nat} {l : List Int} (h : Row w S p c l) (hb : But T w w') (hs : ∀ k ∈ T, k ∈ S) : Row w' S p c l :=
  ⟨CellsAt.but h.at' hb (fun a ha hne hk => h.out a ha (ne_of_cellsI hne) (hs _ hk)), h.le, h.out⟩
theorem Row.take {S : List Nat} {w : World} {p : Option Addr} {c : Nat} {l : List Int} (h : Row w S p c l) (k : Nat) : Row w S p c (l.take k) := by
  refine ⟨fun hne => ?_, ?_, fun a ha hne => h.out a ha (fun e => hne (by rw [e]; simp))⟩
  · have hl : l ≠ [] := fun e => (ne_of_cellsI hne) (by rw [e]; simp)
    obtain ⟨b, off, hp, hlt, hc⟩ := h.at' (cellsI_ne hl)
    refine ⟨b, off, hp, hlt, fun j u hu => hc j u ?_⟩
    unfold cellsI at hu ⊢
    rw [List.getElem?_map] at hu ⊢
    rw [List.getElem?_take] at hu
    split at hu
    · exact hu
    · simp at hu
  · rw [List.length_take]; have := h.le; omega
/-- what is behind the first one -/
theorem Row.tail {S : List Nat} {w : World} {g off c : Nat} {l : List Int} (h : Row w S (some ⟨g, off, none⟩) c l) : Row w S (if c = 1 then some ⟨g, off, none⟩ else some ⟨g, off + 1, none⟩) (c - 1) l.tail := by
  have hle := h.le
  refine ⟨fun hne => ?_, by rw [List.length_tail]; omega, fun a ha hne => ?_⟩
  · have hl := ne_of_cellsI hne
    have hlen : 2 ≤ l.length := by
      have := List.length_pos_iff.2 hl
      rw [List.length_tail] at this; omega
    rw [if_neg (by omega)]
    obtain ⟨b, o, hp, hlt, hc⟩ := h.at' (cellsI_ne (by intro e; subst e; simp at hlen))
    cases hp
    refine ⟨g, off + 1, rfl, hlt, fun j u hu => ?_⟩
    rw [Nat.add_assoc, Nat.add_comm 1]
    refine hc (j + 1) u ?_
    unfold cellsI at hu ⊢
    rw [List.getElem?_map] at hu ⊢
    rw [← List.drop_one, List.getElem?_drop, Nat.add_comm 1] at hu
    exact hu
  · have h2 := h.out ⟨g, off, none⟩ rfl (fun e => hne (by rw [e]; rfl))
    split at ha <;> (cases ha; exact h2)
theorem Row.own {S : List Nat} {w : World} {B : Nat} {v : Value} {l : List Int} (h : OwnI w B v l) (hS : ∀ s ∈ S, s < B) : ∃ p c, v = .slice p l.length c ∧ Row w S p c l := by
  obtain ⟨A, cap, rfl, h1, h2, h3, _⟩ := h.form
  exact ⟨A, cap, rfl, h2, h1, fun a ha _ hk => by have := (h3 a ha).1; have := hS _ hk; omega⟩

theorem Row.own' {S : List Nat} {w : World} {B : Nat} {v : Value} {l : List Int} (h : OwnI w B v l) (hS : ∀ s ∈ S, s < B) : ∃ p m c, v = .slice p m c ∧ l.length = m ∧ Row w S p c l := by
  obtain ⟨p, c, rfl, hr⟩ := Row.own h hS
  exact ⟨p, _, c, rfl, rfl, hr⟩

/-- the document's buffer at block r -/
structure RB (w : World) (S : List Nat) (r N : Nat) (A B : List Int) : Prop where
  ex : ∃ pa ca pb cb, Blk w r #[.slice pa A.length ca, .slice pb B.length cb, .int .i64 (N : Int)] 60 ∧ Row w S pa ca A ∧ Row w S pb cb B
  lt : ∀ s ∈ S, s < w.heap.size
  rS : r ∈ S

theorem RB.but {S T : List Nat} {w w' : World} {r N : Nat} {A B : List Int} (h : RB w S r N A B) (hb : But T w w') (hs : ∀ k ∈ T, k ∈ S) (hr : r ∉ T) : RB w' S r N A B := by
  obtain ⟨pa, ca, pb, cb, h1, h2, h3⟩ := h.ex
  exact ⟨⟨pa, ca, pb, cb, h1.but hb hr, h2.but hb hs, h3.but hb hs⟩, fun s hs => Nat.lt_of_lt_of_le (h.lt s hs) hb.size, h.rS⟩
theorem RB.below {S : List Nat} {w w' : World} {r N : Nat} {A B : List Int} (h : RB w S r N A B) (hb : Below w.heap.size w w') : RB w' S r N A B := h.but (But.of_below (S := []) hb) (by simp) (by simp)
theorem RB.setA' {S : List Nat} {w w5 : World} {r N : Nat} {A B A' : List Int} (h : RB w S r N A B) (hb : Below w.heap.size w w5) {p : Option Addr} {c m : Nat} (hm : A'.length = m) (hr : Row w5 S p c A') : RB (w5.setCell ⟨r, 0, none⟩ (.slice p m c)) S r N A' B ∧ But [r] w (w5.setCell ⟨r, 0, none⟩ (.slice p m c)) := by
  subst hm
  have h5 := h.but (But.of_below (S := []) hb) (by simp) (by simp)
  obtain ⟨pa, ca, pb, cb, h1, h2, h3⟩ := h5.ex
  have hb' : But [r] w5 (w5.setCell ⟨r, 0, none⟩ (.slice p A'.length c)) := (But.refl _ _).set (Or.inl (by simp)) _
  exact ⟨⟨⟨p, c, pb, cb, h1.set 0 _, hr.but hb' (by simp; exact h.rS), h3.but hb' (by simp; exact h.rS)⟩, fun s hs => Nat.lt_of_lt_of_le (h5.lt s hs) hb'.size, h.rS⟩, (But.of_below hb).trans hb'⟩
theorem RB.setB' {S : List Nat} {w w5 : World} {r N : Nat} {A B B' : List Int} (h : RB w S r N A B) (hb : Below w.heap.size w w5) {p : Option Addr} {c m : Nat} (hm : B'.length = m) (hr : Row w5 S p c B') : RB (w5.setCell ⟨r, 1, none⟩ (.slice p m c)) S r N A B' ∧ But [r] w (w5.setCell ⟨r, 1, none⟩ (.slice p m c)) := by
  subst hm
  have h5 := h.but (But.of_below (S := []) hb) (by simp) (by simp)
  obtain ⟨pa, ca, pb, cb, h1, h2, h3⟩ := h5.ex
  have hb' : But [r] w5 (w5.setCell ⟨r, 1, none⟩ (.slice p B'.length c)) := (But.refl _ _).set (Or.inl (by simp)) _
  exact ⟨⟨⟨pa, ca, p, c, h1.set 1 _, h2.but hb' (by simp; exact h.rS), hr.but hb' (by simp; exact h.rS)⟩, fun s hs => Nat.lt_of_lt_of_le (h5.lt s hs) hb'.size, h.rS⟩, (But.of_below hb).trans hb'⟩
/-- one of its lists is set -/
theorem RB.setA {S : List Nat} {w : World} {r N : Nat} {A B A' : List Int} (h : RB w S r N A B) {p : Option Addr} {c : Nat} (hr : Row w S p c A') : RB (w.setCell ⟨r, 0, none⟩ (.slice p A'.length c)) S r N A' B := by
  obtain ⟨pa, ca, pb, cb, h1, h2, h3⟩ := h.ex
  have hb : But [r] w (w.setCell ⟨r, 0, none⟩ (.slice p A'.length c)) := (But.refl _ _).set (Or.inl (by simp)) _
  exact ⟨⟨p, c, pb, cb, h1.set 0 _, hr.but hb (by simp; exact h.rS), h3.but hb (by simp; exact h.rS)⟩, fun s hs => Nat.lt_of_lt_of_le (h.lt s hs) hb.size, h.rS⟩
theorem RB.setB {S : List Nat} {w : World} {r N : Nat} {A B B' : List Int} (h : RB w S r N A B) {p : Option Addr} {c : Nat} (hr : Row w S p c B') : RB (w.setCell ⟨r, 1, none⟩ (.slice p B'.length c)) S r N A B' := by
  obtain ⟨pa, ca, pb, cb, h1, h2, h3⟩ := h.ex
  have hb : But [r] w (w.setCell ⟨r, 1, none⟩ (.slice p B'.length c)) := (But.refl _ _).set (Or.inl (by simp)) _
  exact ⟨⟨pa, ca, p, c, h1.set 1 _, h2.but hb (by simp; exact h.rS), hr.but hb (by simp; exact h.rS)⟩, fun s hs => Nat.lt_of_lt_of_le (h.lt s hs) hb.size, h.rS⟩

end Go.Proofs.YtbkpnffgihjikaaDoor.Edit

/- The document's edit buffer, walked: Text, lay, Put, Insert. -/
set_option linter.unusedVariables false
set_option linter.unusedSimpArgs false
namespace Go.Proofs.YtbkpnffgihjikaaDoor.Edit
open Go.RowKit Go.Lib Go.Shelf ChangeShapes Mem Utf UtfP

/-- bytes that are new -/
def NewBytes (w : World) (l : List UInt8) (e : Ending) (w' : World) : Prop := ∃ v, e = .returned v ∧ OwnB w' w.heap.size v l ∧ Below w.heap.size w w'

set_option maxRecDepth 100000 in
set_option maxHeartbeats 400000 in
theorem refTextB {S : List Nat} {r N : Nat} {A B : List Int} (w : World) (h : RB w S r N A B) (hA : A.length ≤ 1099511627776) (hB : B.length ≤ 1099511627776) (hp : AllPrint (A ++ B)) :
    Calls Tryd.prog 44 #[.pointer (some ⟨r, 0, none⟩)] w (NewBytes w (encs A ++ encs B)) := by
  obtain ⟨pa, ca, pb, cb, h1, h2, h3⟩ := h.ex
  have hfa : ∀ c ∈ A, fineC c = true := fun c hc => AllPrint.fine hp c (by simp [hc])
  have hfb : ∀ c ∈ B, fineC c = true := fun c hc => AllPrint.fine hp c (by simp [hc])
  have HS : Hid (∀ W, Below w.heap.size w W → Below w.heap.size w W ∧ W.cell? ⟨r, 0, none⟩ = some (.slice pa A.length ca) ∧ W.cell? ⟨r, 1, none⟩ = some (.slice pb B.length cb)) := fun W hW => ⟨hW, by rw [hW.cell (p := ⟨r, 0, none⟩) h1.lt]; exact h1.cell rfl, by rw [hW.cell (p := ⟨r, 1, none⟩) h1.lt]; exact h1.cell rfl⟩
  have HA1 : Hid (∀ W, Below w.heap.size w W → Calls Tryd.prog 54 #[.slice pa A.length ca] W fun e w' => ∃ Av cap, e = .returned (.slice Av (encs A).length cap) ∧ OwnB w' w.heap.size (.slice Av (encs A).length cap) (encs A) ∧ BytesAt w' Av (encs A) ∧ Below w.heap.size w w' ∧ Below W.heap.size W w') := fun W hW => (refBytes A pa ca W (CellsAt.below h2.at' hW) hA hfa).mono fun e w' ⟨v, he, ho, hb⟩ => by
    obtain ⟨Av, cap, rfl, _, hby, _⟩ := ho.form
    exact ⟨Av, cap, he, OwnB.base ho hW.size, hby, hW.trans (hb.mono hW.size), hb⟩
  have HB1 : Hid (∀ W, Below w.heap.size w W → Calls Tryd.prog 54 #[.slice pb B.length cb] W fun e w' => ∃ Av cap, e = .returned (.slice Av (encs B).length cap) ∧ OwnB w' w.heap.size (.slice Av (encs B).length cap) (encs B) ∧ BytesAt w' Av (encs B) ∧ Below w.heap.size w w' ∧ Below W.heap.size W w') := fun W hW => (refBytes B pb cb W (CellsAt.below h3.at' hW) hB hfb).mono fun e w' ⟨v, he, ho, hb⟩ => by
    obtain ⟨Av, cap, rfl, _, hby, _⟩ := ho.form
    exact ⟨Av, cap, he, OwnB.base ho hW.size, hby, hW.trans (hb.mono hW.size), hb⟩
  have hlen : (encs A).length + (encs B).length ≤ 17592186044416 := by
    have := flatMap_le A
    have := flatMap_le B
    unfold encs
    omega
  have HLEN := Lib.hid hlen
  have hd0 : Below w.heap.size w w.drew := (Below.refl _ _).drew
  clear hfa hfb hlen h1 h2 h3 h hA hB hp
  go_enter Tryd.func44, Tryd.ntmps44
  go_wp2
  go_region_held_law (fun W => Below w.heap.size w W ∧ W.cell? ⟨r, 0, none⟩ = some (.slice pa A.length ca) ∧ W.cell? ⟨r, 1, none⟩ = some (.slice pb B.length cb))
    (first | with_reducible exact HS.out _ hb3 | with_reducible exact HS.out _ hbb | with_reducible exact HS.out _ hba | with_reducible exact HS.out _ hd0) (first
    | (go_at_call 54; (with_reducible refine (HA1.out _ ?_).mono ?_); (go_split_ands; assumption); rintro e wa ⟨va, capa, rfl, hoa, hya, hba, hba'⟩; have HOA := Lib.hid hoa; have HBA := Lib.hid hba'; clear hoa hya hba')
    | (go_at_call 54; (with_reducible refine (HB1.out _ ?_).mono ?_); (go_split_ands; assumption); rintro e wb ⟨vb, capb, rfl, hob, hyb, hbb, hbb'⟩; have HYB := Lib.hid hyb; have HBB := Lib.hid hbb'; clear hob hyb hbb')
    | (with_reducible refine step_append_bytes (B := w.heap.size) (v := .slice va (encs A).length capa) (A := vb) (n := (encs B).length) (c := capb) (l := encs A) (src := encs B) rfl (.tmp 7) (.tmp 12) (some 13) rfl rfl rfl (OwnB.below HOA.out HBB.out) rfl rfl HYB.out HLEN.out hbb.size ?_; intro v' w3 hown3 hg3; have hb3 : Below w.heap.size w w3 := hbb.grown hg3 hbb.size (fun k hk => (OwnB.lt (OwnB.below HOA.out HBB.out) hk).1)))
  clear hba hbb hg3
  go_wp2
  go_ret
  exact ⟨_, rfl, hown3, hb3⟩

/-- what a lay leaves -/
def layE (N : Nat) (A B l : List Int) : Int × List Int := if (encs A ++ encs B).length + (encs l).length ≤ N then (0, A ++ l) else (4, A)

set_option maxRecDepth 100000 in
set_option maxHeartbeats 1000000 in
theorem refLay {S : List Nat} {r N : Nat} {A B : List Int} (l : List Int) (pl : Option Addr) (cl : Nat) (w : World) (h : RB w S r N A B) (hA : A.length ≤ 1099511627776) (hB : B.length ≤ 1099511627776) (hl : l.length ≤ 1099511627776) (hN : N ≤ 4096) (hp : AllPrint (A ++ B)) (hpl : AllPrint l) (hat : CellsAt w pl (cellsI l)) :
    Calls Tryd.prog 69 #[.pointer (some ⟨r, 0, none⟩), .slice pl l.length cl] w fun e w' => e = .returned (.int .i64 (layE N A B l).1) ∧ RB w' S r N (layE N A B l).2 B ∧ But [r] w w' := by
  obtain ⟨pa, ca, pb, cb, h1, h2, h3⟩ := h.ex
  obtain ⟨n1, hn1⟩ : ∃ n, (encs A ++ encs B).length = n := ⟨_, rfl⟩
  obtain ⟨n2, hn2⟩ : ∃ n, (encs l).length = n := ⟨_, rfl⟩
  have hb1 : n1 ≤ 8796093022208 := by
    have := flatMap_le A
    have := flatMap_le B
    rw [← hn1, List.length_append]
    unfold encs
    omega
  have hb2 : n2 ≤ 4398046511104 := by
    have := flatMap_le l
    rw [← hn2]
    unfold encs
    omega
  have HS : Hid (∀ W, Below w.heap.size w W → Below w.heap.size w W ∧ W.cell? ⟨r, 2, none⟩ = some (.int .i64 (N : Int))) := fun W hW => ⟨hW, by rw [hW.cell (p := ⟨r, 2, none⟩) h1.lt]; exact h1.cell rfl⟩
  have HT1 : Hid (∀ W, Below w.heap.size w W → Calls Tryd.prog 44 #[.pointer (some ⟨r, 0, none⟩)] W fun e w' => ∃ Av cap, e = .returned (.slice Av n1 cap) ∧ Below w.heap.size w w') := fun W hW => (refTextB W (h.below hW) hA hB hp).mono fun e w' ⟨v, he, ho, hb⟩ => by
    obtain ⟨Av, n, cap, rfl, hn, _, _⟩ := ho.form'
    exact ⟨Av, cap, by rw [he, ← hn1, hn], hW.trans (hb.mono hW.size)⟩
  have HL1 : Hid (∀ W, Below w.heap.size w W → Calls Tryd.prog 54 #[.slice pl l.length cl] W fun e w' => ∃ Av cap, e = .returned (.slice Av n2 cap) ∧ Below w.heap.size w w') := fun W hW => (refBytes l pl cl W (CellsAt.below hat hW) hl (fun c hc => AllPrint.fine hpl c hc)).mono fun e w' ⟨v, he, ho, hb⟩ => by
    obtain ⟨Av, n, cap, rfl, hn, _, _⟩ := ho.form'
    refine ⟨Av, cap, ?_, hW.trans (hb.mono hW.size)⟩
    rw [he, ← hn2, ← hn]
    rfl
  have hd0 : Below w.heap.size w w.drew := (Below.refl _ _).drew
  have hsum : IntKind.i64.wrap ((n1 : Int) + (n2 : Int)) = (n1 : Int) + (n2 : Int) := IntWalk.i64_in _ (by omega)
  have H := Lib.hid h
  have HAT := Lib.hid hat
  have HA := Lib.hid (And.intro hA hl)
  by_cases hfit : n1 + n2 ≤ N
  · have t1 : decide ((N : Int) < (n1 : Int) + (n2 : Int)) = false := by simp; omega
    have t2 : decide (N < n1 + n2) = false := by simp; omega
    have HR : Hid (layE N A B l = (0, A ++ l)) := by unfold Hid layE; rw [hn1, hn2, if_pos hfit]
    clear hn1 hn2 hfit h1 h2 h3 h hat hA hl hB hp hpl
    go_enter Tryd.func69, Tryd.ntmps69
    go_wp2
    go_region_held_law (fun W => Below w.heap.size w W ∧ W.cell? ⟨r, 2, none⟩ = some (.int .i64 (N : Int)))
      (first | with_reducible exact HS.out _ hbb | with_reducible exact HS.out _ hba | with_reducible exact HS.out _ hd0) (first
      | (go_at_call 44; (with_reducible refine (HT1.out _ ?_).mono ?_); (go_split_ands; assumption); rintro e wa ⟨va, capa, rfl, hba⟩)
      | (go_at_call 54; (with_reducible refine (HL1.out _ ?_).mono ?_); (go_split_ands; assumption); rintro e wb ⟨vb, capb, rfl, hbb⟩))
    have HB3 := Lib.hid (H.out.below hbb)
    have HAT3 := Lib.hid (CellsAt.below HAT.out hbb)
    have HW3 := Lib.hid hbb
    clear hba hbb hd0 hsum
    obtain ⟨pa, ca, pb, cb, h1, h2, h3⟩ := HB3.out.ex
    have HH1 := Lib.hid h1
    have HH2 := Lib.hid h2
    have e0 := h1.cell (j := 0) (v := .slice pa A.length ca) rfl
    have hal : Below wb.heap.size wb (wb.alloc (.cells #[] 3)) := (Below.refl _ _).alloc (Nat.le_refl _) _
    have HAL := Lib.hid hal
    have hbase : wb.heap.size ≤ (wb.alloc (.cells #[] 3)).heap.size := hal.size
    have e0' : (wb.alloc (.cells #[] 3)).cell? ⟨r, 0, none⟩ = some (.slice pa A.length ca) := by rw [hal.cell (p := ⟨r, 0, none⟩) h1.lt]; exact e0
    have HSRC := Lib.hid (CellsAt.below h2.at' hal)
    clear h1 h2 h3 hal
    go_wp2_with (at_builtin; (refine wpList_append_ints (B := wb.heap.size) (l := []) (src := A) rfl (.tmp 18) (.tmp 22) rfl rfl (OwnI.new wb wb.heap.size #[] [] rfl (Nat.le_refl _) (by decide)) rfl rfl HSRC.out (by have := HA.out; simp; omega) hbase ?_))
    intro v4 w4 hown4 hg4
    have hb4 : Below wb.heap.size wb w4 := HAL.out.grown hg4 hbase (fun k hk => by simp [Value.ownBlock] at hk; omega)
    have HOWN4 := Lib.hid hown4
    have HB4 := Lib.hid hb4
    have HSRC4 := Lib.hid (CellsAt.below HAT3.out hb4)
    have hbase4 := hb4.size
    have f0 : w4.cell? ⟨r, 0, none⟩ = some (.slice pa A.length ca) := by rw [hb4.cell (p := ⟨r, 0, none⟩) HH1.out.lt]; exact e0
    clear hown4 hg4 hb4 e0 e0'
    go_wp2_with (at_builtin; (refine wpList_append_ints (B := wb.heap.size) (l := A) (src := l) rfl (.tmp 23) (.tmp 24) rfl rfl HOWN4.out rfl rfl HSRC4.out (by have := HA.out; omega) hbase4 ?_))
    intro v5 w5 hown5 hg5
    have hb5 : Below wb.heap.size wb w5 := HB4.out.grown hg5 hbase4 (fun k hk => (HOWN4.out.lt hk).1)
    obtain ⟨p5, c5, rfl, hrow⟩ := Row.own (S := S) hown5 HB3.out.lt
    have HROW := Lib.hid hrow
    have HB5 := Lib.hid (HB3.out.below hb5)
    have hbk := HH1.out.but (But.of_below (S := []) hb5) (by simp)
    have g0 := hbk.cell (j := 0) (v := .slice pa A.length ca) rfl
    have gf := hbk.free 0
    have HW5 : Hid (But [r] w w5) := But.of_below (HW3.out.trans (hb5.mono HW3.out.size))
    obtain ⟨n, hn⟩ : ∃ n, (A ++ l).length = n := ⟨_, rfl⟩
    rw [hn]
    have HN := Lib.hid hn
    clear hown5 hg5 hb5 hrow hbk f0 hn
    go_wp2
    go_ret
    rw [HR.out, ← HN.out]
    exact ⟨rfl, HB5.out.setA HROW.out, HW5.out.set (Or.inl (by simp)) _⟩
  · have t1 : decide ((N : Int) < (n1 : Int) + (n2 : Int)) = true := by simp; omega
    have t2 : decide (N < n1 + n2) = true := by simp; omega
    have HR : Hid (layE N A B l = (4, A)) := by unfold Hid layE; rw [hn1, hn2, if_neg hfit]
    clear hn1 hn2 hfit h1 h2 h3 h hat hA hl hB hp hpl
    go_enter Tryd.func69, Tryd.ntmps69
    go_wp2
    go_region_held_law (fun W => Below w.heap.size w W ∧ W.cell? ⟨r, 2, none⟩ = some (.int .i64 (N : Int)))
      (first | with_reducible exact HS.out _ hbb | with_reducible exact HS.out _ hba | with_reducible exact HS.out _ hd0) (first
      | (go_at_call 44; (with_reducible refine (HT1.out _ ?_).mono ?_); (go_split_ands; assumption); rintro e wa ⟨va, capa, rfl, hba⟩)
      | (go_at_call 54; (with_reducible refine (HL1.out _ ?_).mono ?_); (go_split_ands; assumption); rintro e wb ⟨vb, capb, rfl, hbb⟩))
    have HB3 := Lib.hid (H.out.below hbb)
    have HW3 := Lib.hid hbb
    clear hba hbb hd0 hsum
    go_wp2
    go_ret
    rw [HR.out]
    exact ⟨rfl, HB3.out, But.of_below HW3.out⟩

end Go.Proofs.YtbkpnffgihjikaaDoor.Edit

/- The document's edit buffer, walked: Put, Insert, Do. -/
set_option linter.unusedVariables false
set_option linter.unusedSimpArgs false
namespace Go.Proofs.YtbkpnffgihjikaaDoor.Edit
open Go.RowKit Go.Lib Go.Shelf ChangeShapes Mem Utf UtfP

section
variable {S : List Nat} {r N : Nat} {A B : List Int}

theorem refPutB (cc : Int) (w : World) (h : RB w S r N A B) (hA : A.length ≤ 1099511627776) (hB : B.length ≤ 1099511627776) (hN : N ≤ 4096) (hp : AllPrint (A ++ B)) :
    Calls Tryd.prog 41 #[.pointer (some ⟨r, 0, none⟩), .int .i64 cc] w fun e w' => e = .returned (.int .i64 (runeE N cc A B).1) ∧ RB w' S r N (runeE N cc A B).2 B ∧ But [r] w w' := by
  have H1 := Lib.hid (refPrintable cc w)
  cases hc : printC cc
  · rw [hc] at H1
    have HR : Hid (runeE N cc A B = (2, A)) := by unfold Hid runeE; rw [hc]; rfl
    have H := Lib.hid h
    clear hc h hp
    go_enter Tryd.func41, Tryd.ntmps41
    go_wp2_with (go_at_call 68; refine (H1.out).mono ?_; rintro e w1 ⟨rfl, rfl⟩)
    go_ret
    rw [HR.out]
    exact ⟨rfl, H.out, But.refl _ _⟩
  · rw [hc] at H1
    have HR : Hid (runeE N cc A B = layE N A B [cc]) := by unfold Hid runeE layE; rw [hc, if_pos rfl, encs_one]
    have hw : Below w.heap.size w (w.alloc (.cells #[.int .i64 cc] 3)) := (Below.refl _ _).alloc (Nat.le_refl _) _
    have H2 := Lib.hid ((refLay [cc] (some ⟨w.heap.size, 0, none⟩) 1 _ (h.below hw) hA hB (by simp) hN hp (fun y hy => by simp at hy; rw [hy]; exact hc) (CellsAt.new w #[.int .i64 cc] 3 _ rfl)).mono (R' := fun e w' => e = .returned (.int .i64 (layE N A B [cc]).1) ∧ RB w' S r N (layE N A B [cc]).2 B ∧ But [r] w w') fun e w' ⟨he, hb, hbt⟩ => ⟨he, hb, (But.of_below hw).trans hbt⟩)
    clear hc h hp hw
    go_enter Tryd.func41, Tryd.ntmps41
    rw [HR.out]
    go_wp2_with (first
      | (go_at_call 68; refine (H1.out).mono ?_; rintro e w1 ⟨rfl, rfl⟩)
      | (go_at_call 69; refine (H2.out).mono ?_; rintro e w1 ⟨rfl, hb, hbt⟩))
    go_ret
    exact ⟨rfl, hb, hbt⟩

/-- what an insertion leaves -/
noncomputable def insE (N : Nat) (t : List UInt8) (A B : List Int) : Int × List Int := if fineT t then layE N A B (charsOf t) else (8, A)

theorem refInsB (t : List UInt8) (Q : Option Addr) (cap : Nat) (w : World) (h : RB w S r N A B) (hA : A.length ≤ 1099511627776) (hB : B.length ≤ 1099511627776) (hN : N ≤ 4096) (hp : AllPrint (A ++ B)) (hQ : BytesAt w Q t) (hcap : t.length ≤ cap) (hm : t.length ≤ 1099511627776) :
    Calls Tryd.prog 42 #[.pointer (some ⟨r, 0, none⟩), .slice Q t.length cap] w fun e w' => e = .returned (.int .i64 (insE N t A B).1) ∧ RB w' S r N (insE N t A B).2 B ∧ But [r] w w' := by
  have H1 := refFineT t Q cap w hQ hcap (by omega)
  have H := Lib.hid h
  have HQ := Lib.hid hQ
  cases hf : fineT t
  · rw [hf] at H1
    have HR : Hid (insE N t A B = (8, A)) := by unfold Hid insE; rw [hf]; rfl
    have H1 := Lib.hid H1
    clear hf h hp hQ
    go_enter Tryd.func42, Tryd.ntmps42
    go_wp2_with (go_at_call 49; refine (H1.out).mono ?_; rintro e w1 ⟨rfl, hb1⟩)
    go_ret
    rw [HR.out]
    exact ⟨rfl, H.out.below hb1, But.of_below hb1⟩
  · rw [hf] at H1
    have HR : Hid (insE N t A B = layE N A B (charsOf t)) := by unfold Hid insE; rw [hf]; rfl
    have hch := chars_fine' hf
    have hpr := (charsOf_spec hf).2
    have hcl : (charsOf t).length ≤ t.length := by rw [← hch]; exact chars_length_le t
    have H1 := Lib.hid H1
    have HCH := Lib.hid hch
    have HP := Lib.hid (And.intro hp hpr)
    have HL := Lib.hid (And.intro hA hB)
    clear hf h hp hQ hch hpr hA hB
    go_enter Tryd.func42, Tryd.ntmps42
    rw [HR.out]
    go_wp2_with (go_at_call 49; refine (H1.out).mono ?_; rintro e w1 ⟨rfl, hb1⟩; have HB1 := Lib.hid hb1; clear hb1)
    refine (refChars t Q cap w1 (HQ.out.below HB1.out) hcap hm).mono ?_
    rintro e w2 ⟨v, rfl, hown, hb2⟩
    rw [HCH.out] at hown
    obtain ⟨p2, c2, rfl, _, hat, _⟩ := hown.form
    have HW2 : Hid (Below w.heap.size w w2) := HB1.out.trans (hb2.mono HB1.out.size)
    have H2 := Lib.hid (refLay (charsOf t) p2 c2 w2 (H.out.below HW2.out) HL.out.1 HL.out.2 (by omega) hN HP.out.1 HP.out.2 hat)
    clear hown hat hb2
    go_wp2_with fail
    refine (H2.out).mono ?_
    rintro e w3 ⟨rfl, hb3, hbt3⟩
    have HB3 := Lib.hid hb3
    have HBT3 := Lib.hid ((But.of_below HW2.out).trans hbt3)
    clear hb3 hbt3
    go_wp2
    go_ret
    exact ⟨rfl, HB3.out, HBT3.out⟩

/-- within the key that goes right -/
def R5 (w1 : World) (S : List Nat) (r N : Nat) (A B1 : List Int) (x : Int) (nA g off m cb : Nat) (s6 : Value) (wx : World) : Prop :=
  s6 = .int .i64 (nA : Int) ∧ RB wx S r N (A ++ [x]) (x :: B1) ∧ But [r] w1 wx ∧ wx.cell? ⟨r, 1, none⟩ = some (.slice (some ⟨g, off, none⟩) (m + 1) cb) ∧ wx.frozen? ⟨r, 1, none⟩ = false ∧ Row wx S (some ⟨g, off, none⟩) cb (x :: B1)

/-- behind a key -/
def RK (w : World) (S : List Nat) (r N : Nat) (k : Int) (A B : List Int) (x : Nat) (s6 : Value) (wx : World) : Prop :=
  ∃ A' B', s6 = .int .i64 (x : Int) ∧ keyE k A B = (A', B') ∧ RB wx S r N A' B' ∧ But [r] w wx

set_option maxRecDepth 200000 in
set_option maxHeartbeats 8000000 in
theorem refDo2 (cc : Int) (w : World) (h : RB w S r N A B) (hA : A.length ≤ 1099511627776) (hB : B.length ≤ 1099511627776) :
    Calls Tryd.prog 39 #[.pointer (some ⟨r, 0, none⟩), .agg #[.int .i64 2, .int .i64 cc]] w fun e w' => e = .returned (.tuple #[.bool (chg A B (keyE 2 A B)), .int .i64 0]) ∧ RB w' S r N (keyE 2 A B).1 (keyE 2 A B).2 ∧ But [r] w w' := by
  have hbo : Blk (w.alloc (.cells #[.int .i64 2, .int .i64 cc] 52)) w.heap.size #[.int .i64 2, .int .i64 cc] 52 := Blk.new _ _ _
  have hwo : Below w.heap.size w (w.alloc (.cells #[.int .i64 2, .int .i64 cc] 52)) := (Below.refl _ _).alloc (Nat.le_refl _) _
  have hrb := h.below hwo
  obtain ⟨pa, ca, pb, cb, h1, h2, h3⟩ := hrb.ex
  have d0 := hbo.cell (j := 0) (v := .int .i64 2) rfl
  have d1 := hbo.cell (j := 1) (v := .int .i64 cc) rfl
  obtain ⟨nA, hnA⟩ : ∃ n, A.length = n := ⟨_, rfl⟩
  obtain ⟨nB, hnB⟩ : ∃ n, B.length = n := ⟨_, rfl⟩
  have e0 := h1.cell (j := 0) (v := .slice pa A.length ca) rfl
  have e1 := h1.cell (j := 1) (v := .slice pb B.length cb) rfl
  have f0 := h1.free 0
  have f1 := h1.free 1
  rw [hnA] at e0 hA
  rw [hnB] at e1 hB
  have HRB := Lib.hid hrb
  have H1 := Lib.hid h1
  have H2 := Lib.hid h2
  have H3 := Lib.hid h3
  have HNA := Lib.hid hnA
  have HNB := Lib.hid hnB
  have HWO := Lib.hid hwo
  clear hbo hwo hrb h1 h2 h3 hnA hnB h
  go_enter Tryd.func39, Tryd.ntmps39
  go_upto_block 0 with fail
  obtain ⟨w1, hw1⟩ : ∃ w1, w.alloc (.cells #[.int .i64 2, .int .i64 cc] 52) = w1 := ⟨_, rfl⟩
  rw [hw1] at d0 d1 e0 e1 f0 f1 HRB H1 H2 H3 HWO
  rw [hw1]
  have HW1 := Lib.hid hw1
  clear hw1
  go_cut [6] from 9 to 163 (fun s6 wx => RK w1 S r N 2 A B nA s6 wx)
  case first =>
    have hmeet : ∀ A' B' W, keyE 2 A B = (A', B') → RB W S r N A' B' → But [r] w1 W → RK w1 S r N 2 A B nA (.int .i64 (nA : Int)) W := fun A' B' W a b c => ⟨A', B', rfl, a, b, c⟩
    have HMEET := Lib.hid hmeet
    clear hmeet
    by_cases hA0 : nA = 0
    · subst hA0
      obtain rfl : A = [] := List.eq_nil_of_length_eq_zero HNA.out
      have HR : Hid (keyE 2 [] B = ([], B)) := rfl
      go_wp2
      go_meet
      exact HMEET.out _ _ _ HR.out HRB.out (But.refl _ _)
    · obtain ⟨m, rfl⟩ : ∃ m, nA = m + 1 := ⟨nA - 1, by omega⟩
      have HR : Hid (keyE 2 A B = (A.take m, B)) := by
        unfold Hid keyE
        rw [if_pos rfl, List.dropLast_eq_take, HNA.out]; rfl
      have hlm : (A.take m).length = m := by rw [List.length_take, HNA.out]; omega
      have hrb2 := HRB.out.setA' (Below.refl _ _) hlm (H2.out.take m)
      have HRB2 := Lib.hid hrb2
      have hcap := H2.out.le
      rw [HNA.out] at hcap
      have k1 : (0 : Int) < (m : Int) + 1 := by omega
      have k2 : (m : Int) ≤ (ca : Int) := by omega
      clear hlm hrb2
      go_wp2
      go_meet
      exact HMEET.out _ _ _ HR.out HRB2.out.1 HRB2.out.2
  case rest =>
    obtain ⟨A', B', rfl, hke, hrb, hbt⟩ := hcut
    have HKE := Lib.hid hke
    obtain ⟨pa', ca', pb', cb', g1, g2, g3⟩ := hrb.ex
    obtain ⟨mA, hmA⟩ : ∃ n, A'.length = n := ⟨_, rfl⟩
    obtain ⟨mB, hmB⟩ : ∃ n, B'.length = n := ⟨_, rfl⟩
    have c0 := g1.cell (j := 0) (v := .slice pa' A'.length ca') rfl
    have c1 := g1.cell (j := 1) (v := .slice pb' B'.length cb') rfl
    rw [hmA] at c0
    rw [hmB] at c1
    have HRB' := Lib.hid hrb
    have HBT := Lib.hid hbt
    have HMA := Lib.hid hmA
    have HMB := Lib.hid hmB
    clear g1 g2 g3 hrb hbt hmA hmB hke d0 d1 e0 e1 f0 f1
    have hch : chg A B (A', B') = (decide (mA ≠ nA) || decide (mB ≠ nB)) := by unfold chg; rw [HNA.out, HNB.out, ← HMA.out, ← HMB.out]
    by_cases ha : mA = nA
    · have q1 : ((mA : Int) != (nA : Int)) = false := by simp [ha]
      by_cases hb : mB = nB
      · have q2 : ((mB : Int) != (nB : Int)) = false := by simp [hb]
        have Q : Hid (chg A B (A', B') = false) := by unfold Hid; rw [hch]; simp [ha, hb]
        clear ha hb hch
        go_wp2
        go_ret2
        rw [HKE.out]
        exact ⟨by rw [Q.out]; rfl, HRB'.out, But.trans (But.of_below HWO.out) HBT.out⟩
      · have q2 : ((mB : Int) != (nB : Int)) = true := by rw [bne_iff_ne]; omega
        have Q : Hid (chg A B (A', B') = true) := by unfold Hid; rw [hch]; simp [hb]
        clear ha hb hch
        go_wp2
        go_ret2
        rw [HKE.out]
        exact ⟨by rw [Q.out]; rfl, HRB'.out, But.trans (But.of_below HWO.out) HBT.out⟩
    · have q1 : ((mA : Int) != (nA : Int)) = true := by rw [bne_iff_ne]; omega
      have Q : Hid (chg A B (A', B') = true) := by unfold Hid; rw [hch]; simp [ha]
      clear ha hch
      go_wp2
      go_ret2
      rw [HKE.out]
      exact ⟨by rw [Q.out]; rfl, HRB'.out, But.trans (But.of_below HWO.out) HBT.out⟩

set_option maxRecDepth 200000 in
set_option maxHeartbeats 8000000 in
theorem refDo3 (cc : Int) (w : World) (h : RB w S r N A B) (hA : A.length ≤ 1099511627776) (hB : B.length ≤ 1099511627776) :
    Calls Tryd.prog 39 #[.pointer (some ⟨r, 0, none⟩), .agg #[.int .i64 3, .int .i64 cc]] w fun e w' => e = .returned (.tuple #[.bool (chg A B (keyE 3 A B)), .int .i64 0]) ∧ RB w' S r N (keyE 3 A B).1 (keyE 3 A B).2 ∧ But [r] w w' := by
  have hbo : Blk (w.alloc (.cells #[.int .i64 3, .int .i64 cc] 52)) w.heap.size #[.int .i64 3, .int .i64 cc] 52 := Blk.new _ _ _
  have hwo : Below w.heap.size w (w.alloc (.cells #[.int .i64 3, .int .i64 cc] 52)) := (Below.refl _ _).alloc (Nat.le_refl _) _
  have hrb := h.below hwo
  obtain ⟨pa, ca, pb, cb, h1, h2, h3⟩ := hrb.ex
  have d0 := hbo.cell (j := 0) (v := .int .i64 3) rfl
  have d1 := hbo.cell (j := 1) (v := .int .i64 cc) rfl
  obtain ⟨nA, hnA⟩ : ∃ n, A.length = n := ⟨_, rfl⟩
  obtain ⟨nB, hnB⟩ : ∃ n, B.length = n := ⟨_, rfl⟩
  have e0 := h1.cell (j := 0) (v := .slice pa A.length ca) rfl
  have e1 := h1.cell (j := 1) (v := .slice pb B.length cb) rfl
  have f0 := h1.free 0
  have f1 := h1.free 1
  rw [hnA] at e0 hA
  rw [hnB] at e1 hB
  have HRB := Lib.hid hrb
  have H1 := Lib.hid h1
  have H2 := Lib.hid h2
  have H3 := Lib.hid h3
  have HNA := Lib.hid hnA
  have HNB := Lib.hid hnB
  have HWO := Lib.hid hwo
  clear hbo hwo hrb h1 h2 h3 hnA hnB h
  go_enter Tryd.func39, Tryd.ntmps39
  go_upto_block 0 with fail
  obtain ⟨w1, hw1⟩ : ∃ w1, w.alloc (.cells #[.int .i64 3, .int .i64 cc] 52) = w1 := ⟨_, rfl⟩
  rw [hw1] at d0 d1 e0 e1 f0 f1 HRB H1 H2 H3 HWO
  rw [hw1]
  have HW1 := Lib.hid hw1
  clear hw1
  go_cut [6] from 9 to 163 (fun s6 wx => RK w1 S r N 3 A B nA s6 wx)
  case first =>
    have hmeet : ∀ A' B' W, keyE 3 A B = (A', B') → RB W S r N A' B' → But [r] w1 W → RK w1 S r N 3 A B nA (.int .i64 (nA : Int)) W := fun A' B' W a b c => ⟨A', B', rfl, a, b, c⟩
    have HMEET := Lib.hid hmeet
    clear hmeet
    by_cases hB0 : nB = 0
    · subst hB0
      obtain rfl : B = [] := List.eq_nil_of_length_eq_zero HNB.out
      have HR : Hid (keyE 3 A [] = (A, [])) := rfl
      go_wp2
      go_meet
      exact HMEET.out _ _ _ HR.out HRB.out (But.refl _ _)
    · obtain ⟨m, rfl⟩ : ∃ m, nB = m + 1 := ⟨nB - 1, by omega⟩
      have HR : Hid (keyE 3 A B = (A, B.tail)) := rfl
      have hne : B ≠ [] := fun e => by rw [e] at HNB; have := HNB.out; simp at this
      obtain ⟨g, off, rfl, hg, hc⟩ := H3.out.at' (cellsI_ne hne)
      have hlm : B.tail.length = m := by rw [List.length_tail, HNB.out]; omega
      have hrb2 := HRB.out.setB' (Below.refl _ _) hlm (H3.out.tail)
      have HRB2 := Lib.hid hrb2
      have hcap := H3.out.le
      rw [HNB.out] at hcap
      have k1 : (0 : Int) < (m : Int) + 1 := by omega
      have k2 : (1 : Int) ≤ (cb : Int) := by omega
      clear hlm hrb2 hc hg hne
      by_cases hc1 : cb = 1
      · subst hc1
        obtain rfl : m = 0 := by omega
        rw [if_pos rfl, Nat.sub_self] at HRB2
        go_wp2
        go_meet
        exact HMEET.out _ _ _ HR.out HRB2.out.1 HRB2.out.2
      · rw [if_neg hc1] at HRB2
        go_wp2
        go_meet
        exact HMEET.out _ _ _ HR.out HRB2.out.1 HRB2.out.2
  case rest =>
    obtain ⟨A', B', rfl, hke, hrb, hbt⟩ := hcut
    have HKE := Lib.hid hke
    obtain ⟨pa', ca', pb', cb', g1, g2, g3⟩ := hrb.ex
    obtain ⟨mA, hmA⟩ : ∃ n, A'.length = n := ⟨_, rfl⟩
    obtain ⟨mB, hmB⟩ : ∃ n, B'.length = n := ⟨_, rfl⟩
    have c0 := g1.cell (j := 0) (v := .slice pa' A'.length ca') rfl
    have c1 := g1.cell (j := 1) (v := .slice pb' B'.length cb') rfl
    rw [hmA] at c0
    rw [hmB] at c1
    have HRB' := Lib.hid hrb
    have HBT := Lib.hid hbt
    have HMA := Lib.hid hmA
    have HMB := Lib.hid hmB
    clear g1 g2 g3 hrb hbt hmA hmB hke d0 d1 e0 e1 f0 f1
    have hch : chg A B (A', B') = (decide (mA ≠ nA) || decide (mB ≠ nB)) := by unfold chg; rw [HNA.out, HNB.out, ← HMA.out, ← HMB.out]
    by_cases ha : mA = nA
    · have q1 : ((mA : Int) != (nA : Int)) = false := by simp [ha]
      by_cases hb : mB = nB
      · have q2 : ((mB : Int) != (nB : Int)) = false := by simp [hb]
        have Q : Hid (chg A B (A', B') = false) := by unfold Hid; rw [hch]; simp [ha, hb]
        clear ha hb hch
        go_wp2
        go_ret2
        rw [HKE.out]
        exact ⟨by rw [Q.out]; rfl, HRB'.out, But.trans (But.of_below HWO.out) HBT.out⟩
      · have q2 : ((mB : Int) != (nB : Int)) = true := by rw [bne_iff_ne]; omega
        have Q : Hid (chg A B (A', B') = true) := by unfold Hid; rw [hch]; simp [hb]
        clear ha hb hch
        go_wp2
        go_ret2
        rw [HKE.out]
        exact ⟨by rw [Q.out]; rfl, HRB'.out, But.trans (But.of_below HWO.out) HBT.out⟩
    · have q1 : ((mA : Int) != (nA : Int)) = true := by rw [bne_iff_ne]; omega
      have Q : Hid (chg A B (A', B') = true) := by unfold Hid; rw [hch]; simp [ha]
      clear ha hch
      go_wp2
      go_ret2
      rw [HKE.out]
      exact ⟨by rw [Q.out]; rfl, HRB'.out, But.trans (But.of_below HWO.out) HBT.out⟩

set_option maxRecDepth 200000 in
set_option maxHeartbeats 8000000 in
theorem refDo8 (cc : Int) (w : World) (h : RB w S r N A B) (hA : A.length ≤ 1099511627776) (hB : B.length ≤ 1099511627776) :
    Calls Tryd.prog 39 #[.pointer (some ⟨r, 0, none⟩), .agg #[.int .i64 8, .int .i64 cc]] w fun e w' => e = .returned (.tuple #[.bool (chg A B (keyE 8 A B)), .int .i64 0]) ∧ RB w' S r N (keyE 8 A B).1 (keyE 8 A B).2 ∧ But [r] w w' := by
  have hbo : Blk (w.alloc (.cells #[.int .i64 8, .int .i64 cc] 52)) w.heap.size #[.int .i64 8, .int .i64 cc] 52 := Blk.new _ _ _
  have hwo : Below w.heap.size w (w.alloc (.cells #[.int .i64 8, .int .i64 cc] 52)) := (Below.refl _ _).alloc (Nat.le_refl _) _
  have hrb := h.below hwo
  obtain ⟨pa, ca, pb, cb, h1, h2, h3⟩ := hrb.ex
  have d0 := hbo.cell (j := 0) (v := .int .i64 8) rfl
  have d1 := hbo.cell (j := 1) (v := .int .i64 cc) rfl
  obtain ⟨nA, hnA⟩ : ∃ n, A.length = n := ⟨_, rfl⟩
  obtain ⟨nB, hnB⟩ : ∃ n, B.length = n := ⟨_, rfl⟩
  have e0 := h1.cell (j := 0) (v := .slice pa A.length ca) rfl
  have e1 := h1.cell (j := 1) (v := .slice pb B.length cb) rfl
  have f0 := h1.free 0
  have f1 := h1.free 1
  rw [hnA] at e0 hA
  rw [hnB] at e1 hB
  have HRB := Lib.hid hrb
  have H1 := Lib.hid h1
  have H2 := Lib.hid h2
  have H3 := Lib.hid h3
  have HNA := Lib.hid hnA
  have HNB := Lib.hid hnB
  have HWO := Lib.hid hwo
  clear hbo hwo hrb h1 h2 h3 hnA hnB h
  go_enter Tryd.func39, Tryd.ntmps39
  go_upto_block 0 with fail
  obtain ⟨w1, hw1⟩ : ∃ w1, w.alloc (.cells #[.int .i64 8, .int .i64 cc] 52) = w1 := ⟨_, rfl⟩
  rw [hw1] at d0 d1 e0 e1 f0 f1 HRB H1 H2 H3 HWO
  rw [hw1]
  have HW1 := Lib.hid hw1
  clear hw1
  go_cut [6] from 9 to 163 (fun s6 wx => RK w1 S r N 8 A B nA s6 wx)
  case first =>
    have hmeet : ∀ A' B' W, keyE 8 A B = (A', B') → RB W S r N A' B' → But [r] w1 W → RK w1 S r N 8 A B nA (.int .i64 (nA : Int)) W := fun A' B' W a b c => ⟨A', B', rfl, a, b, c⟩
    have HMEET := Lib.hid hmeet
    clear hmeet
    have HR : Hid (keyE 8 A B = ([], B)) := rfl
    go_wp2
    go_meet
    exact HMEET.out _ _ _ HR.out (HRB.out.setA (Row.nil _ _ _ _)) ((But.refl _ _).set (Or.inl (by simp)) _)
  case rest =>
    obtain ⟨A', B', rfl, hke, hrb, hbt⟩ := hcut
    have HKE := Lib.hid hke
    obtain ⟨pa', ca', pb', cb', g1, g2, g3⟩ := hrb.ex
    obtain ⟨mA, hmA⟩ : ∃ n, A'.length = n := ⟨_, rfl⟩
    obtain ⟨mB, hmB⟩ : ∃ n, B'.length = n := ⟨_, rfl⟩
    have c0 := g1.cell (j := 0) (v := .slice pa' A'.length ca') rfl
    have c1 := g1.cell (j := 1) (v := .slice pb' B'.length cb') rfl
    rw [hmA] at c0
    rw [hmB] at c1
    have HRB' := Lib.hid hrb
    have HBT := Lib.hid hbt
    have HMA := Lib.hid hmA
    have HMB := Lib.hid hmB
    clear g1 g2 g3 hrb hbt hmA hmB hke d0 d1 e0 e1 f0 f1
    have hch : chg A B (A', B') = (decide (mA ≠ nA) || decide (mB ≠ nB)) := by unfold chg; rw [HNA.out, HNB.out, ← HMA.out, ← HMB.out]
    by_cases ha : mA = nA
    · have q1 : ((mA : Int) != (nA : Int)) = false := by simp [ha]
      by_cases hb : mB = nB
      · have q2 : ((mB : Int) != (nB : Int)) = false := by simp [hb]
        have Q : Hid (chg A B (A', B') = false) := by unfold Hid; rw [hch]; simp [ha, hb]
        clear ha hb hch
        go_wp2
        go_ret2
        rw [HKE.out]
        exact ⟨by rw [Q.out]; rfl, HRB'.out, But.trans (But.of_below HWO.out) HBT.out⟩
      · have q2 : ((mB : Int) != (nB : Int)) = true := by rw [bne_iff_ne]; omega
        have Q : Hid (chg A B (A', B') = true) := by unfold Hid; rw [hch]; simp [hb]
        clear ha hb hch
        go_wp2
        go_ret2
        rw [HKE.out]
        exact ⟨by rw [Q.out]; rfl, HRB'.out, But.trans (But.of_below HWO.out) HBT.out⟩
    · have q1 : ((mA : Int) != (nA : Int)) = true := by rw [bne_iff_ne]; omega
      have Q : Hid (chg A B (A', B') = true) := by unfold Hid; rw [hch]; simp [ha]
      clear ha hch
      go_wp2
      go_ret2
      rw [HKE.out]
      exact ⟨by rw [Q.out]; rfl, HRB'.out, But.trans (But.of_below HWO.out) HBT.out⟩

set_option maxRecDepth 200000 in
set_option maxHeartbeats 8000000 in
theorem refDo9 (cc : Int) (w : World) (h : RB w S r N A B) (hA : A.length ≤ 1099511627776) (hB : B.length ≤ 1099511627776) :
    Calls Tryd.prog 39 #[.pointer (some ⟨r, 0, none⟩), .agg #[.int .i64 9, .int .i64 cc]] w fun e w' => e = .returned (.tuple #[.bool (chg A B (keyE 9 A B)), .int .i64 0]) ∧ RB w' S r N (keyE 9 A B).1 (keyE 9 A B).2 ∧ But [r] w w' := by
  have hbo : Blk (w.alloc (.cells #[.int .i64 9, .int .i64 cc] 52)) w.heap.size #[.int .i64 9, .int .i64 cc] 52 := Blk.new _ _ _
  have hwo : Below w.heap.size w (w.alloc (.cells #[.int .i64 9, .int .i64 cc] 52)) := (Below.refl _ _).alloc (Nat.le_refl _) _
  have hrb := h.below hwo
  obtain ⟨pa, ca, pb, cb, h1, h2, h3⟩ := hrb.ex
  have d0 := hbo.cell (j := 0) (v := .int .i64 9) rfl
  have d1 := hbo.cell (j := 1) (v := .int .i64 cc) rfl
  obtain ⟨nA, hnA⟩ : ∃ n, A.length = n := ⟨_, rfl⟩
  obtain ⟨nB, hnB⟩ : ∃ n, B.length = n := ⟨_, rfl⟩
  have e0 := h1.cell (j := 0) (v := .slice pa A.length ca) rfl
  have e1 := h1.cell (j := 1) (v := .slice pb B.length cb) rfl
  have f0 := h1.free 0
  have f1 := h1.free 1
  rw [hnA] at e0 hA
  rw [hnB] at e1 hB
  have HRB := Lib.hid hrb
  have H1 := Lib.hid h1
  have H2 := Lib.hid h2
  have H3 := Lib.hid h3
  have HNA := Lib.hid hnA
  have HNB := Lib.hid hnB
  have HWO := Lib.hid hwo
  clear hbo hwo hrb h1 h2 h3 hnA hnB h
  go_enter Tryd.func39, Tryd.ntmps39
  go_upto_block 0 with fail
  obtain ⟨w1, hw1⟩ : ∃ w1, w.alloc (.cells #[.int .i64 9, .int .i64 cc] 52) = w1 := ⟨_, rfl⟩
  rw [hw1] at d0 d1 e0 e1 f0 f1 HRB H1 H2 H3 HWO
  rw [hw1]
  have HW1 := Lib.hid hw1
  clear hw1
  go_cut [6] from 9 to 163 (fun s6 wx => RK w1 S r N 9 A B nA s6 wx)
  case first =>
    have hmeet : ∀ A' B' W, keyE 9 A B = (A', B') → RB W S r N A' B' → But [r] w1 W → RK w1 S r N 9 A B nA (.int .i64 (nA : Int)) W := fun A' B' W a b c => ⟨A', B', rfl, a, b, c⟩
    have HMEET := Lib.hid hmeet
    clear hmeet
    have HR : Hid (keyE 9 A B = (A, [])) := rfl
    go_wp2
    go_meet
    exact HMEET.out _ _ _ HR.out (HRB.out.setB (Row.nil _ _ _ _)) ((But.refl _ _).set (Or.inl (by simp)) _)
  case rest =>
    obtain ⟨A', B', rfl, hke, hrb, hbt⟩ := hcut
    have HKE := Lib.hid hke
    obtain ⟨pa', ca', pb', cb', g1, g2, g3⟩ := hrb.ex
    obtain ⟨mA, hmA⟩ : ∃ n, A'.length = n := ⟨_, rfl⟩
    obtain ⟨mB, hmB⟩ : ∃ n, B'.length = n := ⟨_, rfl⟩
    have c0 := g1.cell (j := 0) (v := .slice pa' A'.length ca') rfl
    have c1 := g1.cell (j := 1) (v := .slice pb' B'.length cb') rfl
    rw [hmA] at c0
    rw [hmB] at c1
    have HRB' := Lib.hid hrb
    have HBT := Lib.hid hbt
    have HMA := Lib.hid hmA
    have HMB := Lib.hid hmB
    clear g1 g2 g3 hrb hbt hmA hmB hke d0 d1 e0 e1 f0 f1
    have hch : chg A B (A', B') = (decide (mA ≠ nA) || decide (mB ≠ nB)) := by unfold chg; rw [HNA.out, HNB.out, ← HMA.out, ← HMB.out]
    by_cases ha : mA = nA
    · have q1 : ((mA : Int) != (nA : Int)) = false := by simp [ha]
      by_cases hb : mB = nB
      · have q2 : ((mB : Int) != (nB : Int)) = false := by simp [hb]
        have Q : Hid (chg A B (A', B') = false) := by unfold Hid; rw [hch]; simp [ha, hb]
        clear ha hb hch
        go_wp2
        go_ret2
        rw [HKE.out]
        exact ⟨by rw [Q.out]; rfl, HRB'.out, But.trans (But.of_below HWO.out) HBT.out⟩
      · have q2 : ((mB : Int) != (nB : Int)) = true := by rw [bne_iff_ne]; omega
        have Q : Hid (chg A B (A', B') = true) := by unfold Hid; rw [hch]; simp [hb]
        clear ha hb hch
        go_wp2
        go_ret2
        rw [HKE.out]
        exact ⟨by rw [Q.out]; rfl, HRB'.out, But.trans (But.of_below HWO.out) HBT.out⟩
    · have q1 : ((mA : Int) != (nA : Int)) = true := by rw [bne_iff_ne]; omega
      have Q : Hid (chg A B (A', B') = true) := by unfold Hid; rw [hch]; simp [ha]
      clear ha hch
      go_wp2
      go_ret2
      rw [HKE.out]
      exact ⟨by rw [Q.out]; rfl, HRB'.out, But.trans (But.of_below HWO.out) HBT.out⟩

set_option maxRecDepth 200000 in
set_option maxHeartbeats 8000000 in
theorem refDoE (k cc : Int) (hk : k ≠ 0) (k2 : ¬ k = 2) (k3 : ¬ k = 3) (k4 : ¬ k = 4) (k5 : ¬ k = 5) (k6 : ¬ k = 6) (k7 : ¬ k = 7) (k8 : ¬ k = 8) (k9 : ¬ k = 9) (w : World) (h : RB w S r N A B) (hA : A.length ≤ 1099511627776) (hB : B.length ≤ 1099511627776) :
    Calls Tryd.prog 39 #[.pointer (some ⟨r, 0, none⟩), .agg #[.int .i64 k, .int .i64 cc]] w fun e w' => e = .returned (.tuple #[.bool (chg A B (keyE k A B)), .int .i64 0]) ∧ RB w' S r N (keyE k A B).1 (keyE k A B).2 ∧ But [r] w w' := by
  have hbo : Blk (w.alloc (.cells #[.int .i64 k, .int .i64 cc] 52)) w.heap.size #[.int .i64 k, .int .i64 cc] 52 := Blk.new _ _ _
  have hwo : Below w.heap.size w (w.alloc (.cells #[.int .i64 k, .int .i64 cc] 52)) := (Below.refl _ _).alloc (Nat.le_refl _) _
  have hrb := h.below hwo
  obtain ⟨pa, ca, pb, cb, h1, h2, h3⟩ := hrb.ex
  have d0 := hbo.cell (j := 0) (v := .int .i64 k) rfl
  have d1 := hbo.cell (j := 1) (v := .int .i64 cc) rfl
  obtain ⟨nA, hnA⟩ : ∃ n, A.length = n := ⟨_, rfl⟩
  obtain ⟨nB, hnB⟩ : ∃ n, B.length = n := ⟨_, rfl⟩
  have e0 := h1.cell (j := 0) (v := .slice pa A.length ca) rfl
  have e1 := h1.cell (j := 1) (v := .slice pb B.length cb) rfl
  have f0 := h1.free 0
  have f1 := h1.free 1
  rw [hnA] at e0 hA
  rw [hnB] at e1 hB
  have HRB := Lib.hid hrb
  have H1 := Lib.hid h1
  have H2 := Lib.hid h2
  have H3 := Lib.hid h3
  have HNA := Lib.hid hnA
  have HNB := Lib.hid hnB
  have HWO := Lib.hid hwo
  have k0 : (k == 0) = false := by simpa using hk
  clear hbo hwo hrb h1 h2 h3 hnA hnB h
  go_enter Tryd.func39, Tryd.ntmps39
  go_upto_block 0 with fail
  obtain ⟨w1, hw1⟩ : ∃ w1, w.alloc (.cells #[.int .i64 k, .int .i64 cc] 52) = w1 := ⟨_, rfl⟩
  rw [hw1] at d0 d1 e0 e1 f0 f1 HRB H1 H2 H3 HWO
  rw [hw1]
  have HW1 := Lib.hid hw1
  clear hw1
  go_cut [6] from 9 to 163 (fun s6 wx => RK w1 S r N k A B nA s6 wx)
  case first =>
    have hmeet : ∀ A' B' W, keyE k A B = (A', B') → RB W S r N A' B' → But [r] w1 W → RK w1 S r N k A B nA (.int .i64 (nA : Int)) W := fun A' B' W a b c => ⟨A', B', rfl, a, b, c⟩
    have HMEET := Lib.hid hmeet
    clear hmeet
    have HR : Hid (keyE k A B = (A, B)) := by unfold Hid keyE; rw [if_neg k2, if_neg k3, if_neg k4, if_neg k5, if_neg k6, if_neg k7, if_neg k8, if_neg k9]
    have z2 : (k == 2) = false := by simpa using k2
    have z3 : (k == 3) = false := by simpa using k3
    have z4 : (k == 4) = false := by simpa using k4
    have z5 : (k == 5) = false := by simpa using k5
    have z6 : (k == 6) = false := by simpa using k6
    have z7 : (k == 7) = false := by simpa using k7
    have z8 : (k == 8) = false := by simpa using k8
    have z9 : (k == 9) = false := by simpa using k9
    clear k2 k3 k4 k5 k6 k7 k8 k9
    go_wp2
    go_meet
    exact HMEET.out _ _ _ HR.out HRB.out (But.refl _ _)
  case rest =>
    obtain ⟨A', B', rfl, hke, hrb, hbt⟩ := hcut
    have HKE := Lib.hid hke
    obtain ⟨pa', ca', pb', cb', g1, g2, g3⟩ := hrb.ex
    obtain ⟨mA, hmA⟩ : ∃ n, A'.length = n := ⟨_, rfl⟩
    obtain ⟨mB, hmB⟩ : ∃ n, B'.length = n := ⟨_, rfl⟩
    have c0 := g1.cell (j := 0) (v := .slice pa' A'.length ca') rfl
    have c1 := g1.cell (j := 1) (v := .slice pb' B'.length cb') rfl
    rw [hmA] at c0
    rw [hmB] at c1
    have HRB' := Lib.hid hrb
    have HBT := Lib.hid hbt
    have HMA := Lib.hid hmA
    have HMB := Lib.hid hmB
    clear g1 g2 g3 hrb hbt hmA hmB hke d0 d1 e0 e1 f0 f1
    have hch : chg A B (A', B') = (decide (mA ≠ nA) || decide (mB ≠ nB)) := by unfold chg; rw [HNA.out, HNB.out, ← HMA.out, ← HMB.out]
    by_cases ha : mA = nA
    · have q1 : ((mA : Int) != (nA : Int)) = false := by simp [ha]
      by_cases hb : mB = nB
      · have q2 : ((mB : Int) != (nB : Int)) = false := by simp [hb]
        have Q : Hid (chg A B (A', B') = false) := by unfold Hid; rw [hch]; simp [ha, hb]
        clear ha hb hch
        go_wp2
        go_ret2
        rw [HKE.out]
        exact ⟨by rw [Q.out]; rfl, HRB'.out, But.trans (But.of_below HWO.out) HBT.out⟩
      · have q2 : ((mB : Int) != (nB : Int)) = true := by rw [bne_iff_ne]; omega
        have Q : Hid (chg A B (A', B') = true) := by unfold Hid; rw [hch]; simp [hb]
        clear ha hb hch
        go_wp2
        go_ret2
        rw [HKE.out]
        exact ⟨by rw [Q.out]; rfl, HRB'.out, But.trans (But.of_below HWO.out) HBT.out⟩
    · have q1 : ((mA : Int) != (nA : Int)) = true := by rw [bne_iff_ne]; omega
      have Q : Hid (chg A B (A', B') = true) := by unfold Hid; rw [hch]; simp [ha]
      clear ha hch
      go_wp2
      go_ret2
      rw [HKE.out]
      exact ⟨by rw [Q.out]; rfl, HRB'.out, But.trans (But.of_below HWO.out) HBT.out⟩

end

end Go.Proofs.YtbkpnffgihjikaaDoor.Edit

/- The document's edit buffer, walked: the keys Home and Left. -/
set_option linter.unusedVariables false
set_option linter.unusedSimpArgs false
namespace Go.Proofs.YtbkpnffgihjikaaDoor.Edit
open Go.RowKit Go.Lib Go.Shelf ChangeShapes Mem Utf UtfP

section
variable {S : List Nat} {r N : Nat} {A B : List Int}

set_option maxRecDepth 200000 in
set_option maxHeartbeats 8000000 in
theorem refDo6 (cc : Int) (w : World) (h : RB w S r N A B) (hA : A.length ≤ 1099511627776) (hB : B.length ≤ 1099511627776) :
    Calls Tryd.prog 39 #[.pointer (some ⟨r, 0, none⟩), .agg #[.int .i64 6, .int .i64 cc]] w fun e w' => e = .returned (.tuple #[.bool (chg A B (keyE 6 A B)), .int .i64 0]) ∧ RB w' S r N (keyE 6 A B).1 (keyE 6 A B).2 ∧ But [r] w w' := by
  have hbo : Blk (w.alloc (.cells #[.int .i64 6, .int .i64 cc] 52)) w.heap.size #[.int .i64 6, .int .i64 cc] 52 := Blk.new _ _ _
  have hwo : Below w.heap.size w (w.alloc (.cells #[.int .i64 6, .int .i64 cc] 52)) := (Below.refl _ _).alloc (Nat.le_refl _) _
  have hrb := h.below hwo
  obtain ⟨pa, ca, pb, cb, h1, h2, h3⟩ := hrb.ex
  have d0 := hbo.cell (j := 0) (v := .int .i64 6) rfl
  have d1 := hbo.cell (j := 1) (v := .int .i64 cc) rfl
  obtain ⟨nA, hnA⟩ : ∃ n, A.length = n := ⟨_, rfl⟩
  obtain ⟨nB, hnB⟩ : ∃ n, B.length = n := ⟨_, rfl⟩
  have e0 := h1.cell (j := 0) (v := .slice pa A.length ca) rfl
  have e1 := h1.cell (j := 1) (v := .slice pb B.length cb) rfl
  have f0 := h1.free 0
  have f1 := h1.free 1
  rw [hnA] at e0 hA
  rw [hnB] at e1 hB
  have HRB := Lib.hid hrb
  have H1 := Lib.hid h1
  have H2 := Lib.hid h2
  have H3 := Lib.hid h3
  have HNA := Lib.hid hnA
  have HNB := Lib.hid hnB
  have HWO := Lib.hid hwo
  clear hbo hwo hrb h1 h2 h3 hnA hnB h
  go_enter Tryd.func39, Tryd.ntmps39
  go_upto_block 0 with fail
  obtain ⟨w1, hw1⟩ : ∃ w1, w.alloc (.cells #[.int .i64 6, .int .i64 cc] 52) = w1 := ⟨_, rfl⟩
  rw [hw1] at d0 d1 e0 e1 f0 f1 HRB H1 H2 H3 HWO
  rw [hw1]
  have HW1 := Lib.hid hw1
  clear hw1
  go_cut [6] from 9 to 163 (fun s6 wx => RK w1 S r N 6 A B nA s6 wx)
  case first =>
    have hmeet : ∀ A' B' W, keyE 6 A B = (A', B') → RB W S r N A' B' → But [r] w1 W → RK w1 S r N 6 A B nA (.int .i64 (nA : Int)) W := fun A' B' W a b c => ⟨A', B', rfl, a, b, c⟩
    have HMEET := Lib.hid hmeet
    clear hmeet
    have hd0 : Below w1.heap.size w1 w1.drew := (Below.refl _ _).drew
    have hal : Below w1.heap.size w1 (w1.drew.alloc (.cells #[] 3)) := hd0.alloc (Nat.le_refl _) _
    have HAL := Lib.hid hal
    have HSRC := Lib.hid (CellsAt.below H2.out.at' hal)
    have hbase : w1.heap.size ≤ (w1.drew.alloc (.cells #[] 3)).heap.size := hal.size
    have HR : Hid (keyE 6 A B = ([], A ++ B)) := rfl
    have hrlt : r < w1.heap.size := H1.out.lt
    clear hal
    go_wp2
    go_region_law (first
      | (refine step_append_ints (B := w1.heap.size) (v := .slice (some ⟨w1.heap.size, 0, none⟩) 0 0) (A := pa) (n := nA) (c := ca) (l := []) (src := A) rfl (.tmp 119) (.tmp 123) (some 124) rfl rfl rfl (OwnI.new w1.drew w1.heap.size #[] [] rfl (Nat.le_refl _) (by decide)) rfl HNA.out HSRC.out (by rw [HNA.out]; simp; omega) hbase ?_; intro v4 w4 hown4 hg4; have hb4 : Below w1.heap.size w1 w4 := HAL.out.grown hg4 hbase (fun k hk => by simp [Value.ownBlock] at hk; omega); have c1 : w4.cell? ⟨r, 1, none⟩ = some (.slice pb nB cb) := (hb4.cell (p := ⟨r, 1, none⟩) hrlt).trans e1)
      | (refine step_append_ints (B := w1.heap.size) (v := v4) (A := pb) (n := nB) (c := cb) (l := [] ++ A) (src := B) rfl (.tmp 124) (.tmp 128) (some 129) rfl rfl rfl hown4 rfl HNB.out (CellsAt.below H3.out.at' hb4) (by rw [HNB.out]; simp [HNA.out]; omega) hb4.size ?_; intro v5 w5 hown5 hg5; have hb5 : Below w1.heap.size w1 w5 := hb4.grown hg5 hb4.size (fun k hk => (hown4.lt hk).1); have c1' : w5.cell? ⟨r, 1, none⟩ = some (.slice pb nB cb) := (hb5.cell (p := ⟨r, 1, none⟩) hrlt).trans e1; have g1' : w5.frozen? ⟨r, 1, none⟩ = false := (hb5.frozen (p := ⟨r, 1, none⟩) hrlt).trans f1; obtain ⟨p5, m5, c5, rfl, hm5, hrow⟩ := Row.own' (S := S) hown5 HRB.out.lt))
    all_goals
      obtain ⟨hrb5, hbt5⟩ := HRB.out.setB' hb5 hm5 hrow
      obtain ⟨pa6, ca6, pb6, cb6, g61, g62, g63⟩ := hrb5.ex
      have HRB5 := Lib.hid hrb5
      have HBT5 := Lib.hid hbt5
      have x0 := g61.cell (j := 0) (v := .slice pa6 A.length ca6) rfl
      have x1 := g61.free 0
      clear hrb5 hbt5 g61 g62 g63 hown4 hown5 hg4 hg5 hb4 hb5 hrow hm5 c1 c1' g1' d0 d1 e0 e1 f0 f1
      go_wp2
      go_meet
      exact HMEET.out _ _ _ HR.out (HRB5.out.setA (Row.nil _ _ _ _)) (HBT5.out.set (Or.inl (by simp)) _)
  case rest =>
    obtain ⟨A', B', rfl, hke, hrb, hbt⟩ := hcut
    have HKE := Lib.hid hke
    obtain ⟨pa', ca', pb', cb', g1, g2, g3⟩ := hrb.ex
    obtain ⟨mA, hmA⟩ : ∃ n, A'.length = n := ⟨_, rfl⟩
    obtain ⟨mB, hmB⟩ : ∃ n, B'.length = n := ⟨_, rfl⟩
    have c0 := g1.cell (j := 0) (v := .slice pa' A'.length ca') rfl
    have c1 := g1.cell (j := 1) (v := .slice pb' B'.length cb') rfl
    rw [hmA] at c0
    rw [hmB] at c1
    have HRB' := Lib.hid hrb
    have HBT := Lib.hid hbt
    have HMA := Lib.hid hmA
    have HMB := Lib.hid hmB
    clear g1 g2 g3 hrb hbt hmA hmB hke d0 d1 e0 e1 f0 f1
    have hch : chg A B (A', B') = (decide (mA ≠ nA) || decide (mB ≠ nB)) := by unfold chg; rw [HNA.out, HNB.out, ← HMA.out, ← HMB.out]
    by_cases ha : mA = nA
    · have q1 : ((mA : Int) != (nA : Int)) = false := by simp [ha]
      by_cases hb : mB = nB
      · have q2 : ((mB : Int) != (nB : Int)) = false := by simp [hb]
        have Q : Hid (chg A B (A', B') = false) := by unfold Hid; rw [hch]; simp [ha, hb]
        clear ha hb hch
        go_wp2
        go_ret2
        rw [HKE.out]
        exact ⟨by rw [Q.out]; rfl, HRB'.out, But.trans (But.of_below HWO.out) HBT.out⟩
      · have q2 : ((mB : Int) != (nB : Int)) = true := by rw [bne_iff_ne]; omega
        have Q : Hid (chg A B (A', B') = true) := by unfold Hid; rw [hch]; simp [hb]
        clear ha hb hch
        go_wp2
        go_ret2
        rw [HKE.out]
        exact ⟨by rw [Q.out]; rfl, HRB'.out, But.trans (But.of_below HWO.out) HBT.out⟩
    · have q1 : ((mA : Int) != (nA : Int)) = true := by rw [bne_iff_ne]; omega
      have Q : Hid (chg A B (A', B') = true) := by unfold Hid; rw [hch]; simp [ha]
      clear ha hch
      go_wp2
      go_ret2
      rw [HKE.out]
      exact ⟨by rw [Q.out]; rfl, HRB'.out, But.trans (But.of_below HWO.out) HBT.out⟩

set_option maxRecDepth 200000 in
set_option maxHeartbeats 8000000 in
theorem refDo4 (cc : Int) (w : World) (h : RB w S r N A B) (hA : A.length ≤ 1099511627776) (hB : B.length ≤ 1099511627776) :
    Calls Tryd.prog 39 #[.pointer (some ⟨r, 0, none⟩), .agg #[.int .i64 4, .int .i64 cc]] w fun e w' => e = .returned (.tuple #[.bool (chg A B (keyE 4 A B)), .int .i64 0]) ∧ RB w' S r N (keyE 4 A B).1 (keyE 4 A B).2 ∧ But [r] w w' := by
  have hbo : Blk (w.alloc (.cells #[.int .i64 4, .int .i64 cc] 52)) w.heap.size #[.int .i64 4, .int .i64 cc] 52 := Blk.new _ _ _
  have hwo : Below w.heap.size w (w.alloc (.cells #[.int .i64 4, .int .i64 cc] 52)) := (Below.refl _ _).alloc (Nat.le_refl _) _
  have hrb := h.below hwo
  obtain ⟨pa, ca, pb, cb, h1, h2, h3⟩ := hrb.ex
  have d0 := hbo.cell (j := 0) (v := .int .i64 4) rfl
  have d1 := hbo.cell (j := 1) (v := .int .i64 cc) rfl
  obtain ⟨nA, hnA⟩ : ∃ n, A.length = n := ⟨_, rfl⟩
  obtain ⟨nB, hnB⟩ : ∃ n, B.length = n := ⟨_, rfl⟩
  have e0 := h1.cell (j := 0) (v := .slice pa A.length ca) rfl
  have e1 := h1.cell (j := 1) (v := .slice pb B.length cb) rfl
  have f0 := h1.free 0
  have f1 := h1.free 1
  rw [hnA] at e0 hA
  rw [hnB] at e1 hB
  have HRB := Lib.hid hrb
  have H1 := Lib.hid h1
  have H2 := Lib.hid h2
  have H3 := Lib.hid h3
  have HNA := Lib.hid hnA
  have HNB := Lib.hid hnB
  have HWO := Lib.hid hwo
  clear hbo hwo hrb h1 h2 h3 hnA hnB h
  go_enter Tryd.func39, Tryd.ntmps39
  go_upto_block 0 with fail
  obtain ⟨w1, hw1⟩ : ∃ w1, w.alloc (.cells #[.int .i64 4, .int .i64 cc] 52) = w1 := ⟨_, rfl⟩
  rw [hw1] at d0 d1 e0 e1 f0 f1 HRB H1 H2 H3 HWO
  rw [hw1]
  have HW1 := Lib.hid hw1
  clear hw1
  go_cut [6] from 9 to 163 (fun s6 wx => RK w1 S r N 4 A B nA s6 wx)
  case first =>
    have hmeet : ∀ A' B' W, keyE 4 A B = (A', B') → RB W S r N A' B' → But [r] w1 W → RK w1 S r N 4 A B nA (.int .i64 (nA : Int)) W := fun A' B' W a b c => ⟨A', B', rfl, a, b, c⟩
    have HMEET := Lib.hid hmeet
    clear hmeet
    by_cases hA0 : nA = 0
    · subst hA0
      obtain rfl : A = [] := List.eq_nil_of_length_eq_zero HNA.out
      have HR : Hid (keyE 4 [] B = ([], B)) := rfl
      go_wp2
      go_meet
      exact HMEET.out _ _ _ HR.out HRB.out (But.refl _ _)
    · obtain ⟨m, rfl⟩ : ∃ m, nA = m + 1 := ⟨nA - 1, by omega⟩
      obtain ⟨x, hx⟩ : ∃ x, A[m]? = some x := ⟨_, List.getElem?_eq_getElem (by rw [HNA.out]; omega)⟩
      have hdr : A.drop m = [x] := by
        rw [List.drop_eq_getElem_cons (by rw [HNA.out]; omega), List.drop_eq_nil_of_le (by rw [HNA.out]; omega)]
        rw [List.getElem?_eq_getElem (by rw [HNA.out]; omega)] at hx
        injection hx with hx
        rw [hx]
      have HR : Hid (keyE 4 A B = (A.take m, x :: B)) := by
        show ((A.dropLast, A.drop (A.length - 1) ++ B) : List Int × List Int) = _
        rw [List.dropLast_eq_take, HNA.out, Nat.add_sub_cancel, hdr]; rfl
      have hlm : (A.take m).length = m := by rw [List.length_take, HNA.out]; omega
      have HLM := Lib.hid hlm
      have hcap := H2.out.le
      rw [HNA.out] at hcap
      have hne : A ≠ [] := fun e => by rw [e] at HNA; have := HNA.out; simp at this
      obtain ⟨g, off, rfl, hg, hc⟩ := H2.out.at' (cellsI_ne hne)
      have hgr : g ≠ r := fun e => H2.out.out _ rfl hne (by show g ∈ S; rw [e]; exact HRB.out.rS)
      have ex : w1.cell? ⟨g, off + m, none⟩ = some (.int .i64 x) := hc m _ (by unfold cellsI; rw [List.getElem?_map, hx]; rfl)
      have k1 : (0 : Int) < (m : Int) + 1 := by omega
      have k2 : (m : Int) ≤ (ca : Int) := by omega
      have hd0 : Below w1.heap.size w1 w1.drew := (Below.refl _ _).drew
      have hal : Below w1.heap.size w1 (w1.drew.alloc (.cells #[.int .i64 x] 3)) := hd0.alloc (Nat.le_refl _) _
      have HAL := Lib.hid hal
      have HSRC := Lib.hid (CellsAt.below H3.out.at' hal)
      have hbase : w1.heap.size ≤ (w1.drew.alloc (.cells #[.int .i64 x] 3)).heap.size := hal.size
      have hrlt : r < w1.heap.size := H1.out.lt
      have s1 : IntKind.i64.wrap (m : Int) = (m : Int) := IntWalk.i64_in _ (by omega)
      have s2 : ((m : Int)).toNat = m := rfl
      have s3 : (m : Int) < (m : Int) + 1 := by omega
      clear hal hlm hc hg hne hx hdr
      go_wp2
      go_region_law (refine step_append_ints (B := w1.heap.size) (v := .slice (some ⟨w1.heap.size, 0, none⟩) 1 1) (A := pb) (n := nB) (c := cb) (l := [x]) (src := B) rfl (.tmp 69) (.tmp 73) (some 74) rfl rfl rfl (OwnI.new w1.drew w1.heap.size #[.int .i64 x] [x] rfl (Nat.le_refl _) (by simp [maxLen])) rfl HNB.out HSRC.out (by rw [HNB.out]; simp; omega) hbase ?_; intro v4 w4 hown4 hg4; have hb4 : Below w1.heap.size w1 w4 := HAL.out.grown hg4 hbase (fun k hk => by simp [Value.ownBlock] at hk; omega); have c1' : w4.cell? ⟨r, 1, none⟩ = some (.slice pb nB cb) := (hb4.cell (p := ⟨r, 1, none⟩) hrlt).trans e1; have g1' : w4.frozen? ⟨r, 1, none⟩ = false := (hb4.frozen (p := ⟨r, 1, none⟩) hrlt).trans f1; obtain ⟨p5, m5, c5, rfl, hm5, hrow⟩ := Row.own' (S := S) hown4 HRB.out.lt)
      all_goals
        obtain ⟨hrb5, hbt5⟩ := HRB.out.setB' hb4 hm5 hrow
        have hbk := (H1.out.but (But.of_below (S := []) hb4) (by simp)).set 1 (.slice p5 m5 c5)
        have x0 := hbk.cell (j := 0) (v := .slice (some ⟨g, off, none⟩) A.length ca) rfl
        have x1 := hbk.free 0
        rw [HNA.out] at x0
        have hr5 := (H2.out.but hbt5 (by simp; exact HRB.out.rS)).take m
        have HRB5 := Lib.hid (hrb5.setA' (Below.refl _ _) HLM.out hr5)
        have HBT5 := Lib.hid hbt5
        clear hrb5 hbt5 hbk hr5 hown4 hg4 hb4 hrow hm5 c1' g1' d0 d1 e0 e1 f0 f1 ex
        go_wp2
        go_meet
        exact HMEET.out _ _ _ HR.out HRB5.out.1 (HBT5.out.trans HRB5.out.2)
  case rest =>
    obtain ⟨A', B', rfl, hke, hrb, hbt⟩ := hcut
    have HKE := Lib.hid hke
    obtain ⟨pa', ca', pb', cb', g1, g2, g3⟩ := hrb.ex
    obtain ⟨mA, hmA⟩ : ∃ n, A'.length = n := ⟨_, rfl⟩
    obtain ⟨mB, hmB⟩ : ∃ n, B'.length = n := ⟨_, rfl⟩
    have c0 := g1.cell (j := 0) (v := .slice pa' A'.length ca') rfl
    have c1 := g1.cell (j := 1) (v := .slice pb' B'.length cb') rfl
    rw [hmA] at c0
    rw [hmB] at c1
    have HRB' := Lib.hid hrb
    have HBT := Lib.hid hbt
    have HMA := Lib.hid hmA
    have HMB := Lib.hid hmB
    clear g1 g2 g3 hrb hbt hmA hmB hke d0 d1 e0 e1 f0 f1
    have hch : chg A B (A', B') = (decide (mA ≠ nA) || decide (mB ≠ nB)) := by unfold chg; rw [HNA.out, HNB.out, ← HMA.out, ← HMB.out]
    by_cases ha : mA = nA
    · have q1 : ((mA : Int) != (nA : Int)) = false := by simp [ha]
      by_cases hb : mB = nB
      · have q2 : ((mB : Int) != (nB : Int)) = false := by simp [hb]
        have Q : Hid (chg A B (A', B') = false) := by unfold Hid; rw [hch]; simp [ha, hb]
        clear ha hb hch
        go_wp2
        go_ret2
        rw [HKE.out]
        exact ⟨by rw [Q.out]; rfl, HRB'.out, But.trans (But.of_below HWO.out) HBT.out⟩
      · have q2 : ((mB : Int) != (nB : Int)) = true := by rw [bne_iff_ne]; omega
        have Q : Hid (chg A B (A', B') = true) := by unfold Hid; rw [hch]; simp [hb]
        clear ha hb hch
        go_wp2
        go_ret2
        rw [HKE.out]
        exact ⟨by rw [Q.out]; rfl, HRB'.out, But.trans (But.of_below HWO.out) HBT.out⟩
    · have q1 : ((mA : Int) != (nA : Int)) = true := by rw [bne_iff_ne]; omega
      have Q : Hid (chg A B (A', B') = true) := by unfold Hid; rw [hch]; simp [ha]
      clear ha hch
      go_wp2
      go_ret2
      rw [HKE.out]
      exact ⟨by rw [Q.out]; rfl, HRB'.out, But.trans (But.of_below HWO.out) HBT.out⟩

end

end Go.Proofs.YtbkpnffgihjikaaDoor.Edit

/- The document's edit buffer, walked: the key Last. -/
set_option linter.unusedVariables false
set_option linter.unusedSimpArgs false
namespace Go.Proofs.YtbkpnffgihjikaaDoor.Edit
open Go.RowKit Go.Lib Go.Shelf ChangeShapes Mem Utf UtfP

section
variable {S : List Nat} {r N : Nat} {A B : List Int}

set_option maxRecDepth 200000 in
set_option maxHeartbeats 8000000 in
theorem refDo7 (cc : Int) (w : World) (h : RB w S r N A B) (hA : A.length ≤ 1099511627776) (hB : B.length ≤ 1099511627776) :
    Calls Tryd.prog 39 #[.pointer (some ⟨r, 0, none⟩), .agg #[.int .i64 7, .int .i64 cc]] w fun e w' => e = .returned (.tuple #[.bool (chg A B (keyE 7 A B)), .int .i64 0]) ∧ RB w' S r N (keyE 7 A B).1 (keyE 7 A B).2 ∧ But [r] w w' := by
  have hbo : Blk (w.alloc (.cells #[.int .i64 7, .int .i64 cc] 52)) w.heap.size #[.int .i64 7, .int .i64 cc] 52 := Blk.new _ _ _
  have hwo : Below w.heap.size w (w.alloc (.cells #[.int .i64 7, .int .i64 cc] 52)) := (Below.refl _ _).alloc (Nat.le_refl _) _
  have hrb := h.below hwo
  obtain ⟨pa, ca, pb, cb, h1, h2, h3⟩ := hrb.ex
  have d0 := hbo.cell (j := 0) (v := .int .i64 7) rfl
  have d1 := hbo.cell (j := 1) (v := .int .i64 cc) rfl
  obtain ⟨nA, hnA⟩ : ∃ n, A.length = n := ⟨_, rfl⟩
  obtain ⟨nB, hnB⟩ : ∃ n, B.length = n := ⟨_, rfl⟩
  have e0 := h1.cell (j := 0) (v := .slice pa A.length ca) rfl
  have e1 := h1.cell (j := 1) (v := .slice pb B.length cb) rfl
  have f0 := h1.free 0
  have f1 := h1.free 1
  rw [hnA] at e0 hA
  rw [hnB] at e1 hB
  have HRB := Lib.hid hrb
  have H1 := Lib.hid h1
  have H2 := Lib.hid h2
  have H3 := Lib.hid h3
  have HNA := Lib.hid hnA
  have HNB := Lib.hid hnB
  have HWO := Lib.hid hwo
  clear hbo hwo hrb h1 h2 h3 hnA hnB h
  go_enter Tryd.func39, Tryd.ntmps39
  go_upto_block 0 with fail
  obtain ⟨w1, hw1⟩ : ∃ w1, w.alloc (.cells #[.int .i64 7, .int .i64 cc] 52) = w1 := ⟨_, rfl⟩
  rw [hw1] at d0 d1 e0 e1 f0 f1 HRB H1 H2 H3 HWO
  rw [hw1]
  have HW1 := Lib.hid hw1
  clear hw1
  go_cut [6] from 9 to 163 (fun s6 wx => RK w1 S r N 7 A B nA s6 wx)
  case first =>
    have hmeet : ∀ A' B' W, keyE 7 A B = (A', B') → RB W S r N A' B' → But [r] w1 W → RK w1 S r N 7 A B nA (.int .i64 (nA : Int)) W := fun A' B' W a b c => ⟨A', B', rfl, a, b, c⟩
    have HMEET := Lib.hid hmeet
    clear hmeet
    have hd0 : Below w1.heap.size w1 w1.drew := (Below.refl _ _).drew
    have hal : Below w1.heap.size w1 (w1.drew.alloc (.cells #[] 3)) := hd0.alloc (Nat.le_refl _) _
    have HAL := Lib.hid hal
    have HSRC := Lib.hid (CellsAt.below H2.out.at' hal)
    have hbase : w1.heap.size ≤ (w1.drew.alloc (.cells #[] 3)).heap.size := hal.size
    have HR : Hid (keyE 7 A B = (A ++ B, [])) := rfl
    have hrlt : r < w1.heap.size := H1.out.lt
    clear hal
    go_wp2
    go_region_law (first
      | (refine step_append_ints (B := w1.heap.size) (v := .slice (some ⟨w1.heap.size, 0, none⟩) 0 0) (A := pa) (n := nA) (c := ca) (l := []) (src := A) rfl (.tmp 138) (.tmp 142) (some 143) rfl rfl rfl (OwnI.new w1.drew w1.heap.size #[] [] rfl (Nat.le_refl _) (by decide)) rfl HNA.out HSRC.out (by rw [HNA.out]; simp; omega) hbase ?_; intro v4 w4 hown4 hg4; have hb4 : Below w1.heap.size w1 w4 := HAL.out.grown hg4 hbase (fun k hk => by simp [Value.ownBlock] at hk; omega); have c1 : w4.cell? ⟨r, 1, none⟩ = some (.slice pb nB cb) := (hb4.cell (p := ⟨r, 1, none⟩) hrlt).trans e1)
      | (refine step_append_ints (B := w1.heap.size) (v := v4) (A := pb) (n := nB) (c := cb) (l := [] ++ A) (src := B) rfl (.tmp 143) (.tmp 147) (some 148) rfl rfl rfl hown4 rfl HNB.out (CellsAt.below H3.out.at' hb4) (by rw [HNB.out]; simp [HNA.out]; omega) hb4.size ?_; intro v5 w5 hown5 hg5; have hb5 : Below w1.heap.size w1 w5 := hb4.grown hg5 hb4.size (fun k hk => (hown4.lt hk).1); have c1' : w5.cell? ⟨r, 0, none⟩ = some (.slice pa nA ca) := (hb5.cell (p := ⟨r, 0, none⟩) hrlt).trans e0; have g1' : w5.frozen? ⟨r, 0, none⟩ = false := (hb5.frozen (p := ⟨r, 0, none⟩) hrlt).trans f0; obtain ⟨p5, m5, c5, rfl, hm5, hrow⟩ := Row.own' (S := S) hown5 HRB.out.lt))
    all_goals
      obtain ⟨hrb5, hbt5⟩ := HRB.out.setA' hb5 hm5 hrow
      obtain ⟨pa6, ca6, pb6, cb6, g61, g62, g63⟩ := hrb5.ex
      have HRB5 := Lib.hid hrb5
      have HBT5 := Lib.hid hbt5
      have x0 := g61.cell (j := 1) (v := .slice pb6 B.length cb6) rfl
      have x1 := g61.free 1
      clear hrb5 hbt5 g61 g62 g63 hown4 hown5 hg4 hg5 hb4 hb5 hrow hm5 c1 c1' g1' d0 d1 e0 e1 f0 f1
      go_wp2
      go_meet
      exact HMEET.out _ _ _ HR.out (HRB5.out.setB (Row.nil _ _ _ _)) (HBT5.out.set (Or.inl (by simp)) _)
  case rest =>
    obtain ⟨A', B', rfl, hke, hrb, hbt⟩ := hcut
    have HKE := Lib.hid hke
    obtain ⟨pa', ca', pb', cb', g1, g2, g3⟩ := hrb.ex
    obtain ⟨mA, hmA⟩ : ∃ n, A'.length = n := ⟨_, rfl⟩
    obtain ⟨mB, hmB⟩ : ∃ n, B'.length = n := ⟨_, rfl⟩
    have c0 := g1.cell (j := 0) (v := .slice pa' A'.length ca') rfl
    have c1 := g1.cell (j := 1) (v := .slice pb' B'.length cb') rfl
    rw [hmA] at c0
    rw [hmB] at c1
    have HRB' := Lib.hid hrb
    have HBT := Lib.hid hbt
    have HMA := Lib.hid hmA
    have HMB := Lib.hid hmB
    clear g1 g2 g3 hrb hbt hmA hmB hke d0 d1 e0 e1 f0 f1
    have hch : chg A B (A', B') = (decide (mA ≠ nA) || decide (mB ≠ nB)) := by unfold chg; rw [HNA.out, HNB.out, ← HMA.out, ← HMB.out]
    by_cases ha : mA = nA
    · have q1 : ((mA : Int) != (nA : Int)) = false := by simp [ha]
      by_cases hb : mB = nB
      · have q2 : ((mB : Int) != (nB : Int)) = false := by simp [hb]
        have Q : Hid (chg A B (A', B') = false) := by unfold Hid; rw [hch]; simp [ha, hb]
        clear ha hb hch
        go_wp2
        go_ret2
        rw [HKE.out]
        exact ⟨by rw [Q.out]; rfl, HRB'.out, But.trans (But.of_below HWO.out) HBT.out⟩
      · have q2 : ((mB : Int) != (nB : Int)) = true := by rw [bne_iff_ne]; omega
        have Q : Hid (chg A B (A', B') = true) := by unfold Hid; rw [hch]; simp [hb]
        clear ha hb hch
        go_wp2
        go_ret2
        rw [HKE.out]
        exact ⟨by rw [Q.out]; rfl, HRB'.out, But.trans (But.of_below HWO.out) HBT.out⟩
    · have q1 : ((mA : Int) != (nA : Int)) = true := by rw [bne_iff_ne]; omega
      have Q : Hid (chg A B (A', B') = true) := by unfold Hid; rw [hch]; simp [ha]
      clear ha hch
      go_wp2
      go_ret2
      rw [HKE.out]
      exact ⟨by rw [Q.out]; rfl, HRB'.out, But.trans (But.of_below HWO.out) HBT.out⟩

end

end Go.Proofs.YtbkpnffgihjikaaDoor.Edit

/- The document's edit buffer, walked: the key Right. -/
set_option linter.unusedVariables false
set_option linter.unusedSimpArgs false
namespace Go.Proofs.YtbkpnffgihjikaaDoor.Edit
open Go.RowKit Go.Lib Go.Shelf ChangeShapes Mem Utf UtfP

section
variable {S : List Nat} {r N : Nat} {A B : List Int}

set_option maxRecDepth 200000 in
set_option maxHeartbeats 8000000 in
theorem refDo5 (cc : Int) (w : World) (h : RB w S r N A B) (hA : A.length ≤ 1099511627776) (hB : B.length ≤ 1099511627776) :
    Calls Tryd.prog 39 #[.pointer (some ⟨r, 0, none⟩), .agg #[.int .i64 5, .int .i64 cc]] w fun e w' => e = .returned (.tuple #[.bool (chg A B (keyE 5 A B)), .int .i64 0]) ∧ RB w' S r N (keyE 5 A B).1 (keyE 5 A B).2 ∧ But [r] w w' := by
  have hbo : Blk (w.alloc (.cells #[.int .i64 5, .int .i64 cc] 52)) w.heap.size #[.int .i64 5, .int .i64 cc] 52 := Blk.new _ _ _
  have hwo : Below w.heap.size w (w.alloc (.cells #[.int .i64 5, .int .i64 cc] 52)) := (Below.refl _ _).alloc (Nat.le_refl _) _
  have hrb := h.below hwo
  obtain ⟨pa, ca, pb, cb, h1, h2, h3⟩ := hrb.ex
  have d0 := hbo.cell (j := 0) (v := .int .i64 5) rfl
  have d1 := hbo.cell (j := 1) (v := .int .i64 cc) rfl
  obtain ⟨nA, hnA⟩ : ∃ n, A.length = n := ⟨_, rfl⟩
  obtain ⟨nB, hnB⟩ : ∃ n, B.length = n := ⟨_, rfl⟩
  have e0 := h1.cell (j := 0) (v := .slice pa A.length ca) rfl
  have e1 := h1.cell (j := 1) (v := .slice pb B.length cb) rfl
  have f0 := h1.free 0
  have f1 := h1.free 1
  rw [hnA] at e0 hA
  rw [hnB] at e1 hB
  have HRB := Lib.hid hrb
  have H1 := Lib.hid h1
  have H2 := Lib.hid h2
  have H3 := Lib.hid h3
  have HNA := Lib.hid hnA
  have HNB := Lib.hid hnB
  have HWO := Lib.hid hwo
  clear hbo hwo hrb h1 h2 h3 hnA hnB h
  go_enter Tryd.func39, Tryd.ntmps39
  go_upto_block 0 with fail
  obtain ⟨w1, hw1⟩ : ∃ w1, w.alloc (.cells #[.int .i64 5, .int .i64 cc] 52) = w1 := ⟨_, rfl⟩
  rw [hw1] at d0 d1 e0 e1 f0 f1 HRB H1 H2 H3 HWO
  rw [hw1]
  have HW1 := Lib.hid hw1
  clear hw1
  go_cut [6] from 9 to 163 (fun s6 wx => RK w1 S r N 5 A B nA s6 wx)
  case first =>
    have hmeet : ∀ A' B' W, keyE 5 A B = (A', B') → RB W S r N A' B' → But [r] w1 W → RK w1 S r N 5 A B nA (.int .i64 (nA : Int)) W := fun A' B' W a b c => ⟨A', B', rfl, a, b, c⟩
    have HMEET := Lib.hid hmeet
    clear hmeet
    by_cases hB0 : nB = 0
    · subst hB0
      obtain rfl : B = [] := List.eq_nil_of_length_eq_zero HNB.out
      have HR : Hid (keyE 5 A [] = (A, [])) := by
        show ((A ++ [].take 1, [].tail) : List Int × List Int) = _
        simp
      go_wp2
      go_meet
      exact HMEET.out _ _ _ HR.out HRB.out (But.refl _ _)
    · obtain ⟨m, rfl⟩ : ∃ m, nB = m + 1 := ⟨nB - 1, by omega⟩
      obtain ⟨x, B1, rfl⟩ : ∃ x B1, B = x :: B1 := by
        cases B with
        | nil => have := HNB.out; simp at this
        | cons x B1 => exact ⟨x, B1, rfl⟩
      have hne : (x :: B1 : List Int) ≠ [] := by simp
      obtain ⟨g, off, rfl, hg, hc⟩ := H3.out.at' (cellsI_ne hne)
      have hgr : g ≠ r := fun e => H3.out.out _ rfl hne (by show g ∈ S; rw [e]; exact HRB.out.rS)
      have ex : w1.cell? ⟨g, off, none⟩ = some (.int .i64 x) := hc 0 _ rfl
      have HR : Hid (keyE 5 A (x :: B1) = (A ++ [x], B1)) := rfl
      have hlm : B1.length = m := by have := HNB.out; simpa using this
      have HLM := Lib.hid hlm
      have hcap := H3.out.le
      rw [HNB.out] at hcap
      have k1 : (0 : Int) < (m : Int) + 1 := by omega
      have k2 : (1 : Int) ≤ (cb : Int) := by omega
      have hrlt : r < w1.heap.size := H1.out.lt
      have hd0 : Below w1.heap.size w1 w1.drew := (Below.refl _ _).drew
      have HSE : Hid (∀ W, Below w1.heap.size w1 W → W.cell? ⟨r, 1, none⟩ = some (.slice (some ⟨g, off, none⟩) (m + 1) cb) ∧ W.cell? ⟨g, off, none⟩ = some (.int .i64 x)) := fun W hW => ⟨(hW.cell (p := ⟨r, 1, none⟩) hrlt).trans e1, (hW.cell (p := ⟨g, off, none⟩) hg).trans ex⟩
      have HG := Lib.hid hg
      have bA : Below w1.heap.size w1 (w1.drew.alloc (.cells #[] 3)) := hd0.alloc (Nat.le_refl _) _
      have bX : Below w1.heap.size w1 (w1.drew.alloc (.cells #[.int .i64 x] 3)) := hd0.alloc (Nat.le_refl _) _
      have bB : Below w1.heap.size w1 ((w1.drew.alloc (.cells #[.int .i64 x] 3)).alloc (.cells #[] 3)) := bX.alloc bX.size _
      have bC : Below w1.heap.size w1 ((w1.drew.alloc (.cells #[] 3)).alloc (.cells #[.int .i64 x] 3)) := bA.alloc bA.size _
      have oA : OwnI (w1.drew.alloc (.cells #[] 3)) w1.heap.size (.slice (some ⟨w1.heap.size, 0, none⟩) 0 0) [] := OwnI.new w1.drew w1.heap.size #[] [] rfl (Nat.le_refl _) (by decide)
      have oB : OwnI ((w1.drew.alloc (.cells #[.int .i64 x] 3)).alloc (.cells #[] 3)) w1.heap.size (.slice (some ⟨(w1.drew.alloc (.cells #[.int .i64 x] 3)).heap.size, 0, none⟩) 0 0) [] := OwnI.new (w1.drew.alloc (.cells #[.int .i64 x] 3)) w1.heap.size #[] [] rfl bX.size (by decide)
      have oC := oA.below (w' := (w1.drew.alloc (.cells #[] 3)).alloc (.cells #[.int .i64 x] 3)) ((Below.refl _ _).alloc (Nat.le_refl _) _)
      have zA : (w1.drew.alloc (.cells #[.int .i64 x] 3)).heap.size = w1.heap.size + 1 := by simp
      have zB : (w1.drew.alloc (.cells #[] 3)).heap.size = w1.heap.size + 1 := by simp
      rw [zA] at oB
      have xB : CellsAt ((w1.drew.alloc (.cells #[.int .i64 x] 3)).alloc (.cells #[] 3)) (some ⟨w1.heap.size, 0, none⟩) (cellsI [x]) := CellsAt.below (CellsAt.new w1.drew #[.int .i64 x] 3 _ rfl) ((Below.refl _ _).alloc (Nat.le_refl _) _)
      have xC : CellsAt ((w1.drew.alloc (.cells #[] 3)).alloc (.cells #[.int .i64 x] 3)) (some ⟨w1.heap.size + 1, 0, none⟩) (cellsI [x]) := by rw [← zB]; exact CellsAt.new (w1.drew.alloc (.cells #[] 3)) #[.int .i64 x] 3 _ rfl
      have OA := Lib.hid (And.intro oA bA)
      have OB := Lib.hid (And.intro oB (And.intro bB xB))
      have OC := Lib.hid (And.intro oC (And.intro bC xC))
      have SA := Lib.hid (CellsAt.below H2.out.at' bA)
      have SB := Lib.hid (CellsAt.below H2.out.at' bB)
      have SC := Lib.hid (CellsAt.below H2.out.at' bC)
      clear bA bX bB bC oA oB oC xB xC hc hne hlm zA zB
      go_upto_region 19 with fail
      go_cut [6] from 91 to 107 (fun s6 wx => R5 w1 S r N A B1 x nA g off m cb s6 wx)
      case first =>
        go_region_law (first
          | (refine step_append_ints (B := w1.heap.size) (v := .slice (some ⟨w1.heap.size, 0, none⟩) 0 0) (A := pa) (n := nA) (c := ca) (l := []) (src := A) rfl (.tmp 92) (.tmp 96) (some 97) rfl rfl rfl OA.out.1 rfl HNA.out SA.out (by rw [HNA.out]; simp; omega) OA.out.2.size ?_; intro v4 w4 hown4 hg4; have hb4 : Below w1.heap.size w1 w4 := OA.out.2.grown hg4 OA.out.2.size (fun k hk => (OA.out.1.lt hk).1); have c1 := (HSE.out _ hb4).1; have cx := (HSE.out _ hb4).2; have z4 := hb4.size)
          | (refine step_append_ints (B := w1.heap.size) (v := .slice (some ⟨w1.heap.size, 0, none⟩) 0 0) (A := pa) (n := nA) (c := ca) (l := []) (src := A) rfl (.tmp 92) (.tmp 96) (some 97) rfl rfl rfl OC.out.1 rfl HNA.out SC.out (by rw [HNA.out]; simp; omega) OC.out.2.1.size ?_; intro v4 w4 hown4 hg4; have hb4 : Below w1.heap.size w1 w4 := OC.out.2.1.grown hg4 OC.out.2.1.size (fun k hk => (OC.out.1.lt hk).1); have hx4 := CellsAt.grown OC.out.2.2 hg4 (fun a k ha hk => by cases ha; cases hk; show w1.heap.size + 1 ≠ w1.heap.size; omega); have c1 := (HSE.out _ hb4).1; have cx := (HSE.out _ hb4).2)
          | (refine step_append_ints (B := w1.heap.size) (v := .slice (some ⟨w1.heap.size + 1, 0, none⟩) 0 0) (A := pa) (n := nA) (c := ca) (l := []) (src := A) rfl (.tmp 92) (.tmp 96) (some 97) rfl rfl rfl OB.out.1 rfl HNA.out SB.out (by rw [HNA.out]; simp; omega) OB.out.2.1.size ?_; intro v4 w4 hown4 hg4; have hb4 : Below w1.heap.size w1 w4 := OB.out.2.1.grown hg4 OB.out.2.1.size (fun k hk => (OB.out.1.lt hk).1); have hx4 := CellsAt.grown OB.out.2.2 hg4 (fun a k ha hk => by cases ha; cases hk; show w1.heap.size ≠ w1.heap.size + 1; omega); have c1 := (HSE.out _ hb4).1; have cx := (HSE.out _ hb4).2)
          | (refine step_append_ints (B := w1.heap.size) (v := v4) (A := some ⟨w1.heap.size, 0, none⟩) (n := 1) (c := 1) (l := [] ++ A) (src := [x]) rfl (.tmp 97) (.tmp 104) (some 105) rfl rfl rfl hown4 rfl rfl hx4 (by simp [HNA.out]; omega) hb4.size ?_; intro v5 w5 hown5 hg5; have hb5 : Below w1.heap.size w1 w5 := hb4.grown hg5 hb4.size (fun k hk => (hown4.lt hk).1); have c0' : w5.cell? ⟨r, 0, none⟩ = some (.slice pa nA ca) := (hb5.cell (p := ⟨r, 0, none⟩) hrlt).trans e0; have g0' : w5.frozen? ⟨r, 0, none⟩ = false := (hb5.frozen (p := ⟨r, 0, none⟩) hrlt).trans f0; obtain ⟨p5, m5, c5, rfl, hm5, hrow⟩ := Row.own' (S := S) hown5 HRB.out.lt)
          | (refine step_append_ints (B := w1.heap.size) (v := v4) (A := some ⟨w1.heap.size + 1, 0, none⟩) (n := 1) (c := 1) (l := [] ++ A) (src := [x]) rfl (.tmp 97) (.tmp 104) (some 105) rfl rfl rfl hown4 rfl rfl hx4 (by simp [HNA.out]; omega) hb4.size ?_; intro v5 w5 hown5 hg5; have hb5 : Below w1.heap.size w1 w5 := hb4.grown hg5 hb4.size (fun k hk => (hown4.lt hk).1); have c0' : w5.cell? ⟨r, 0, none⟩ = some (.slice pa nA ca) := (hb5.cell (p := ⟨r, 0, none⟩) hrlt).trans e0; have g0' : w5.frozen? ⟨r, 0, none⟩ = false := (hb5.frozen (p := ⟨r, 0, none⟩) hrlt).trans f0; obtain ⟨p5, m5, c5, rfl, hm5, hrow⟩ := Row.own' (S := S) hown5 HRB.out.lt)
          | (refine step_append_ints (B := w1.heap.size) (v := v4) (A := some ⟨w4.heap.size, 0, none⟩) (n := 1) (c := 1) (l := [] ++ A) (src := [x]) rfl (.tmp 97) (.tmp 104) (some 105) rfl rfl rfl (hown4.below ((Below.refl _ _).alloc (Nat.le_refl _) _)) rfl rfl (CellsAt.new w4 #[.int .i64 x] 3 _ rfl) (by simp [HNA.out]; omega) (hb4.alloc hb4.size _).size ?_; intro v5 w5 hown5 hg5; have hb5 : Below w1.heap.size w1 w5 := (hb4.alloc hb4.size _).grown hg5 (hb4.alloc hb4.size _).size (fun k hk => (hown4.lt hk).1); have c0' : w5.cell? ⟨r, 0, none⟩ = some (.slice pa nA ca) := (hb5.cell (p := ⟨r, 0, none⟩) hrlt).trans e0; have g0' : w5.frozen? ⟨r, 0, none⟩ = false := (hb5.frozen (p := ⟨r, 0, none⟩) hrlt).trans f0; obtain ⟨p5, m5, c5, rfl, hm5, hrow⟩ := Row.own' (S := S) hown5 HRB.out.lt))
        all_goals
          obtain ⟨hrb5, hbt5⟩ := HRB.out.setA' hb5 hm5 hrow
          have hbk := (H1.out.but (But.of_below (S := []) hb5) (by simp)).set 0 (.slice p5 m5 c5)
          have hx1 := hbk.cell (j := 1) (v := .slice (some ⟨g, off, none⟩) (x :: B1).length cb) rfl
          rw [HNB.out] at hx1
          go_wp2_with fail
          go_meet
          exact ⟨rfl, hrb5, hbt5, hx1, hbk.free 1, H3.out.but hbt5 (by simp; exact HRB.out.rS)⟩
      case rest =>
        obtain ⟨rfl, hrb5, hbt5, x0, x1, hrow⟩ := hcut
        have hr5 := Lib.hid (hrb5.setB' (Below.refl _ _) HLM.out hrow.tail)
        have HBT5 := Lib.hid hbt5
        clear hrb5 hbt5 hrow d0 d1 e0 e1 f0 f1 ex
        by_cases hc1 : cb = 1
        · subst hc1
          obtain rfl : m = 0 := by omega
          rw [if_pos rfl, Nat.sub_self] at hr5
          go_wp2
          go_meet
          exact HMEET.out _ _ _ HR.out hr5.out.1 (HBT5.out.trans hr5.out.2)
        · rw [if_neg hc1] at hr5
          go_wp2
          go_meet
          exact HMEET.out _ _ _ HR.out hr5.out.1 (HBT5.out.trans hr5.out.2)
  case rest =>
    obtain ⟨A', B', rfl, hke, hrb, hbt⟩ := hcut
    have HKE := Lib.hid hke
    obtain ⟨pa', ca', pb', cb', g1, g2, g3⟩ := hrb.ex
    obtain ⟨mA, hmA⟩ : ∃ n, A'.length = n := ⟨_, rfl⟩
    obtain ⟨mB, hmB⟩ : ∃ n, B'.length = n := ⟨_, rfl⟩
    have c0 := g1.cell (j := 0) (v := .slice pa' A'.length ca') rfl
    have c1 := g1.cell (j := 1) (v := .slice pb' B'.length cb') rfl
    rw [hmA] at c0
    rw [hmB] at c1
    have HRB' := Lib.hid hrb
    have HBT := Lib.hid hbt
    have HMA := Lib.hid hmA
    have HMB := Lib.hid hmB
    clear g1 g2 g3 hrb hbt hmA hmB hke d0 d1 e0 e1 f0 f1
    have hch : chg A B (A', B') = (decide (mA ≠ nA) || decide (mB ≠ nB)) := by unfold chg; rw [HNA.out, HNB.out, ← HMA.out, ← HMB.out]
    by_cases ha : mA = nA
    · have q1 : ((mA : Int) != (nA : Int)) = false := by simp [ha]
      by_cases hb : mB = nB
      · have q2 : ((mB : Int) != (nB : Int)) = false := by simp [hb]
        have Q : Hid (chg A B (A', B') = false) := by unfold Hid; rw [hch]; simp [ha, hb]
        clear ha hb hch
        go_wp2
        go_ret2
        rw [HKE.out]
        exact ⟨by rw [Q.out]; rfl, HRB'.out, But.trans (But.of_below HWO.out) HBT.out⟩
      · have q2 : ((mB : Int) != (nB : Int)) = true := by rw [bne_iff_ne]; omega
        have Q : Hid (chg A B (A', B') = true) := by unfold Hid; rw [hch]; simp [hb]
        clear ha hb hch
        go_wp2
        go_ret2
        rw [HKE.out]
        exact ⟨by rw [Q.out]; rfl, HRB'.out, But.trans (But.of_below HWO.out) HBT.out⟩
    · have q1 : ((mA : Int) != (nA : Int)) = true := by rw [bne_iff_ne]; omega
      have Q : Hid (chg A B (A', B') = true) := by unfold Hid; rw [hch]; simp [ha]
      clear ha hch
      go_wp2
      go_ret2
      rw [HKE.out]
      exact ⟨by rw [Q.out]; rfl, HRB'.out, But.trans (But.of_below HWO.out) HBT.out⟩

end

end Go.Proofs.YtbkpnffgihjikaaDoor.Edit

/- The document's edit buffer: Do of any key. -/
set_option linter.unusedVariables false
set_option linter.unusedSimpArgs false
namespace Go.Proofs.YtbkpnffgihjikaaDoor.Edit
open Go.RowKit Go.Lib Go.Shelf ChangeShapes Mem Utf UtfP

section
variable {S : List Nat} {r N : Nat} {A B : List Int}

theorem refDoK (k cc : Int) (hk : k ≠ 0) (w : World) (h : RB w S r N A B) (hA : A.length ≤ 1099511627776) (hB : B.length ≤ 1099511627776) :
    Calls Tryd.prog 39 #[.pointer (some ⟨r, 0, none⟩), .agg #[.int .i64 k, .int .i64 cc]] w fun e w' => e = .returned (.tuple #[.bool (chg A B (keyE k A B)), .int .i64 0]) ∧ RB w' S r N (keyE k A B).1 (keyE k A B).2 ∧ But [r] w w' := by
  by_cases k2 : k = 2
  · subst k2; exact refDo2 cc w h hA hB
  by_cases k3 : k = 3
  · subst k3; exact refDo3 cc w h hA hB
  by_cases k4 : k = 4
  · subst k4; exact refDo4 cc w h hA hB
  by_cases k5 : k = 5
  · subst k5; exact refDo5 cc w h hA hB
  by_cases k6 : k = 6
  · subst k6; exact refDo6 cc w h hA hB
  by_cases k7 : k = 7
  · subst k7; exact refDo7 cc w h hA hB
  by_cases k8 : k = 8
  · subst k8; exact refDo8 cc w h hA hB
  by_cases k9 : k = 9
  · subst k9; exact refDo9 cc w h hA hB
  exact refDoE k cc hk k2 k3 k4 k5 k6 k7 k8 k9 w h hA hB

set_option maxRecDepth 200000 in
set_option maxHeartbeats 1000000 in
theorem refDo0 (cc : Int) (w : World) (h : RB w S r N A B) (hA : A.length ≤ 1099511627776) (hB : B.length ≤ 1099511627776) (hN : N ≤ 4096) (hp : AllPrint (A ++ B)) :
    Calls Tryd.prog 39 #[.pointer (some ⟨r, 0, none⟩), .agg #[.int .i64 0, .int .i64 cc]] w fun e w' => e = .returned (.tuple #[.bool ((runeE N cc A B).1 == 0), .int .i64 (runeE N cc A B).1]) ∧ RB w' S r N (runeE N cc A B).2 B ∧ But [r] w w' := by
  have hbo : Blk (w.alloc (.cells #[.int .i64 0, .int .i64 cc] 52)) w.heap.size #[.int .i64 0, .int .i64 cc] 52 := Blk.new _ _ _
  have hwo : Below w.heap.size w (w.alloc (.cells #[.int .i64 0, .int .i64 cc] 52)) := (Below.refl _ _).alloc (Nat.le_refl _) _
  have hrb := h.below hwo
  obtain ⟨pa, ca, pb, cb, h1, h2, h3⟩ := hrb.ex
  have d0 := hbo.cell (j := 0) (v := .int .i64 0) rfl
  have d1 := hbo.cell (j := 1) (v := .int .i64 cc) rfl
  have e0 := h1.cell (j := 0) (v := .slice pa A.length ca) rfl
  have e1 := h1.cell (j := 1) (v := .slice pb B.length cb) rfl
  have HP := Lib.hid ((refPutB cc _ hrb hA hB hN hp).mono (R' := fun e w' => e = .returned (.int .i64 (runeE N cc A B).1) ∧ RB w' S r N (runeE N cc A B).2 B ∧ But [r] w w') fun e w' ⟨he, hb, hbt⟩ => ⟨he, hb, (But.of_below hwo).trans hbt⟩)
  obtain ⟨er, her⟩ : ∃ er, (runeE N cc A B).1 = er := ⟨_, rfl⟩
  obtain ⟨A', hA'⟩ : ∃ A', (runeE N cc A B).2 = A' := ⟨_, rfl⟩
  rw [her, hA'] at HP ⊢
  clear her hA' hbo hwo hrb h1 h2 h3 h hp
  go_enter Tryd.func39, Tryd.ntmps39
  go_wp2_with (go_at_call 41; refine (HP.out).mono ?_; rintro e w1 ⟨rfl, hb, hbt⟩)
  go_ret2
  exact ⟨rfl, hb, hbt⟩

theorem refDo_any (k cc : Int) (w : World) (h : RB w S r N A B) (hA : A.length ≤ 1099511627776) (hB : B.length ≤ 1099511627776) (hN : N ≤ 4096) (hp : AllPrint (A ++ B)) :
    Calls Tryd.prog 39 #[.pointer (some ⟨r, 0, none⟩), .agg #[.int .i64 k, .int .i64 cc]] w fun e w' => e = .returned (.tuple #[.bool (doE N k cc A B).2.2.1, .int .i64 (doE N k cc A B).2.2.2]) ∧ RB w' S r N (doE N k cc A B).1 (doE N k cc A B).2.1 ∧ But [r] w w' := by
  unfold doE
  by_cases hk : k = 0
  · subst hk
    simp only [if_true]
    exact refDo0 cc w h hA hB hN hp
  · simp only [if_neg hk]
    exact refDoK k cc hk w h hA hB

end

/-- an insertion, by the document's buffer's own answer -/
theorem ins_e' {b a c N : Nat} {A B : List Int} (Q : Option Addr) (l : List UInt8) (cap : Nat) (w : World) (hT : Tabs w) (h : Ed w b a c N A B) (hA : BytesAt w Q l) (hcap : l.length ≤ cap) (hm : l.length ≤ 140737488355328) (hc : ∀ ad, Q = some ad → l ≠ [] → ad.block ≠ c) :
    Calls Tryd.prog 32 #[.pointer (some ⟨b, 0, none⟩), .slice Q l.length cap] w fun e w' => e = .returned (.int .i64 (insE N l A B).1) ∧ Ed w' b a c N (insE N l A B).2 B ∧ But [b, a, c] w w' := by
  refine (ins_e Q l cap w hT h hA hcap hm hc).mono fun e w' ⟨er, A', he, hed, hbt, hcase⟩ => ?_
  rcases hcase with ⟨hf, rfl, rfl⟩ | ⟨hf, hx, rfl, rfl⟩ | ⟨hf, hx, rfl, rfl⟩
  · have : insE N l A' B = (8, A') := by unfold insE; rw [hf]; rfl
    rw [this]
    exact ⟨he, hed, hbt⟩
  · have hl := (charsOf_spec hf).1
    have : insE N l A' B = (4, A') := by unfold insE layE; rw [hf, if_pos rfl, ← hl, if_neg (by omega)]
    rw [this]
    exact ⟨he, hed, hbt⟩
  · have hl := (charsOf_spec hf).1
    have : insE N l A B = (0, A ++ charsOf l) := by unfold insE layE; rw [hf, if_pos rfl, ← hl, if_pos hx]
    rw [this]
    exact ⟨he, hed, hbt⟩

end Go.Proofs.YtbkpnffgihjikaaDoor.Edit

/- The key that is held as a whole: next, walked. -/
import Derived.Test.YtbflcikfaoojmaaDoorHKd9
import Derived.Test.YtbflcikfaoojmaaDoorHKd10
import Derived.Test.YtbflcikfaoojmaaDoorGE
import Derived.Test.YtbflcikfaoojmaaDoorGD
import Derived.Test.YtbflcikfaoojmaaDoorHUtfN
import Derived.Deep.CutBlock
import Derived.Deep.DeepCutAuto
set_option linter.unusedVariables false
set_option linter.unusedSimpArgs false
namespace Go.Proofs.YtbflcikfaoojmaaDoor.Edit
open Go.RowKit Go.Lib Go.Shelf ChangeShapes Mem Utf UtfP Def

/-- the key that the bytes that are held begin with, if it is whole: the key, its bytes, whether a paste is begun behind it -/
def nxE (t : List UInt8) (ps : Bool) : Option ((Int × Int) × Nat × Bool) :=
  if t = [] then none
  else if bt t 0 = 27 then (if (seqN t).2.2 ≠ 0 then none else some (((seqE ps (seqN t).1 0).1, (seqE ps (seqN t).1 0).2.1), (seqN t).2.1, (seqE ps (seqN t).1 0).2.2))
  else if (next t).2.2 = 7 then none
  else some (charK ps (if (next t).2.2 = 8 then 65533 else ((next t).1 : Int)), (next t).2.1, ps)

theorem results_cell2 {P : Program} {fn : Func} {p u : Tmp} {ty : TypeId} (h : fn.results = #[.cell p ty, .tmp u]) (tmps : Array Value) (w : World) (g : Nat) (t : TypeId) (cs : Array Value) (d : TypeDesc)
    (hp : tmps.getD p undef = .pointer (some ⟨g, 0, none⟩)) (hg : Blk w g cs t)
    (hu : P.underlying ty = some d) (hd : (match d with | .struct _ | .array _ _ => true | _ => false) = true) (hi : (P.info? ty).map (·.size) = some cs.size) :
    (results fn tmps).run P w = .ok (.tuple #[.agg cs, tmps.getD u undef]) w := by
  have hp' : tmps[p]?.getD undef = .pointer (some ⟨g, 0, none⟩) := by simpa using hp
  simp [results, h, hp', asAddr, run_loadVar_row w g t ty cs (0, 0) d hg hu hd hi]

theorem inv_clear36 (W : World) (g cap n : Nat) (cur : List Value) (hg : Win W g 0 cur) (hn : n ≤ cur.length) (h0 : 0 < n) :
    ∃ W', (invoke (.builtin .clear #[47] 0 #[false]) #[.slice (some ⟨g, 0, none⟩) n cap]).run Tryd.prog W = .ok (.value (.tuple #[])) W' ∧ But [g] W W' := by
  have hcell : ∀ j, j < n → (W.cell? ⟨g, 0 + j, none⟩).isSome = true := fun j hj => by
    rw [hg.cell j _ (List.getElem?_eq_getElem (by omega))]; rfl
  have hrun := run_clear_slice (P := Tryd.prog) W 47 5 0 (.int .u8 0) Tryd.underlying47 zero_u8 rfl rfl g 0 n cap h0 hcell (fun j hj => hg.free j (by omega))
  exact ⟨W.setCells g 0 (List.replicate n (.int .u8 0)), by simp [invoke, builtin, hrun], But.setCells (Or.inl (by simp)) _ _ _ (But.refl _ _)⟩

theorem win_bytesD {w : World} {g : Nat} {cur : List Value} {t : List UInt8} (h : Win w g 0 (splice cur 0 (cellsB t))) : BytesAt w (some ⟨g, 0, none⟩) t := by
  intro hne
  have hc : ∀ j, j < t.length → w.cell? ⟨g, 0 + j, none⟩ = some (.int .u8 (bt t j : Int)) := fun j hj => by
    refine h.cell j _ ?_
    unfold splice
    rw [List.take_zero, List.nil_append, List.getElem?_append_left (by rw [cellsB_length]; exact hj)]
    exact cellsB_get t j hj
  refine ⟨g, 0, rfl, ?_, hc⟩
  have := World.block_lt_of_cell? _ _ (hc 0 (List.length_pos_iff.2 hne))
  exact this

theorem seqF_le (l : List UInt8) : ∀ (n i : Nat) (oth : Bool), i + n = l.length → (seqF l n i oth).2.1 ≤ l.length ∧ ((seqF l n i oth).2.2 = 0 ∨ (seqF l n i oth).2.2 = 7) := by
  intro n
  induction n with
  | zero => intro i oth h; exact ⟨Nat.le_refl _, Or.inr rfl⟩
  | succ n ih =>
    intro i oth h
    unfold seqF
    split
    · exact ⟨by show i + 1 ≤ _; omega, Or.inl rfl⟩
    · split
      · exact ⟨by show i ≤ _; omega, Or.inl rfl⟩
      · split
        · exact ih _ _ (by omega)
        · split
          · exact ih _ _ (by omega)
          · exact ⟨by show i ≤ _; omega, Or.inl rfl⟩
theorem seqN_le (l : List UInt8) : (seqN l).2.1 ≤ l.length := by
  unfold seqN
  split
  · exact Nat.zero_le _
  · rename_i h
    have := List.length_pos_iff.2 h
    split
    · exact Nat.zero_le _
    · split
      · show 1 ≤ l.length; omega
      · by_cases h2 : 2 ≤ l.length
        · exact (seqF_le l _ 2 false (by omega)).1
        · rw [show l.length - 2 = 0 by omega]
          exact Nat.le_refl _

section
variable {d a c N : Nat} {t t' : List UInt8} {ps ps' : Bool}

end

end Go.Proofs.YtbflcikfaoojmaaDoor.Edit

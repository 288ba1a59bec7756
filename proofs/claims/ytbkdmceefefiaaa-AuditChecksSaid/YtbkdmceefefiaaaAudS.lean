/- What an audit computes, in plain words: a stand, an auditor, an effect. -/
import Derived.Test.YtbkdmceefefiaaaAud4
set_option linter.unusedVariables false
namespace Go.Proofs.Ytbkdmceefefiaaa.Aud
open Go.RowKit Go.Lib Mem Byt

structure Eff where
  k : Int
  fl : Int
  mn : Int
  tm : Int
  A : Option Addr
  l : List UInt8
  cap : Nat
  n : Int
  ok : Bool

structure AS where
  fl : Int
  mn : Int
  tm : Int
  wr : Int
  rd : Int
  sg : Int
  inn : Int
  out : Int
  be : Int
  rs : Bool
  ov : Bool

def Eff.d (e : Eff) : Value := .slice e.A e.l.length e.cap
def Eff.cells (e : Eff) : Array Value := effC e.k e.fl e.mn e.tm e.d e.n e.ok
def AudS (w : World) (b : Nat) (a : AS) : Prop := Aud w b a.fl a.mn a.tm a.wr a.rd a.sg a.inn a.out a.be a.rs a.ov

def isStart (e : Eff) : Bool := e.k == 2 && decide (e.l = startB)
def isStop (e : Eff) : Bool := e.k == 2 && decide (e.l = stopB)

/-- The stands: 0 first, 1 raw, 2 start, 3 on, 4 behind, 5 last, 6 end. -/
def fnOf : Nat → Nat
  | 0 => 12
  | 1 => 16
  | 2 => 24
  | 3 => 27
  | 4 => 29
  | 5 => 23
  | _ => 15

/-- The last setting. -/
def lastS (a : AS) (e : Eff) : Nat × AS × Int := (6, { a with rs := e.ok, ov := true }, setErr e.k e.fl e.mn e.tm a.fl a.mn a.tm)

/-- A stand takes an effect: the next stand, the auditor, the error. -/
def stepS (s : Nat) (a : AS) (e : Eff) : Nat × AS × Int :=
  match s with
  | 0 => if e.k = 0 then (if e.ok then (1, { a with fl := e.fl, mn := e.mn, tm := e.tm }, 0) else (6, { a with ov := true }, 0)) else (0, a, 11)
  | 1 => if setErr e.k e.fl e.mn e.tm (rawFl a.fl) 1 0 = 0 then (if e.ok then (2, a, 0) else (5, a, 0)) else (0, a, setErr e.k e.fl e.mn e.tm (rawFl a.fl) 1 0)
  | 2 => if isStart e then (3, a, 0) else (0, a, 11)
  | 3 => if isStop e then (4, a, 0) else if isStart e || e.k == 0 || e.k == 1 then (0, a, 11) else (3, a, 0)
  | 4 => if e.k == 2 then (if isStart e || isStop e then (0, a, 11) else (4, a, 0)) else lastS a e
  | 5 => lastS a e
  | _ => (0, a, 11)

/-- An effect is counted. -/
def countS (a : AS) (e : Eff) : AS :=
  if e.k == 2 then { a with wr := wrap64 (a.wr + 1), out := wrap64 (a.out + pos e.n), be := if decide (e.l = [7]) then wrap64 (a.be + 1) else a.be }
  else if e.k == 3 then { a with rd := wrap64 (a.rd + 1), inn := wrap64 (a.inn + pos e.n) }
  else if e.k == 4 then { a with sg := wrap64 (a.sg + 1) } else a

theorem step_c (s : Nat) (hs : s ≤ 6) (a : AS) (e : Eff) (b : Nat) (w : World) (ha : AudS w b a) (hA : BytesAt w e.A e.l) :
    Calls Try.prog (fnOf s) #[.pointer (some ⟨b, 0, none⟩), .agg e.cells] w fun x w' => ∃ v, x = .returned (.tuple #[v, .int .i64 (stepS s a e).2.2]) ∧
      ((stepS s a e).2.2 = 0 → v = stV b (fnOf (stepS s a e).1) ∧ (stepS s a e).1 ≤ 6 ∧ AudS w' b (stepS s a e).2.1) ∧ But [b] w w' := by
  have hlt : b < w.heap.size := Blk.lt ha
  have keep : ∀ {w'}, Below w.heap.size w w' → AudS w' b a ∧ But [b] w w' := fun hb => ⟨Blk.but ha (But.of_below (S := []) hb) (by simp), But.of_below hb⟩
  match s, hs with
  | 0, _ =>
    refine (first1 b e.k e.fl e.mn e.tm e.d e.n e.ok _ _ _ _ _ _ _ _ _ _ _ w ha).mono fun x w' ⟨h, hb⟩ => ?_
    unfold stepS
    by_cases hk : e.k = 0
    · simp only [hk, ↓reduceIte] at h ⊢
      cases ho : e.ok <;> simp only [ho, ↓reduceIte, Bool.false_eq_true] at h ⊢
      · exact ⟨_, h.1, fun _ => ⟨rfl, by simp, h.2⟩, hb⟩
      · exact ⟨_, h.1, fun _ => ⟨rfl, by simp, h.2⟩, hb⟩
    · simp only [hk, ↓reduceIte] at h ⊢
      exact ⟨_, h, fun h0 => absurd h0 (by simp), hb⟩
  | 1, _ =>
    refine (raw1 b e.k e.fl e.mn e.tm e.d e.n e.ok _ _ _ _ _ _ _ _ _ _ _ w ha _ rfl).mono fun x w' ⟨h, hb⟩ => ?_
    unfold stepS
    by_cases hk : setErr e.k e.fl e.mn e.tm (rawFl a.fl) 1 0 = 0
    · simp only [hk, ↓reduceIte, ne_eq, not_true_eq_false] at h ⊢
      cases ho : e.ok <;> simp only [ho, ↓reduceIte, Bool.false_eq_true] at h ⊢
      · exact ⟨_, h, fun _ => ⟨rfl, by simp, (keep hb).1⟩, (keep hb).2⟩
      · exact ⟨_, h, fun _ => ⟨rfl, by simp, (keep hb).1⟩, (keep hb).2⟩
    · simp only [hk, ↓reduceIte, ne_eq, not_false_eq_true] at h ⊢
      exact ⟨_, h, fun h0 => absurd h0 (by simp), (keep hb).2⟩
  | 2, _ =>
    refine (start1 b e.k e.fl e.mn e.tm e.A e.l e.cap e.d rfl e.n e.ok w hA (isStart e) rfl).mono fun x w' ⟨h, hb⟩ => ?_
    unfold stepS
    cases hq : isStart e <;> simp only [hq, ↓reduceIte, Bool.false_eq_true] at h ⊢
    · exact ⟨_, h, fun h0 => absurd h0 (by simp), (keep hb).2⟩
    · exact ⟨_, h, fun _ => ⟨rfl, by simp, (keep hb).1⟩, (keep hb).2⟩
  | 3, _ =>
    refine (on1 b e.k e.fl e.mn e.tm e.A e.l e.cap e.d rfl e.n e.ok w hA (isStop e) (isStart e) rfl rfl).mono fun x w' ⟨h, hb⟩ => ?_
    unfold stepS
    cases hq : isStop e <;> simp only [hq, ↓reduceIte, Bool.false_eq_true] at h ⊢
    · cases hq2 : (isStart e || e.k == 0 || e.k == 1) <;> simp only [hq2, ↓reduceIte, Bool.false_eq_true] at h ⊢
      · exact ⟨_, h, fun _ => ⟨rfl, by simp, (keep hb).1⟩, (keep hb).2⟩
      · exact ⟨_, h, fun h0 => absurd h0 (by simp), (keep hb).2⟩
    · exact ⟨_, h, fun _ => ⟨rfl, by simp, (keep hb).1⟩, (keep hb).2⟩
  | 4, _ =>
    unfold stepS
    cases hk : e.k == 2
    · simp only [Bool.false_eq_true, ↓reduceIte]
      refine (behind1 b e.k e.fl e.mn e.tm e.d e.n e.ok _ _ _ _ _ _ _ _ _ _ _ w ha _ rfl hk).mono fun x w' ⟨h, h1, hb⟩ => ?_
      exact ⟨_, h, fun _ => ⟨rfl, by simp [lastS], h1⟩, hb⟩
    · simp only [↓reduceIte]
      refine (behind2 b e.fl e.mn e.tm e.A e.l e.cap e.d rfl e.n e.ok w hA e.k (by simpa using hk) (isStop e) (isStart e) rfl rfl).mono fun x w' ⟨h, hb⟩ => ?_
      cases hq2 : (isStart e || isStop e) <;> simp only [hq2, ↓reduceIte, Bool.false_eq_true] at h ⊢
      · exact ⟨_, h, fun _ => ⟨rfl, by simp, (keep hb).1⟩, (keep hb).2⟩
      · exact ⟨_, h, fun h0 => absurd h0 (by simp), (keep hb).2⟩
  | 5, _ =>
    refine (last1 b e.k e.fl e.mn e.tm e.d e.n e.ok _ _ _ _ _ _ _ _ _ _ _ w ha _ rfl).mono fun x w' ⟨h, h1, hb⟩ => ?_
    exact ⟨_, h, fun _ => ⟨rfl, by simp [stepS, lastS], h1⟩, hb⟩
  | 6, _ =>
    refine (end1 _ e.k e.fl e.mn e.tm e.d e.n e.ok w).mono fun x w' ⟨h, hb⟩ => ?_
    exact ⟨_, h, fun h0 => absurd h0 (by simp [stepS]), (keep hb).2⟩

theorem count_c (a : AS) (e : Eff) (b : Nat) (w : World) (ha : AudS w b a) (hA : BytesAt w e.A e.l) (hAb : ∀ p, e.A = some p → e.l ≠ [] → p.block ≠ b) :
    Calls Try.prog 13 #[.pointer (some ⟨b, 0, none⟩), .agg e.cells] w fun x w' => x = .returned (.tuple #[]) ∧ AudS w' b (countS a e) ∧ But [b] w w' := by
  unfold countS
  cases h2 : e.k == 2
  · simp only [Bool.false_eq_true, ↓reduceIte]
    cases h3 : e.k == 3
    · simp only [Bool.false_eq_true, ↓reduceIte]
      cases h4 : e.k == 4
      · simp only [Bool.false_eq_true, ↓reduceIte]
        exact (count0 b e.k e.fl e.mn e.tm e.d e.n e.ok w h2 h3 h4).mono fun x w' ⟨h, hb⟩ => ⟨h, Blk.but ha (But.of_below (S := []) hb) (by simp), But.of_below hb⟩
      · simp only [↓reduceIte]
        have hk : e.k = 4 := by simpa using h4
        unfold Eff.cells
        rw [hk]
        exact count4 b e.fl e.mn e.tm e.d e.n e.ok _ _ _ _ _ _ _ _ _ _ _ w ha
    · simp only [↓reduceIte]
      have hk : e.k = 3 := by simpa using h3
      unfold Eff.cells
      rw [hk]
      exact count3 b e.fl e.mn e.tm e.d e.n e.ok _ _ _ _ _ _ _ _ _ _ _ w ha
  · simp only [↓reduceIte]
    have hk : e.k = 2 := by simpa using h2
    unfold Eff.cells
    rw [hk]
    exact count2 b e.fl e.mn e.tm e.A e.l e.cap e.d rfl e.n e.ok _ _ _ _ _ _ _ _ _ _ _ w ha hA hAb _ rfl _ rfl

end Go.Proofs.Ytbkdmceefefiaaa.Aud

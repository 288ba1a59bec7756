/- The document's step and check of an audit: they are the plain ones. -/
import Derived.Test.YtbkdmceefefiaaaAudR2
import Derived.LoopN
set_option linter.unusedVariables false
namespace Go.Proofs.Ytbkdmceefefiaaa.Aud
open Go.RowKit Go.Lib Mem Byt

def errS (s : Nat) (a : AS) (e : Eff) : Int := if kindErr e ≠ 0 then kindErr e else (stepS s a e).2.2

theorem rstep_c (s : Nat) (hs : s ≤ 6) (a : AS) (e : Eff) (sf sm st : Int) (hsv : 1 ≤ s → s ≤ 5 → sf = a.fl ∧ sm = a.mn ∧ st = a.tm) (hf : 0 ≤ sf ∧ sf < 4294967296) (w : World) (hA : BytesAt w e.A e.l) :
    ∃ v : Int, (errS s a e = 0 → v = ((stepS s a e).1 : Int)) ∧ Calls Try.prog 14 #[.int .i64 (s : Int), .agg e.cells, .agg #[.int .u32 sf, .int .u8 sm, .int .u8 st]] w fun x w' => x = .returned (.tuple #[.int .i64 v, .int .i64 (errS s a e)]) ∧ Below w.heap.size w w' := by
  obtain ⟨k, fl, mn, tm, A, l, c, n, ok⟩ := e
  simp only [Eff.cells, Eff.d] at hA ⊢
  unfold errS kindErr
  simp only []
  by_cases hneg : k < 0
  · have := rsneg k fl mn tm sf sm st n A l c ok s w hA (by simp; omega)
    exact ⟨0, by simp [hneg], by simpa [hneg] using this⟩
  by_cases hbig : 6 < k
  · have := rsbig k fl mn tm sf sm st n A l c ok s w hA (by simp; omega) (by simp; omega)
    exact ⟨0, by simp [hbig], by simpa [hbig] using this⟩
  by_cases h6 : k = 6
  · subst h6
    have := rshis fl mn tm sf sm st n A l c ok s w hA
    exact ⟨0, by simp, by simpa using this⟩
  have hor : ¬ (k < 0 ∨ 6 < k) := by omega
  rw [if_neg hor, if_neg h6, if_neg (by simp)]
  by_cases h2 : k = 2
  · subst h2
    have hS : isStart ⟨2, fl, mn, tm, A, l, c, n, ok⟩ = (l == [27, 91, 63, 50, 48, 48, 52, 104]) := by unfold isStart startB; rw [Bool.eq_iff_iff]; simp
    have hP : isStop ⟨2, fl, mn, tm, A, l, c, n, ok⟩ = (l == [27, 91, 63, 50, 48, 48, 52, 108]) := by unfold isStop stopB; rw [Bool.eq_iff_iff]; simp
    have hne : (2 : Int) ≠ 1 := by decide
    match s, hs with
    | 0, _ => exact ⟨0, by simp [stepS], by simpa [stepS] using rs0_2 fl mn tm sf sm st n A l c ok w hA⟩
    | 1, _ =>
      obtain ⟨rfl, rfl, rfl⟩ := hsv (by omega) (by omega)
      have := rs1_2 fl mn tm a.fl a.mn a.tm n A l c ok w hA _ rfl hf
      refine ⟨_, ?_, by simpa [stepS, setErr] using this⟩
      simp [stepS, setErr]
    | 2, _ =>
      cases q1 : (l == [27, 91, 63, 50, 48, 48, 52, 104])
      · exact ⟨0, by simp [stepS, hS, q1], by simpa [stepS, hS, q1] using rs2_n fl mn tm sf sm st n A l c ok w hA q1⟩
      · exact ⟨3, by simp [stepS, hS, q1], by simpa [stepS, hS, q1] using rs2_s fl mn tm sf sm st n A l c ok w hA q1⟩
    | 3, _ =>
      cases q2 : (l == [27, 91, 63, 50, 48, 48, 52, 108])
      · cases q1 : (l == [27, 91, 63, 50, 48, 48, 52, 104])
        · exact ⟨3, by simp [stepS, hS, q1, hP, q2], by simpa [stepS, hS, q1, hP, q2] using rs3_n fl mn tm sf sm st n A l c ok w hA q2 q1⟩
        · exact ⟨0, by simp [stepS, hS, q1, hP, q2], by simpa [stepS, hS, q1, hP, q2] using rs3_s fl mn tm sf sm st n A l c ok w hA q2 q1⟩
      · exact ⟨4, by simp [stepS, hP, q2], by simpa [stepS, hP, q2] using rs3_p fl mn tm sf sm st n A l c ok w hA q2⟩
    | 4, _ =>
      have hx : setErr 2 fl mn tm sf sm st = 11 := by simp [setErr]
      cases q1 : (l == [27, 91, 63, 50, 48, 48, 52, 104])
      · cases q2 : (l == [27, 91, 63, 50, 48, 48, 52, 108])
        · exact ⟨4, by simp [stepS, hS, q1, hP, q2], by simpa [stepS, hS, q1, hP, q2] using rs4_n fl mn tm sf sm st n A l c ok w hA q2 q1⟩
        · exact ⟨6, by simp [stepS, hS, q1, hP, q2], by simpa [stepS, hS, q1, hP, q2] using rs4_p fl mn tm sf sm st n A l c ok w hA q1 q2 11 hx⟩
      · exact ⟨6, by simp [stepS, hS, q1], by simpa [stepS, hS, q1] using rs4_s fl mn tm sf sm st n A l c ok w hA q1 11 hx⟩
    | 5, _ =>
      obtain ⟨rfl, rfl, rfl⟩ := hsv (by omega) (by omega)
      exact ⟨6, by simp [stepS, lastS], by simpa [stepS, lastS] using rs5_2 fl mn tm a.fl a.mn a.tm n A l c ok w hA _ rfl⟩
    | 6, _ => exact ⟨0, by simp [stepS], by simpa [stepS] using rs6_2 fl mn tm sf sm st n A l c ok w hA⟩
  · have g2 : (k == 2) = false := by simpa using h2
    have g0 : decide (k < 0) = false := by simp; omega
    have g7 : decide (6 < k) = false := by simp; omega
    have g6 : (k == 6) = false := by simpa using h6
    have hS : isStart ⟨k, fl, mn, tm, A, l, c, n, ok⟩ = false := by unfold isStart; simp [h2]
    have hP : isStop ⟨k, fl, mn, tm, A, l, c, n, ok⟩ = false := by unfold isStop; simp [h2]
    match s, hs with
    | 0, _ =>
      by_cases h0 : k = 0
      · subst h0
        cases ok
        · exact ⟨6, by simp [stepS], by simpa [stepS] using rs0_no fl mn tm sf sm st n A l c w hA⟩
        · exact ⟨1, by simp [stepS], by simpa [stepS] using rs0_ok fl mn tm sf sm st n A l c w hA⟩
      · exact ⟨0, by simp [stepS, h0], by simpa [stepS, h0] using rs0_g k fl mn tm sf sm st n A l c ok w hA g2 g0 g7 g6 (by simpa using h0)⟩
    | 1, _ =>
      obtain ⟨rfl, rfl, rfl⟩ := hsv (by omega) (by omega)
      have := rs1_g k fl mn tm a.fl a.mn a.tm n A l c ok w hA g2 g0 g7 g6 _ rfl hf
      by_cases hx : setErr k fl mn tm (rawFl a.fl) 1 0 = 0
      · cases ok
        · exact ⟨5, by simp [stepS, hx], by simpa [stepS, hx] using this⟩
        · exact ⟨2, by simp [stepS, hx], by simpa [stepS, hx] using this⟩
      · exact ⟨2, by simp [stepS, hx], by simpa [stepS, hx] using this⟩
    | 2, _ => exact ⟨0, by simp [stepS, hS], by simpa [stepS, hS] using rs2_g k fl mn tm sf sm st n A l c ok w hA g2 g0 g7 g6⟩
    | 3, _ =>
      by_cases h3 : 2 ≤ k
      · have i0 : ¬ k = 0 := by omega
        have i1 : ¬ k = 1 := by omega
        exact ⟨3, by simp [stepS, hS, hP, i0, i1], by simpa [stepS, hS, hP, i0, i1] using rs3_g k fl mn tm sf sm st n A l c ok w hA g2 g0 g7 g6 (by simpa using h3)⟩
      · have i0 : k = 0 ∨ k = 1 := by omega
        exact ⟨0, by simp [stepS, hS, hP, i0], by simpa [stepS, hS, hP, i0] using rs3_l k fl mn tm sf sm st n A l c ok w hA g2 g0 g7 g6 (by simpa using h3)⟩
    | 4, _ =>
      obtain ⟨rfl, rfl, rfl⟩ := hsv (by omega) (by omega)
      exact ⟨6, by simp [stepS, lastS, h2], by simpa [stepS, lastS, h2] using rs4_g k fl mn tm a.fl a.mn a.tm n A l c ok w hA g2 g0 g7 g6 _ rfl⟩
    | 5, _ =>
      obtain ⟨rfl, rfl, rfl⟩ := hsv (by omega) (by omega)
      exact ⟨6, by simp [stepS, lastS], by simpa [stepS, lastS] using rs5_g k fl mn tm a.fl a.mn a.tm n A l c ok w hA g2 g0 g7 g6 _ rfl⟩
    | 6, _ => exact ⟨0, by simp [stepS], by simpa [stepS] using rs6_g k fl mn tm sf sm st n A l c ok w hA g2 g0 g7 g6⟩

structure Facts (s : Nat) (a : AS) (e : Eff) (s' : Nat) (a' : AS) : Prop where
  s5 : s ≤ 5
  s1 : 1 ≤ s'
  s6 : s' ≤ 6
  wr : a'.wr = a.wr
  rd : a'.rd = a.rd
  sg : a'.sg = a.sg
  inn : a'.inn = a.inn
  out : a'.out = a.out
  be : a'.be = a.be
  ov : a'.ov = (s' == 6)
  rs : s' < 6 → a'.rs = false
  rs1 : e.k = 1 → a'.rs = ((s' == 6) && e.ok)
  rsn : e.k ≠ 1 → a'.rs = a.rs
  sv : s' ≤ 5 → (a'.fl = if s = 0 then e.fl else a.fl) ∧ (a'.mn = if s = 0 then e.mn else a.mn) ∧ (a'.tm = if s = 0 then e.tm else a.tm)

theorem stepS_facts (s : Nat) (hs : s ≤ 6) (a : AS) (e : Eff) (h0 : (stepS s a e).2.2 = 0) (hov : a.ov = (s == 6)) (hrs : s < 6 → a.rs = false) : Facts s a e (stepS s a e).1 (stepS s a e).2.1 := by
  match s, hs with
  | 0, _ =>
    have h := hrs (by omega)
    by_cases hk : e.k = 0
    · have hk1 : e.k ≠ 1 := by omega
      cases hok : e.ok <;> simp only [stepS, hk, hok, if_true, Bool.false_eq_true, if_false] at h0 ⊢ <;> constructor <;> simp_all
    · simp [stepS, hk] at h0
  | 1, _ =>
    have h := hrs (by omega)
    by_cases hx : setErr e.k e.fl e.mn e.tm (rawFl a.fl) 1 0 = 0
    · cases hok : e.ok <;> simp only [stepS, hx, hok, if_true, Bool.false_eq_true, if_false] at h0 ⊢ <;> constructor <;> simp_all
    · simp [stepS, hx] at h0
  | 2, _ =>
    have h := hrs (by omega)
    cases hq : isStart e
    · simp [stepS, hq] at h0
    · have hk1 : e.k ≠ 1 := by intro h; unfold isStart at hq; simp [h] at hq
      simp only [stepS, hq, if_true] at h0 ⊢
      constructor <;> simp_all
  | 3, _ =>
    have h := hrs (by omega)
    cases hq : isStop e
    · by_cases hc : (isStart e || e.k == 0 || e.k == 1) = true
      · simp [stepS, hq, hc] at h0
      · have hk1 : e.k ≠ 1 := by intro h; simp [h] at hc
        simp only [stepS, hq, hc, Bool.false_eq_true, if_false] at h0 ⊢
        constructor <;> simp_all
    · have hk1 : e.k ≠ 1 := by intro h; unfold isStop at hq; simp [h] at hq
      simp only [stepS, hq, if_true] at h0 ⊢
      constructor <;> simp_all
  | 4, _ =>
    have h := hrs (by omega)
    by_cases hk : e.k = 2
    · have hk1 : e.k ≠ 1 := by omega
      cases hc : (isStart e || isStop e)
      · simp only [stepS, hk, hc, Bool.false_eq_true, if_false, beq_self_eq_true, if_true] at h0 ⊢
        constructor <;> simp_all
      · simp [stepS, hk, hc] at h0
    · have hkb : (e.k == 2) = false := by simpa using hk
      simp only [stepS, hkb, lastS, Bool.false_eq_true, if_false] at h0 ⊢
      have hk1 : e.k = 1 := by
        apply Classical.byContradiction; intro hn
        unfold setErr at h0; simp [hn] at h0
      constructor <;> simp_all
  | 5, _ =>
    have h := hrs (by omega)
    simp only [stepS, lastS] at h0 ⊢
    have hk1 : e.k = 1 := by
      apply Classical.byContradiction; intro hn
      unfold setErr at h0; simp [hn] at h0
    constructor <;> simp_all
  | 6, _ => simp [stepS] at h0

end Go.Proofs.Ytbkdmceefefiaaa.Aud

/- Texts joined: Pl1; St6; St7; StD. -/
import Derived.Test.YtbflcikfaoojmaaDoorGL
import Derived.Test.YtbflcikfaoojmaaDoorGS1
import Derived.Test.YtbflcikfaoojmaaDoorHSt5
import Derived.Deep.CutBlock
import Derived.Deep.DeepCutAuto
/- A plan of any items, in memory; their order. -/
set_option linter.unusedVariables false
set_option linter.unusedSimpArgs false
namespace Go.Proofs.YtbflcikfaoojmaaDoor.Edit
open Go.RowKit Go.Lib Go.Shelf ChangeShapes Mem Utf UtfP

/-- an item, and where its bytes lie -/
structure It where
  t : Nat
  k : Int
  n : Int
  l : List UInt8
  A : Option Addr
  cap : Nat
def It.cells (x : It) : List Value := [.float .f64 x.t, .int .i64 x.k, .int .i64 x.n, .slice x.A x.l.length x.cap]
def cellsI (its : List It) : List Value := its.flatMap It.cells
theorem cellsI_length (l : List It) : (cellsI l).length = l.length * 4 := by
  induction l with
  | nil => rfl
  | cons x r ih =>
    have e : cellsI (x :: r) = .float .f64 x.t :: .int .i64 x.k :: .int .i64 x.n :: .slice x.A x.l.length x.cap :: cellsI r := rfl
    rw [e, List.length_cons, List.length_cons, List.length_cons, List.length_cons, ih, List.length_cons]; omega
theorem cellsI_at : ∀ (l : List It) (j : Nat) (x : It), l[j]? = some x → (cellsI l)[j * 4]? = some (.float .f64 x.t) ∧ (cellsI l)[j * 4 + 1]? = some (.int .i64 x.k) ∧ (cellsI l)[j * 4 + 2]? = some (.int .i64 x.n) ∧ (cellsI l)[j * 4 + 3]? = some (.slice x.A x.l.length x.cap) := by
  intro l
  induction l with
  | nil => intro j k h; simp at h
  | cons x r ih =>
    intro j k h
    have e : cellsI (x :: r) = .float .f64 x.t :: .int .i64 x.k :: .int .i64 x.n :: .slice x.A x.l.length x.cap :: cellsI r := rfl
    rw [e]
    cases j with
    | zero => simp at h; subst h; exact ⟨rfl, rfl, rfl, rfl⟩
    | succ j =>
      have := ih j k (by simpa using h)
      rw [show (j + 1) * 4 = j * 4 + 1 + 1 + 1 + 1 by omega]
      exact this
theorem CellsAt.below {w w' : World} {A : Option Addr} {xs : List Value} (h : CellsAt w A xs) (hb : Below w.heap.size w w') : CellsAt w' A xs := by
  intro hx
  obtain ⟨b, off, rfl, h1, h2⟩ := h hx
  exact ⟨b, off, rfl, Nat.lt_of_lt_of_le h1 hb.size, fun j u hu => (hb.cell (p := ⟨b, off + j, none⟩) h1).trans (h2 j u hu)⟩
structure It.Ok (w : World) (x : It) : Prop where
  t : x.t < 18446744073709551616
  k : IntKind.i64.wrap x.k = x.k
  n : IntKind.i64.wrap x.n = x.n
  cap : x.l.length ≤ x.cap
  nil : x.A = none → x.l = [] ∧ x.cap = 0
  bytes : BytesAt w x.A x.l
theorem It.Ok.below {w w' : World} {x : It} (h : x.Ok w) (hb : Below w.heap.size w w') : x.Ok w' := ⟨h.t, h.k, h.n, h.cap, h.nil, h.bytes.below hb⟩
structure ItsAt (w : World) (B : Option Addr) (its : List It) : Prop where
  row : CellsAt w B (cellsI its)
  ok : ∀ x ∈ its, x.Ok w
theorem ItsAt.below {w w' : World} {B : Option Addr} {its : List It} (h : ItsAt w B its) (hb : Below w.heap.size w w') : ItsAt w' B its := ⟨CellsAt.below h.row hb, fun x hx => (h.ok x hx).below hb⟩
theorem ItsAt.at {w : World} {B : Option Addr} {its : List It} (h : ItsAt w B its) {j : Nat} {x : It} (hj : its[j]? = some x) : ∃ b off, B = some ⟨b, off, none⟩ ∧ b < w.heap.size ∧ w.cell? ⟨b, off + j * 4, none⟩ = some (.float .f64 x.t) ∧ w.cell? ⟨b, off + j * 4 + 1, none⟩ = some (.int .i64 x.k) ∧ w.cell? ⟨b, off + j * 4 + 2, none⟩ = some (.int .i64 x.n) ∧ w.cell? ⟨b, off + j * 4 + 3, none⟩ = some (.slice x.A x.l.length x.cap) := by
  obtain ⟨h0, h1, h2, h3⟩ := cellsI_at its j x hj
  obtain ⟨b, off, rfl, hb, hc⟩ := h.row (by intro he; rw [he] at h0; cases h0)
  exact ⟨b, off, rfl, hb, by exact hc _ _ h0, by rw [Nat.add_assoc]; exact hc _ _ h1, by rw [Nat.add_assoc]; exact hc _ _ h2, by rw [Nat.add_assoc]; exact hc _ _ h3⟩

structure Nums where
  l : List Int
  A : Option Addr
  cap : Nat
def Nums.v (x : Nums) : Value := .slice x.A x.l.length x.cap
structure Nums.Ok (w : World) (x : Nums) : Prop where
  row : CellsAt w x.A (x.l.map fun i => .int .i64 i)
  cap : x.l.length ≤ x.cap
  nil : x.A = none → x.l = [] ∧ x.cap = 0
  wrap : ∀ i ∈ x.l, IntKind.i64.wrap i = i
theorem Nums.Ok.below {w w' : World} {x : Nums} (h : x.Ok w) (hb : Below w.heap.size w w') : x.Ok w' := ⟨CellsAt.below h.row hb, h.cap, h.nil, h.wrap⟩
/-- a plan, and where it lies -/
structure Pl where
  a1 : Int
  a2 : Int
  a3 : Int
  its : List It
  B : Option Addr
  cap : Nat
  ws : Nums
  gs : Nums
  ss : Nums
def Pl.cs (p : Pl) : Array Value := #[.int .u32 p.a1, .int .u8 p.a2, .int .u8 p.a3, .slice p.B p.its.length p.cap, .slice p.ws.A p.ws.l.length p.ws.cap, .slice p.gs.A p.gs.l.length p.gs.cap, .slice p.ss.A p.ss.l.length p.ss.cap]
def Pl.v (p : Pl) : Value := .agg p.cs
structure Pl.Ok (w : World) (p : Pl) : Prop where
  its : ItsAt w p.B p.its
  cap : p.its.length ≤ p.cap
  nil : p.B = none → p.its = [] ∧ p.cap = 0
  ws : p.ws.Ok w
  gs : p.gs.Ok w
  ss : p.ss.Ok w
  a1 : IntKind.u32.wrap p.a1 = p.a1
  a2 : IntKind.u8.wrap p.a2 = p.a2
  a3 : IntKind.u8.wrap p.a3 = p.a3
theorem Pl.Ok.below {w w' : World} {p : Pl} (h : p.Ok w) (hb : Below w.heap.size w w') : p.Ok w' := ⟨h.its.below hb, h.cap, h.nil, h.ws.below hb, h.gs.below hb, h.ss.below hb, h.a1, h.a2, h.a3⟩

/-- an item's key, by its number -/
def ky (its : List It) (i : Int) : Int := (Fl.mkey ((its[i.toNat]?.map It.t).getD 0) : Int)
def Dm (its : List It) (i : Int) : Prop := 0 ≤ i ∧ i < (its.length : Int)
theorem Dm.get {its : List It} {i : Int} (h : Dm its i) : ∃ (j : Nat) (x : It), i = (j : Int) ∧ its[j]? = some x ∧ ky its i = (Fl.mkey x.t : Int) := by
  obtain ⟨h1, h2⟩ := h
  refine ⟨i.toNat, its[i.toNat]'(by omega), by omega, List.getElem?_eq_getElem (by omega), ?_⟩
  unfold ky
  rw [List.getElem?_eq_getElem (by omega)]
  rfl
/-- the items' numbers, as they come -/
def ordE (its : List It) : List Int := srtE (ky its) ((List.range its.length).map fun (i : Nat) => (i : Int))
theorem srt_mem (key : Int → Int) : ∀ (xs : List Int) (z : Int), z ∈ srtE key xs ↔ z ∈ xs := by
  refine snoc_ind ?_ ?_
  · intro z; exact Iff.rfl
  · intro xs x ih z
    rw [srt_append, srtE_one, mrg_mem key _ _ _ (Nat.le_refl _), ih, List.mem_append]
theorem ordE_len (its : List It) : (ordE its).length = its.length := by unfold ordE; rw [srtE_len]; simp
theorem ordE_mem {its : List It} {i : Int} : i ∈ ordE its ↔ Dm its i := by
  unfold ordE Dm
  rw [srt_mem]
  simp only [List.mem_map, List.mem_range]
  constructor
  · rintro ⟨j, h, rfl⟩; omega
  · rintro ⟨h1, h2⟩; exact ⟨i.toNat, by omega, by omega⟩

set_option maxRecDepth 100000 in
set_option maxHeartbeats 2000000 in
theorem order1_c (b bx n c off : Nat) (i j : Nat) (x y : It) (hx : x.t < 18446744073709551616) (hy : y.t < 18446744073709551616) (V : World) (hi : i < n) (hj : j < n) (c3 : V.cell? ⟨bx, 1 + 2, none⟩ = some (.slice (some ⟨b, off, none⟩) n c)) (ci : V.cell? ⟨b, off + i * 4, none⟩ = some (.float .f64 x.t)) (cj : V.cell? ⟨b, off + j * 4, none⟩ = some (.float .f64 y.t)) :
    Calls Tryd.prog 52 #[.int .i64 (i : Int), .int .i64 (j : Int), .pointer (some ⟨bx, 0, none⟩)] V fun e w' => e = .returned (.int .i64 (cv (Fl.mkey x.t) (Fl.mkey y.t))) ∧ ∃ m, w' = V.drewN m := by
  have H := Lib.hid (mcmp_c x.t y.t hx hy)
  have q1 : (i : Int) < (n : Int) := by omega
  have q2 : (j : Int) < (n : Int) := by omega
  clear hx hy
  go_enter Tryd.func52, Tryd.ntmps52
  go_wp2_with fail
  go_quiet (first | (go_at_call 53; exact Calls.quiet_of_same (H.out _)))
  go_wp2_with fail
  go_ret
  exact ⟨rfl, _, rfl⟩

end Go.Proofs.YtbflcikfaoojmaaDoor.Edit

/- The stable sort's merges of one number, walked. -/
set_option linter.unusedVariables false
set_option linter.unusedSimpArgs false
namespace Go.Proofs.YtbflcikfaoojmaaDoor.Edit
open Go.RowKit Go.Lib ChangeShapes Mem

section
variable (key : Int → Int)
/-- merged by a rotation alone -/
theorem mrgd_rot {F : Nat → Int} {a s m e b : Nat} (h1 : a ≤ s) (h2 : s ≤ m) (h3 : m ≤ e) (h4 : e ≤ b) (hp : (∀ x ∈ sg F a s, ∀ y ∈ sg F e b, ¬ key y < key x) ∧ (∀ x ∈ sg F s m, ∀ y ∈ sg F m e, key y < key x))
    (q1 : ∀ x ∈ sg F a s, ∀ y ∈ sg F m e, ¬ key y < key x) (q2 : ∀ x ∈ sg F s m, ∀ y ∈ sg F e b, ¬ key y < key x) : Mrgd key F (rotR F s m e) a m b := by
  refine ⟨?_, fun t ht => by unfold rotR; rw [if_neg (by omega), if_neg (by omega)]⟩
  rw [sym_split key h1 h2 h3 h4 hp.1 hp.2, mrg_end key q1, mrg_end key q2]
  rw [sg_append (rotR F s m e) (show a ≤ s by omega) (show s ≤ b by omega), sg_append (rotR F s m e) (show s ≤ s + (e - m) by omega) (show s + (e - m) ≤ b by omega), sg_append (rotR F s m e) (show s + (e - m) ≤ e by omega) h4, rot_lo (Nat.le_trans h1 (Nat.le_refl _)), rot_l h2 h3, rot_r h2 h3, rot_hi h2 h3]
  simp [List.append_assoc]
end
/-- one exchange up -/
theorem rot_up (F : Nat → Int) (a k : Nat) (hk : a ≤ k) (t : Nat) : (if t = k + 1 then rotR F a (a + 1) (k + 1) k else if t = k then rotR F a (a + 1) (k + 1) (k + 1) else rotR F a (a + 1) (k + 1) t) = rotR F a (a + 1) (k + 2) t := by
  have r1 : rotR F a (a + 1) (k + 1) k = F a := by
    unfold rotR
    rw [if_neg (by omega), if_pos (by omega)]; congr 1; omega
  have r2 : rotR F a (a + 1) (k + 1) (k + 1) = F (k + 1) := by unfold rotR; rw [if_neg (by omega), if_neg (by omega)]
  rw [r1, r2]
  by_cases h1 : t = k + 1
  · rw [if_pos h1]; unfold rotR; rw [if_neg (by omega), if_pos (by omega)]; congr 1; omega
  · rw [if_neg h1]
    by_cases h2 : t = k
    · rw [if_pos h2]; unfold rotR; rw [if_pos (by omega)]; congr 1; omega
    · rw [if_neg h2]
      unfold rotR
      by_cases h3 : a ≤ t ∧ t < k
      · rw [if_pos (by omega), if_pos (by omega)]
      · rw [if_neg (by omega), if_neg (by omega), if_neg (by omega), if_neg (by omega)]
theorem rot_triv (F : Nat → Int) (s m e : Nat) (h : s = m ∨ m = e) (h1 : s ≤ m) (h2 : m ≤ e) (t : Nat) : rotR F s m e t = F t := by
  unfold rotR
  by_cases h3 : s ≤ t ∧ t < s + (e - m)
  · rw [if_pos h3]; congr 1; omega
  · rw [if_neg h3]
    by_cases h4 : s + (e - m) ≤ t ∧ t < e
    · rw [if_pos h4]; congr 1; omega
    · rw [if_neg h4]

/-- the way up -/
def RU (w : World) (g nn : Nat) (F : Nat → Int) (a q : Nat) (s : Value) (wr : World) : Prop := ∃ k : Nat, s = .int .i64 (k : Int) ∧ a ≤ k ∧ k ≤ q ∧ Hid (IR wr g nn (rotR F a (a + 1) (k + 1))) ∧ Hid (But [g] w wr)
/-- a search's state -/
def RB (key : Int → Int) (w : World) (g nn : Nat) (F : Nat → Int) (lo hi : Nat) (P : Nat → Prop) (Q : Nat → Prop) (s t : Value) (wr : World) : Prop :=
  ∃ i j : Nat, s = .int .i64 (i : Int) ∧ t = .int .i64 (j : Int) ∧ lo ≤ i ∧ i ≤ j ∧ j ≤ hi ∧ Hid (P i) ∧ Hid (Q j) ∧ Hid (IR wr g nn F) ∧ Hid (But [g] w wr)

theorem one_ok (key : Int → Int) {F : Nat → Int} {a i b : Nat} (h1 : a + 1 ≤ i) (h2 : i ≤ b) (hlt : ∀ t, a + 1 ≤ t → t < i → key (F t) < key (F a)) (hge : ∀ t, i ≤ t → t < b → ¬ key (F t) < key (F a)) : Mrgd key F (rotR F a (a + 1) i) a (a + 1) b := by
  have hx : ∀ x, x ∈ sg F a (a + 1) → x = F a := by
    intro x hx
    rw [sg_one] at hx
    simpa using hx
  have hn : ∀ x, ¬ x ∈ sg F a a := by
    intro x hx
    rw [sg_nil] at hx
    cases hx
  refine mrgd_rot key (Nat.le_refl _) (by omega) h1 h2 ⟨fun x hx' => absurd hx' (hn x), fun x hx' y hy => ?_⟩ (fun x hx' => absurd hx' (hn x)) (fun x hx' y hy => ?_)
  · obtain ⟨u, u1, u2, rfl⟩ := sg_mem.1 hy
    rw [hx x hx']
    exact hlt u u1 u2
  · obtain ⟨u, u1, u2, rfl⟩ := sg_mem.1 hy
    rw [hx x hx']
    exact hge u u1 u2
/-- what a search has found out -/
def SLo (key : Int → Int) (F : Nat → Int) (m a i : Nat) : Prop := ∀ t, m ≤ t → t < i → key (F t) < key (F a)
def SHi (key : Int → Int) (F : Nat → Int) (b a j : Nat) : Prop := ∀ t, j ≤ t → t < b → ¬ key (F t) < key (F a)

set_option maxRecDepth 200000 in
set_option maxHeartbeats 4000000 in
theorem sym_one (key : Int → Int) (D : Int → Prop) (g nn cap : Nat) (F : Nat → Int) (a m b bx : Nat) (w : World) (h : IR w g nn F) (hD : ∀ t, t < nn → D (F t)) (ham : m = a + 1) (hmb : m < b) (hb : b ≤ nn) (hnn : nn ≤ 100000) (hr : Srt key (sg F m b)) (hC : CmpOk key D g bx w) :
    Calls Tryd.prog 68 #[.slice (some ⟨g, 0, none⟩) nn cap, .int .i64 (a : Int), .int .i64 (m : Int), .int .i64 (b : Int), cmpV bx] w fun e w' => (∃ u, e = .returned u) ∧ ∃ G, IR w' g nn G ∧ (∀ t, t < nn → D (G t)) ∧ Mrgd key F G a m b ∧ But [g] w w' := by
  have H := Lib.hid h
  have HD := Lib.hid hD
  have HC := Lib.hid hC
  have HR := Lib.hid hr
  have s1 : IntKind.i64.wrap ((m : Int) - (a : Int)) = 1 := by rw [IntWalk.i64_in _ (by omega)]; omega
  have HAM := Lib.hid ham
  have ham' : a < m := by omega
  clear h hD hC hr ham
  unfold cmpV
  go_enter Tryd.func68, Tryd.ntmps68
  go_wp2
  go_loopw [10, 11] (fun s t wr => RB key w g nn F m b (SLo key F m a) (SHi key F b a) s t wr) (fun s t _ => (RowKit.intOf t).toNat - (RowKit.intOf s).toNat)
  case atStart => exact ⟨m, b, rfl, rfl, Nat.le_refl _, by omega, Nat.le_refl _, fun t h1 h2 => by omega, fun t h1 h2 => by omega, H.out, But.refl _ _⟩
  case round =>
    obtain ⟨i, j, rfl, rfl, hi, hij, hj, HP, HQ, HI, HB⟩ := hrel
    by_cases hlt : i < j
    · have HLT := Lib.hid hlt
      have r1 : IntKind.i64.wrap ((i : Int) + (j : Int)) = ((i + j : Nat) : Int) := by rw [IntWalk.i64_in _ (by omega)]; omega
      obtain ⟨h, hh⟩ : ∃ h, (i + j) / 2 = h := ⟨_, rfl⟩
      have e1 : ((i : Int) + (j : Int)) / 2 = (h : Int) := by omega
      have hih : i ≤ h := by omega
      have hhj : h < j := by omega
      have x0 := HI.out.cell (t := h) (by omega)
      have x1 := HI.out.cell (t := a) (by omega)
      have hdx := HD.out h (by omega)
      have hdy := HD.out a (by omega)
      obtain ⟨gx, hgx⟩ : ∃ gx, F h = gx := ⟨_, rfl⟩
      obtain ⟨gy, hgy⟩ : ∃ gy, F a = gy := ⟨_, rfl⟩
      rw [hgx] at x0 hdx
      rw [hgy] at x1 hdy
      have HCC : Hid (∀ V, Hid (But [g] w V) → Calls Tryd.prog 52 #[.int .i64 gx, .int .i64 gy, .pointer (some ⟨bx, 0, none⟩)] V fun e w' => ∃ c : Int, e = .returned (.int .i64 c) ∧ (c < 0 ↔ key gx < key gy) ∧ Hid (But [g] w w') ∧ Hid (Below V.heap.size V w')) := fun V hV => (HC.out V gx gy hV.out hdx hdy).mono fun e w' ⟨c, h1, h2, h3⟩ => ⟨c, h1, h2, hV.out.trans (But.of_below h3), h3⟩
      have HX : Hid (∀ V, Hid (Below wr.heap.size wr V) → V.cell? ⟨g, h, none⟩ = some (.int .i64 gx) ∧ V.cell? ⟨g, a, none⟩ = some (.int .i64 gy)) := fun V hV => ⟨(hV.out.cell (p := ⟨g, h, none⟩) HI.out.lt).trans x0, (hV.out.cell (p := ⟨g, a, none⟩) HI.out.lt).trans x1⟩
      have HGX := Lib.hid hgx
      have HGY := Lib.hid hgy
      clear hgx hgy
      have hpn : h < nn := by omega
      have hqn : a < nn := by omega
      have m1 : (h : Int) < (nn : Int) := by omega
      have m2 : (a : Int) < (nn : Int) := by omega
      go_upto_region 5 with fail
      go_region_held3 (fun V => V.cell? ⟨g, h, none⟩ = some (.int .i64 gx) ∧ V.cell? ⟨g, a, none⟩ = some (.int .i64 gy))
        (first | (with_reducible assumption) | go_keep)
        (first
        | (go_at_call 52; (with_reducible refine (HCC.out _ ?_).mono ?_); (with_reducible exact st_drew HB); rintro e v1 ⟨c, rfl, hc, hbv, hbw⟩; have hbr : Hid (Below wr.heap.size wr v1) := Below.trans (Below.drew (Below.refl _ _)) hbw.out; obtain ⟨t0, t1⟩ := HX.out _ hbr))
      have HI1 := Lib.hid (HI.out.but (But.of_below (S := []) hbr.out) List.not_mem_nil)
      clear hc t0 t1 x0 x1 HX HCC
      by_cases hlk : key gx < key gy
      · have m4 : decide (key gx < key gy) = true := by simp [hlk]
        go_wp2_with fail
        go_roundw
        case rel =>
          refine ⟨h + 1, j, by go_num, rfl, by omega, by omega, hj, ?_, HQ.out, HI1.out, hbv.out⟩
          intro t h1 h2
          have := srt_le key HR.out h1 (show t ≤ h by omega) (by omega)
          rw [HGX.out] at this
          rw [HGY.out]
          omega
        case measure => simp [RowKit.intOf]; omega
      · have m4 : decide (key gx < key gy) = false := by simp; omega
        go_wp2_with fail
        go_roundw
        case rel =>
          refine ⟨i, h, rfl, rfl, hi, hih, by omega, HP.out, ?_, HI1.out, hbv.out⟩
          intro t h1 h2
          have := srt_le key HR.out (show m ≤ h by omega) h1 h2
          rw [HGX.out] at this
          rw [HGY.out]
          omega
        case measure => simp [RowKit.intOf]; omega
    · have hije : j = i := by omega
      subst hije
      have ham := HAM.out
      subst ham
      have HRES := Lib.hid (one_ok key (F := F) (a := a) (i := j) (b := b) hi hj HP.out HQ.out)
      have s2 : IntKind.i64.wrap ((j : Int) - 1) = ((j - 1 : Nat) : Int) := by rw [IntWalk.i64_in _ (by omega)]; omega
      obtain ⟨q, hq⟩ : ∃ q, j - 1 = q := ⟨_, rfl⟩
      rw [hq] at s2
      clear hlt HP HQ
      go_wp2_with fail
      go_loopw [13] (fun s wr2 => RU w g nn F a q s wr2) (fun s _ => q - (RowKit.intOf s).toNat)
      case atStart => exact ⟨a, rfl, Nat.le_refl _, by omega, HI.out.congr (fun t _ => (rot_triv F a (a + 1) (a + 1) (.inr rfl) (by omega) (Nat.le_refl _) t).symm), HB.out⟩
      case round =>
        obtain ⟨k, rfl, hak, hkq, HIk, HBk⟩ := hrel
        by_cases hkl : k < q
        · have HKL := Lib.hid hkl
          have x0 := HIk.out.cell (t := k) (by omega)
          have x1 := HIk.out.cell (t := k + 1) (by omega)
          have y0 := HIk.out.free k
          have y1 := HIk.out.free (k + 1)
          have q1 : rotR F a (a + 1) (k + 1) k = F a := by unfold rotR; rw [if_neg (by omega), if_pos (by omega)]; congr 1; omega
          have q2 : rotR F a (a + 1) (k + 1) (k + 1) = F (k + 1) := by unfold rotR; rw [if_neg (by omega), if_neg (by omega)]
          have HRU := Lib.hid (rot_up F a k hak)
          rw [q1] at x0
          rw [q2] at x1
          rw [q1, q2] at HRU
          obtain ⟨k1, hk1⟩ : ∃ k1, k + 1 = k1 := ⟨_, rfl⟩
          have s3 : IntKind.i64.wrap ((k : Int) + 1) = (k1 : Int) := by rw [IntWalk.i64_in _ (by omega)]; omega
          rw [hk1] at x1 y1 HRU
          have n1 : ¬ k = k1 := by omega
          have n2 : ¬ k1 = k := by omega
          have n3 : k < nn := by omega
          have n4 : k1 < nn := by omega
          have n5 : (k : Int) < (nn : Int) := by omega
          have n6 : (k1 : Int) < (nn : Int) := by omega
          go_wp2_with fail
          go_region
          all_goals go_wp2
          go_roundw
          case rel =>
            refine ⟨k1, rfl, by omega, by have := HKL.out; omega, ?_, ?_⟩
            · have h1 := (HIk.out.set k (F k1)).set k1 (F a)
              exact IR.congr (show IR _ g nn _ from h1) (fun t _ => by have := HRU.out t; rw [show k1 + 1 = k + 2 by omega, hk1]; exact this)
            · exact ((HBk.out.set (p := ⟨g, k, none⟩) (.inl (by simp)) _).set (p := ⟨g, k1, none⟩) (.inl (by simp)) _).drew
          case measure => have := HKL.out; simp [RowKit.intOf]; omega
        · have hkq' : k = q := by omega
          subst hkq'
          clear hkl
          go_wp2_with fail
          refine bodyPost_ret (results_none rfl _ _ _) rfl ?_
          refine ⟨⟨_, rfl⟩, rotR F a (a + 1) j, HIk.out.congr (fun t _ => by rw [show k + 1 = j by omega]), rot_dom HD.out (by omega) (by omega) (by omega), HRES.out, HBk.out⟩

end Go.Proofs.YtbflcikfaoojmaaDoor.Edit

/- The stable sort's merges with one number behind, walked. -/
set_option linter.unusedVariables false
set_option linter.unusedSimpArgs false
namespace Go.Proofs.YtbflcikfaoojmaaDoor.Edit
open Go.RowKit Go.Lib ChangeShapes Mem

def TLo (key : Int → Int) (F : Nat → Int) (a m i : Nat) : Prop := ∀ t, a ≤ t → t < i → ¬ key (F m) < key (F t)
def THi (key : Int → Int) (F : Nat → Int) (m j : Nat) : Prop := ∀ t, j ≤ t → t < m → key (F m) < key (F t)
/-- the way down -/
def RD (w : World) (g nn : Nat) (F : Nat → Int) (i m : Nat) (s : Value) (wr : World) : Prop := ∃ k : Nat, s = .int .i64 (k : Int) ∧ i ≤ k ∧ k ≤ m ∧ Hid (IR wr g nn (rotR F k m (m + 1))) ∧ Hid (But [g] w wr)

set_option maxRecDepth 200000 in
set_option maxHeartbeats 4000000 in
theorem sym_last (key : Int → Int) (D : Int → Prop) (g nn cap : Nat) (F : Nat → Int) (a m b bx : Nat) (w : World) (h : IR w g nn F) (hD : ∀ t, t < nn → D (F t)) (ham : a + 1 < m) (hmb : b = m + 1) (hb : b ≤ nn) (hnn : nn ≤ 100000) (hl : Srt key (sg F a m)) (hC : CmpOk key D g bx w) :
    Calls Tryd.prog 68 #[.slice (some ⟨g, 0, none⟩) nn cap, .int .i64 (a : Int), .int .i64 (m : Int), .int .i64 (b : Int), cmpV bx] w fun e w' => (∃ u, e = .returned u) ∧ ∃ G, IR w' g nn G ∧ (∀ t, t < nn → D (G t)) ∧ Mrgd key F G a m b ∧ But [g] w w' := by
  have H := Lib.hid h
  have HD := Lib.hid hD
  have HC := Lib.hid hC
  have HL := Lib.hid hl
  have s1 : IntKind.i64.wrap ((m : Int) - (a : Int)) = ((m - a : Nat) : Int) := by rw [IntWalk.i64_in _ (by omega)]; omega
  have s1' : (((m - a : Nat) : Int) == 1) = false := by simp; omega
  have s2 : IntKind.i64.wrap ((b : Int) - (m : Int)) = 1 := by rw [IntWalk.i64_in _ (by omega)]; omega
  have HBM := Lib.hid hmb
  have hmb' : m < b := by omega
  have hmn : m < nn := by omega
  obtain ⟨d, hd⟩ : ∃ d, m - a = d := ⟨_, rfl⟩
  rw [hd] at s1 s1'
  clear h hD hC hl hmb hd
  unfold cmpV
  go_enter Tryd.func68, Tryd.ntmps68
  go_wp2
  go_loopw [14, 15] (fun s t wr => RB key w g nn F a m (TLo key F a m) (THi key F m) s t wr) (fun s t _ => (RowKit.intOf t).toNat - (RowKit.intOf s).toNat)
  case atStart => exact ⟨a, m, rfl, rfl, Nat.le_refl _, by omega, Nat.le_refl _, fun t h1 h2 => by omega, fun t h1 h2 => by omega, H.out, But.refl _ _⟩
  case round =>
    obtain ⟨i, j, rfl, rfl, hi, hij, hj, HP, HQ, HI, HB⟩ := hrel
    by_cases hlt : i < j
    · have HLT := Lib.hid hlt
      have r1 : IntKind.i64.wrap ((i : Int) + (j : Int)) = ((i + j : Nat) : Int) := by rw [IntWalk.i64_in _ (by omega)]; omega
      obtain ⟨h, hh⟩ : ∃ h, (i + j) / 2 = h := ⟨_, rfl⟩
      have e1 : ((i : Int) + (j : Int)) / 2 = (h : Int) := by omega
      have hih : i ≤ h := by omega
      have hhj : h < j := by omega
      have x0 := HI.out.cell (t := m) (by omega)
      have x1 := HI.out.cell (t := h) (by omega)
      have hdx := HD.out m (by omega)
      have hdy := HD.out h (by omega)
      obtain ⟨gx, hgx⟩ : ∃ gx, F m = gx := ⟨_, rfl⟩
      obtain ⟨gy, hgy⟩ : ∃ gy, F h = gy := ⟨_, rfl⟩
      rw [hgx] at x0 hdx
      rw [hgy] at x1 hdy
      have HCC : Hid (∀ V, Hid (But [g] w V) → Calls Tryd.prog 52 #[.int .i64 gx, .int .i64 gy, .pointer (some ⟨bx, 0, none⟩)] V fun e w' => ∃ c : Int, e = .returned (.int .i64 c) ∧ (c < 0 ↔ key gx < key gy) ∧ Hid (But [g] w w') ∧ Hid (Below V.heap.size V w')) := fun V hV => (HC.out V gx gy hV.out hdx hdy).mono fun e w' ⟨c, h1, h2, h3⟩ => ⟨c, h1, h2, hV.out.trans (But.of_below h3), h3⟩
      have HX : Hid (∀ V, Hid (Below wr.heap.size wr V) → V.cell? ⟨g, m, none⟩ = some (.int .i64 gx) ∧ V.cell? ⟨g, h, none⟩ = some (.int .i64 gy)) := fun V hV => ⟨(hV.out.cell (p := ⟨g, m, none⟩) HI.out.lt).trans x0, (hV.out.cell (p := ⟨g, h, none⟩) HI.out.lt).trans x1⟩
      have HGX := Lib.hid hgx
      have HGY := Lib.hid hgy
      clear hgx hgy
      have hpn : m < nn := by omega
      have hqn : h < nn := by omega
      have m1 : (m : Int) < (nn : Int) := by omega
      have m2 : (h : Int) < (nn : Int) := by omega
      go_upto_region 17 with fail
      go_region_held3 (fun V => V.cell? ⟨g, m, none⟩ = some (.int .i64 gx) ∧ V.cell? ⟨g, h, none⟩ = some (.int .i64 gy))
        (first | (with_reducible assumption) | go_keep)
        (first
        | (go_at_call 52; (with_reducible refine (HCC.out _ ?_).mono ?_); (with_reducible exact st_drew HB); rintro e v1 ⟨c, rfl, hc, hbv, hbw⟩; have hbr : Hid (Below wr.heap.size wr v1) := Below.trans (Below.drew (Below.refl _ _)) hbw.out; obtain ⟨t0, t1⟩ := HX.out _ hbr))
      have HI1 := Lib.hid (HI.out.but (But.of_below (S := []) hbr.out) List.not_mem_nil)
      have HCI := Lib.hid hc
      clear hc t0 t1 x0 x1 HX HCC
      go_wp2_with fail
      · have hl0 : (!decide (key gx < key gy)) = true := by assumption
        have hlk : ¬ key gx < key gy := by simpa using hl0
        go_roundw
        case rel =>
          refine ⟨h + 1, j, by go_num, rfl, by omega, by omega, hj, ?_, HQ.out, HI1.out, hbv.out⟩
          intro t h1 h2
          have := srt_le key HL.out h1 (show t ≤ h by omega) (by omega)
          rw [HGY.out] at this
          rw [HGX.out]
          omega
        case measure => simp [RowKit.intOf]; omega
      · have hl0 : (!decide (key gx < key gy)) = false := by assumption
        have hlk : key gx < key gy := by simpa using hl0
        go_roundw
        case rel =>
          refine ⟨i, h, rfl, rfl, hi, hih, by omega, HP.out, ?_, HI1.out, hbv.out⟩
          intro t h1 h2
          have := srt_le key HL.out (show a ≤ h by omega) h1 h2
          rw [HGY.out] at this
          rw [HGX.out]
          omega
        case measure => simp [RowKit.intOf]; omega
    · have hije : j = i := by omega
      subst hije
      have hbm := HBM.out
      subst hbm
      have HRES := Lib.hid (ins_ok key (G := F) (a := a) (j := j) (i := m) hi hj HL.out HQ.out (fun h => by
        have := HP.out (j - 1) (by omega) (by omega)
        omega))
      clear hlt HP HQ
      go_wp2_with fail
      go_loopw [17] (fun s wr2 => RD w g nn F j m s wr2) (fun s _ => (RowKit.intOf s).toNat)
      case atStart => exact ⟨m, rfl, hj, Nat.le_refl _, HI.out.congr (fun t _ => (rot_same F m t).symm), HB.out⟩
      case round =>
        obtain ⟨k, rfl, hjk, hkm, HIk, HBk⟩ := hrel
        by_cases hkl : j < k
        · have HKL := Lib.hid hkl
          have x0 := HIk.out.cell (t := k) (by omega)
          have x1 := HIk.out.cell (t := k - 1) (by omega)
          have y0 := HIk.out.free k
          have y1 := HIk.out.free (k - 1)
          have q1 : rotR F k m (m + 1) k = F m := by unfold rotR; rw [if_pos (by omega)]; congr 1; omega
          have q2 : rotR F k m (m + 1) (k - 1) = F (k - 1) := by unfold rotR; rw [if_neg (by omega), if_neg (by omega)]
          have HRU := Lib.hid (rot_step F k m (by omega) hkm)
          rw [q1] at x0
          rw [q2] at x1
          rw [q1, q2] at HRU
          obtain ⟨k1, hk1⟩ : ∃ k1, k - 1 = k1 := ⟨_, rfl⟩
          have s3 : IntKind.i64.wrap ((k : Int) - 1) = (k1 : Int) := by rw [IntWalk.i64_in _ (by omega)]; omega
          rw [hk1] at x1 y1 HRU
          have n1 : ¬ k = k1 := by omega
          have n2 : ¬ k1 = k := by omega
          have n3 : k < nn := by omega
          have n4 : k1 < nn := by omega
          have n5 : (k : Int) < (nn : Int) := by omega
          have n6 : (k1 : Int) < (nn : Int) := by omega
          go_wp2_with fail
          go_region
          all_goals go_wp2
          go_roundw
          case rel =>
            refine ⟨k1, rfl, by have := HKL.out; omega, by omega, ?_, ?_⟩
            · have h1 := (HIk.out.set k (F k1)).set k1 (F m)
              exact IR.congr (show IR _ g nn _ from h1) (fun t _ => HRU.out t)
            · exact ((HBk.out.set (p := ⟨g, k, none⟩) (.inl (by simp)) _).set (p := ⟨g, k1, none⟩) (.inl (by simp)) _).drew
          case measure => have := HKL.out; simp [RowKit.intOf]; omega
        · have hkq' : k = j := by omega
          subst hkq'
          clear hkl
          go_wp2_with fail
          refine bodyPost_ret (results_none rfl _ _ _) rfl ?_
          exact ⟨⟨_, rfl⟩, rotR F k m (m + 1), HIk.out, rot_dom HD.out (by omega) (by omega) (by omega), HRES.out, HBk.out⟩

end Go.Proofs.YtbflcikfaoojmaaDoor.Edit

/- The stable sort's merges, walked. -/
set_option linter.unusedVariables false
set_option linter.unusedSimpArgs false
namespace Go.Proofs.YtbflcikfaoojmaaDoor.Edit
open Go.RowKit Go.Lib ChangeShapes Mem

section
variable (key : Int → Int)
theorem srt_first {F F1 : Nat → Int} {a s m e b mid : Nat} (h1 : a ≤ s) (h2 : s ≤ m) (h3 : m ≤ e) (h4 : e ≤ b) (hmid : mid = s + (e - m)) (hl : Srt key (sg F a m)) (hr : Srt key (sg F m b)) (hF : ∀ t, F1 t = rotR F s m e t) : Srt key (sg F1 a s) ∧ Srt key (sg F1 s mid) := by
  have : F1 = rotR F s m e := funext hF
  subst this
  subst hmid
  rw [rot_lo h1, rot_l h2 h3]
  rw [sg_append F h1 h2] at hl
  rw [sg_append F h3 h4] at hr
  exact ⟨(srt_app key hl).1, (srt_app key hr).1⟩
theorem srt_next {F F1 G1 : Nat → Int} {a s m e b mid : Nat} (h1 : a ≤ s) (h2 : s ≤ m) (h3 : m ≤ e) (h4 : e ≤ b) (hmid : mid = s + (e - m)) (hl : Srt key (sg F a m)) (hr : Srt key (sg F m b)) (hF : ∀ t, F1 t = rotR F s m e t) (hM : Mrgd key F1 G1 a s mid) : Srt key (sg G1 mid e) ∧ Srt key (sg G1 e b) := by
  have : F1 = rotR F s m e := funext hF
  subst this
  subst hmid
  rw [sg_congr (F := G1) (G := rotR F s m e) (fun t t1 t2 => hM.2 t (.inr t1)), sg_congr (F := G1) (G := rotR F s m e) (a := e) (b := b) (fun t t1 t2 => hM.2 t (.inr (by omega))), rot_r h2 h3, rot_hi h2 h3]
  rw [sg_append F h1 h2] at hl
  rw [sg_append F h3 h4] at hr
  exact ⟨(srt_app key hl).2, (srt_app key hr).2⟩
end

theorem sc1 {a j m e b mid : Nat} (h1 : a ≤ j) (h2 : j ≤ m) (h3 : m ≤ e) (h4 : e ≤ b) (hmid : mid = j + (e - m)) (hx : mid < m) (hma : a < mid) (hmb : mid < b) (ham : a < m) (hmbb : m < b) : ((j < m ∧ m < e) ∧ ((a < j ∧ j < mid) ∨ a = j) ∧ mid < e ∧ (e < b ∨ e = b)) ∨ (j < m ∧ m = e ∧ a < j ∧ j = mid ∧ mid < e ∧ e < b) := by
  by_cases x : m = e
  · subst x
    by_cases y : m = b
    · subst y
      left; omega
    · right; omega
  · left; omega
theorem sc2 {a j m e b mid : Nat} (h1 : a ≤ j) (h2 : j ≤ m) (h3 : m ≤ e) (h4 : e ≤ b) (hmid : mid = j + (e - m)) (hx : ¬ mid < m) (hma : a < mid) (hmb : mid < b) (ham : a < m) (hmbb : m < b) : ((j < m ∧ m < e) ∧ ((a < j ∧ j < mid) ∨ a = j) ∧ mid < e ∧ (e < b ∨ e = b)) ∨ (j = m ∧ mid = e ∧ ((a < j ∧ j < mid) ∨ (a < j ∧ j = mid))) := by
  by_cases x : j = m
  · right; omega
  · left; omega
def SymPost (key : Int → Int) (D : Int → Prop) (g nn : Nat) (F : Nat → Int) (a m b : Nat) (w : World) (e : Ending) (w' : World) : Prop := (∃ u, e = .returned u) ∧ ∃ G, IR w' g nn G ∧ (∀ t, t < nn → D (G t)) ∧ Mrgd key F G a m b ∧ But [g] w w'
def Prt (key : Int → Int) (F : Nat → Int) (a s m e b : Nat) : Prop := (∀ x ∈ sg F a s, ∀ y ∈ sg F e b, ¬ key y < key x) ∧ (∀ x ∈ sg F s m, ∀ y ∈ sg F m e, key y < key x)
def ULo (key : Int → Int) (F : Nat → Int) (st0 p s : Nat) : Prop := st0 < s → key (F (s - 1)) ≤ key (F (p - (s - 1)))
def UHi (key : Int → Int) (F : Nat → Int) (r0 p r : Nat) : Prop := r < r0 → key (F (p - r)) < key (F r)

end Go.Proofs.YtbflcikfaoojmaaDoor.Edit

/-
  Laws of the matrices: exact rational rotations inside the intervals; lengths, orthogonality.
-/
import Derived.Test.YtkekddbdbfdjeaaMd
import Derived.Test.YtkekddbdbfdjeaaPi
import Derived.Test.YtkekddbdbfdjeaaNr
namespace Go.RX
open Go

/-- The interval x holds n / d, and this is at most A. -/
def In (x : Int × Int) (n d A : Int) : Prop := vld x = true ∧ 0 < d ∧ x.1 * d ≤ n ∧ n ≤ x.2 * d ∧ -(A * d) ≤ n ∧ n ≤ A * d

theorem in_lim {lo hi n d A : Int} (hd : 0 < d) (h1 : lo * d ≤ n) (h2 : n ≤ hi * d) (hA : A ≤ 2147483648) (b1 : -(A * d) ≤ n) (b2 : n ≤ A * d) : In (lim lo, lim hi) n d A := by
  have hA0 : 0 ≤ A := by
    rcases Int.lt_or_le A 0 with h | h
    · have : A * d < 0 := Int.mul_neg_of_neg_of_pos h hd
      omega
    · exact h
  have e1 : (2147483648 : Int) * d ≥ A * d := Int.mul_le_mul_of_nonneg_right hA (by omega)
  have hle : lo ≤ hi := by
    have : lo * d ≤ hi * d := by omega
    exact Int.le_of_mul_le_mul_right this hd
  have l1 := lim_bd lo
  have l2 := lim_bd hi
  refine ⟨vld_mk l1.1 (lim_mono hle) l2.2, hd, ?_, ?_, b1, b2⟩
  · dsimp only
    unfold lim
    rcases Int.le_total lo 2147483648 with h | h
    · rw [Int.min_eq_left h]
      rcases Int.le_total (-2147483648) lo with k | k
      · rw [Int.max_eq_right k]; exact h1
      · rw [Int.max_eq_left k]; omega
    · have : 2147483648 * d ≤ lo * d := Int.mul_le_mul_of_nonneg_right h (by omega)
      rw [Int.min_eq_right h, Int.max_eq_right (by decide)]; omega
  · dsimp only
    unfold lim
    rcases Int.le_total hi 2147483648 with h | h
    · rw [Int.min_eq_left h]
      rcases Int.le_total (-2147483648) hi with k | k
      · rw [Int.max_eq_right k]; exact h2
      · have : hi * d ≤ -2147483648 * d := Int.mul_le_mul_of_nonneg_right k (by omega)
        rw [Int.max_eq_left k]; omega
    · rw [Int.min_eq_right h, Int.max_eq_right (by decide)]; omega

theorem in_add {x y : Int × Int} {n m d A B : Int} (hx : In x n d A) (hy : In y m d B) (hAB : A + B ≤ 2147483648) : In (addI x y) (n + m) d (A + B) := by
  obtain ⟨v1, hd, h1, h2, h3, h4⟩ := hx
  obtain ⟨v2, _, k1, k2, k3, k4⟩ := hy
  unfold addI
  rw [v1, v2]
  exact in_lim hd (by rw [Int.add_mul]; omega) (by rw [Int.add_mul]; omega) hAB (by rw [Int.add_mul]; omega) (by rw [Int.add_mul]; omega)

theorem in_mul {x y : Int × Int} {n m d e A B C : Int} (hx : In x n d A) (hy : In y m e B) (hA : 0 ≤ A) (hB : 0 ≤ B) (hC : A * B ≤ 65536 * C) (hC2 : C ≤ 2147483648) : In (mulI x y) (n * m) (65536 * (d * e)) C := by
  obtain ⟨v1, hd, h1, h2, h3, h4⟩ := hx
  obtain ⟨v2, he, k1, k2, k3, k4⟩ := hy
  have hde : 0 < d * e := Int.mul_pos hd he
  have sc : ∀ p q : Int, p * d * (q * e) = p * q * (d * e) := by intro p q; grind
  have up : ∀ p q : Int, p ≤ q → p * (d * e) ≤ q * (d * e) := fun p q h => Int.mul_le_mul_of_nonneg_right h (by omega)
  have hb := mul_box (x := n) (y := m) (p := x.1 * d) (q := x.2 * d) (r := y.1 * e) (t := y.2 * e)
    (lo := mn4 (x.1 * y.1) (x.1 * y.2) (x.2 * y.1) (x.2 * y.2) * (d * e)) (hi := mx4 (x.1 * y.1) (x.1 * y.2) (x.2 * y.1) (x.2 * y.2) * (d * e)) h1 h2 k1 k2
    (by rw [sc]; exact up _ _ (by unfold mn4; omega)) (by rw [sc]; exact up _ _ (by unfold mn4; omega)) (by rw [sc]; exact up _ _ (by unfold mn4; omega)) (by rw [sc]; exact up _ _ (by unfold mn4; omega))
    (by rw [sc]; exact up _ _ (by unfold mx4; omega)) (by rw [sc]; exact up _ _ (by unfold mx4; omega)) (by rw [sc]; exact up _ _ (by unfold mx4; omega)) (by rw [sc]; exact up _ _ (by unfold mx4; omega))
  have ha := mul_bd (x := n) (y := m) (A := A * d) (B := B * e) h3 h4 k3 k4
  rw [sc] at ha
  have hc := up _ _ hC
  unfold mulI
  rw [v1, v2]
  simp only [Bool.and_true, cond_true]
  generalize mn4 (x.1 * y.1) (x.1 * y.2) (x.2 * y.1) (x.2 * y.2) = lo at *
  generalize mx4 (x.1 * y.1) (x.1 * y.2) (x.2 * y.1) (x.2 * y.2) = hi at *
  generalize n * m = z at *
  have f1 := up (lo / 65536 * 65536) lo (by omega)
  have f2 := up hi (-(-hi / 65536) * 65536) (by omega)
  refine in_lim (by omega) ?_ ?_ hC2 ?_ ?_
  · rw [← Int.mul_assoc]; omega
  · rw [← Int.mul_assoc]; omega
  · rw [← Int.mul_assoc, Int.mul_comm C]; omega
  · rw [← Int.mul_assoc, Int.mul_comm C]; omega

theorem in_scale {x : Int × Int} {n d A k : Int} (hk : 0 < k) (h : In x (k * n) (k * d) A) : In x n d A := by
  obtain ⟨v, hd, h1, h2, h3, h4⟩ := h
  have c : ∀ a : Int, a * (k * d) = k * (a * d) := by intro a; grind
  rw [c] at h1 h2 h3 h4
  rw [← Int.mul_neg] at h3
  exact ⟨v, Int.pos_of_mul_pos_right hd hk, Int.le_of_mul_le_mul_left h1 hk, Int.le_of_mul_le_mul_left h2 hk, Int.le_of_mul_le_mul_left h3 hk, Int.le_of_mul_le_mul_left h4 hk⟩

theorem in_eq {x : Int × Int} {n m d e A : Int} (h : In x n d A) (hn : n = m) (hd : d = e) : In x m e A := by rw [← hn, ← hd]; exact h
theorem in_weak {x : Int × Int} {n d A B : Int} (h : In x n d A) (hAB : A ≤ B) : In x n d B := by
  obtain ⟨v, hd, h1, h2, h3, h4⟩ := h
  have := Int.mul_le_mul_of_nonneg_right hAB (Int.le_of_lt hd)
  exact ⟨v, hd, h1, h2, by omega, by omega⟩
theorem in_bd {x : Int × Int} {n d A B : Int} (h : In x n d A) (h1 : -(B * d) ≤ n) (h2 : n ≤ B * d) : In x n d B := ⟨h.1, h.2.1, h.2.2.1, h.2.2.2.1, h1, h2⟩

theorem in_cl {x : Int × Int} {n d : Int} (h : In x n d 65536) : In (cl x) n d 65536 := by
  obtain ⟨v, hd, h1, h2, h3, h4⟩ := h
  have hv := vld_bd v
  unfold cl cl1
  refine ⟨vld_mk (by dsimp only; omega) (by dsimp only; omega) (by dsimp only; omega), hd, ?_, ?_, h3, h4⟩
  · dsimp only
    rcases Int.le_total x.1 65536 with h | h
    · rw [Int.min_eq_left h]
      rcases Int.le_total (-65536) x.1 with k | k
      · rw [Int.max_eq_right k]; exact h1
      · rw [Int.max_eq_left k]; omega
    · have : 65536 * d ≤ x.1 * d := Int.mul_le_mul_of_nonneg_right h (by omega)
      rw [Int.min_eq_right h, Int.max_eq_right (by decide)]; omega
  · dsimp only
    rcases Int.le_total x.2 65536 with h | h
    · rw [Int.min_eq_left h]
      rcases Int.le_total (-65536) x.2 with k | k
      · rw [Int.max_eq_right k]; exact h2
      · have : x.2 * d ≤ -65536 * d := Int.mul_le_mul_of_nonneg_right k (by omega)
        rw [Int.max_eq_left k]; omega
    · rw [Int.min_eq_right h, Int.max_eq_right (by decide)]; omega

theorem in_neg {x : Int × Int} {n d A : Int} (h : In x n d A) : In (nega x) (-n) d A := by
  obtain ⟨v, hd, h1, h2, h3, h4⟩ := h
  have hv := vld_bd v
  unfold nega
  rw [v]
  exact ⟨vld_mk (by dsimp only [cond_true]; omega) (by dsimp only [cond_true]; omega) (by dsimp only [cond_true]; omega), hd, by dsimp only [cond_true]; rw [Int.neg_mul]; omega, by dsimp only [cond_true]; rw [Int.neg_mul]; omega, by omega, by omega⟩

theorem in_pt {t d A : Int} (hd : 0 < d) (hA : A ≤ 2147483648) (h1 : -A ≤ t) (h2 : t ≤ A) : In (t, t) (t * d) d A := by
  have a := Int.mul_le_mul_of_nonneg_right h1 (Int.le_of_lt hd)
  have b := Int.mul_le_mul_of_nonneg_right h2 (Int.le_of_lt hd)
  rw [Int.neg_mul] at a
  exact ⟨vld_mk (by dsimp only; omega) (Int.le_refl _) (by dsimp only; omega), hd, Int.le_refl _, Int.le_refl _, a, b⟩

/- EXACT ROTATIONS -/

abbrev E3 := Int × (Int × Int)
abbrev X3 := E3 × (E3 × E3)
def dotE (x y : E3) : Int := x.1 * y.1 + x.2.1 * y.2.1 + x.2.2 * y.2.2
def trE (m : X3) : X3 := ((m.1.1, (m.2.1.1, m.2.2.1)), ((m.1.2.1, (m.2.1.2.1, m.2.2.2.1)), (m.1.2.2, (m.2.1.2.2, m.2.2.2.2))))
def apE (m : X3) (v : E3) : E3 := (dotE m.1 v, (dotE m.2.1 v, dotE m.2.2 v))
def muE (a b : X3) : X3 := (apE (trE b) a.1, (apE (trE b) a.2.1, apE (trE b) a.2.2))
def inV (v : V3) (e : E3) (d A : Int) : Prop := In v.1 e.1 d A ∧ In v.2.1 e.2.1 d A ∧ In v.2.2 e.2.2 d A
def inM (m : M3) (e : X3) (d A : Int) : Prop := inV m.1 e.1 d A ∧ inV m.2.1 e.2.1 d A ∧ inV m.2.2 e.2.2 d A
/-- Rows of length d that stand upright on each other. -/
def orth (e : X3) (d : Int) : Prop := dotE e.1 e.1 = d * d ∧ dotE e.2.1 e.2.1 = d * d ∧ dotE e.2.2 e.2.2 = d * d ∧ dotE e.1 e.2.1 = 0 ∧ dotE e.1 e.2.2 = 0 ∧ dotE e.2.1 e.2.2 = 0
def rotE (e : X3) (d : Int) : Prop := orth e d ∧ orth (trE e) d

theorem dotE_comm (x y : E3) : dotE x y = dotE y x := by unfold dotE; rw [Int.mul_comm x.1, Int.mul_comm x.2.1, Int.mul_comm x.2.2]

theorem in_dot {x y : V3} {e f : E3} {d d' A B C : Int} (hx : inV x e d A) (hy : inV y f d' B) (hA : 0 ≤ A) (hB : 0 ≤ B) (hC : A * B ≤ 65536 * C) (hC2 : C + C + C ≤ 2147483648) (hC0 : 0 ≤ C) :
    In (dotI x y) (dotE e f) (65536 * (d * d')) (C + C + C) :=
  in_add (in_add (in_mul hx.1 hy.1 hA hB hC (by omega)) (in_mul hx.2.1 hy.2.1 hA hB hC (by omega)) (by omega)) (in_mul hx.2.2 hy.2.2 hA hB hC (by omega)) hC2

/-- Combinations of rows that stand upright on each other. -/
theorem comb (e : X3) {d : Int} (h : orth e d) (x y : E3) : dotE (apE (trE e) x) (apE (trE e) y) = d * d * dotE x y := by
  obtain ⟨h1, h2, h3, h4, h5, h6⟩ := h
  have : dotE (apE (trE e) x) (apE (trE e) y) = x.1 * y.1 * dotE e.1 e.1 + x.2.1 * y.2.1 * dotE e.2.1 e.2.1 + x.2.2 * y.2.2 * dotE e.2.2 e.2.2 + (x.1 * y.2.1 + x.2.1 * y.1) * dotE e.1 e.2.1
      + (x.1 * y.2.2 + x.2.2 * y.1) * dotE e.1 e.2.2 + (x.2.1 * y.2.2 + x.2.2 * y.2.1) * dotE e.2.1 e.2.2 := by
    obtain ⟨⟨a, b, c⟩, ⟨p, q, r⟩, ⟨u, v, w⟩⟩ := e
    obtain ⟨x1, x2, x3⟩ := x
    obtain ⟨y1, y2, y3⟩ := y
    simp only [dotE, apE, trE]
    grind
  rw [this, h1, h2, h3, h4, h5, h6]
  unfold dotE
  grind

theorem trE_mu (a b : X3) : trE (muE a b) = muE (trE b) (trE a) := by
  obtain ⟨⟨a1, a2, a3⟩, ⟨a4, a5, a6⟩, ⟨a7, a8, a9⟩⟩ := a
  obtain ⟨⟨b1, b2, b3⟩, ⟨b4, b5, b6⟩, ⟨b7, b8, b9⟩⟩ := b
  simp only [trE, muE, apE, dotE, Prod.mk.injEq]
  grind

theorem orth_mu {a b : X3} {d e : Int} (ha : orth a d) (hb : orth b e) : orth (muE a b) (d * e) := by
  obtain ⟨h1, h2, h3, h4, h5, h6⟩ := ha
  have s : d * e * (d * e) = e * e * (d * d) := by grind
  unfold orth muE
  simp only [comb b hb, h1, h2, h3, h4, h5, h6, s, Int.mul_zero, and_self]

theorem rot_mu {a b : X3} {d e : Int} (ha : rotE a d) (hb : rotE b e) : rotE (muE a b) (d * e) := by
  refine ⟨orth_mu ha.1 hb.1, ?_⟩
  rw [trE_mu, Int.mul_comm]
  exact orth_mu hb.2 ha.2

theorem sq_at {x d : Int} (h : x * x ≤ d * d) (hd : 0 ≤ d) : -d ≤ x ∧ x ≤ d := by
  have a := sq_le h hd
  have b := sq_le (t := -x) (by rw [Int.neg_mul_neg]; exact h) hd
  omega
theorem sq_nn (x : Int) : 0 ≤ x * x := by
  rcases Int.le_total 0 x with h | h
  · exact Int.mul_nonneg h h
  · have := Int.mul_nonneg (a := -x) (b := -x) (by omega) (by omega)
    rwa [Int.neg_mul_neg] at this
theorem row_bd {x : E3} {d : Int} (h : dotE x x = d * d) (hd : 0 ≤ d) : (-d ≤ x.1 ∧ x.1 ≤ d) ∧ (-d ≤ x.2.1 ∧ x.2.1 ≤ d) ∧ (-d ≤ x.2.2 ∧ x.2.2 ≤ d) := by
  have a := sq_nn x.1
  have b := sq_nn x.2.1
  have c := sq_nn x.2.2
  unfold dotE at h
  exact ⟨sq_at (by omega) hd, sq_at (by omega) hd, sq_at (by omega) hd⟩

def sc (k : Int) (e : E3) : E3 := (k * e.1, (k * e.2.1, k * e.2.2))
def scM (k : Int) (e : X3) : X3 := (sc k e.1, (sc k e.2.1, sc k e.2.2))
theorem dot_sc (k l : Int) (x y : E3) : dotE (sc k x) (sc l y) = k * l * dotE x y := by unfold dotE sc; grind

/-- A matrix of intervals with a rotation in it. -/
def Rt (m : M3) (e : X3) (d : Int) : Prop := 0 < d ∧ rotE e d ∧ inM m (scM 65536 e) d 65536

theorem tr_in {m : M3} {e : X3} {d A : Int} (h : inM m e d A) : inM (trn m) (trE e) d A :=
  ⟨⟨h.1.1, h.2.1.1, h.2.2.1⟩, ⟨h.1.2.1, h.2.1.2.1, h.2.2.2.1⟩, ⟨h.1.2.2, h.2.1.2.2, h.2.2.2.2⟩⟩
theorem rt_tr {m : M3} {e : X3} {d : Int} (h : Rt m e d) : Rt (trn m) (trE e) d := ⟨h.1, ⟨h.2.1.2, h.2.1.1⟩, tr_in h.2.2⟩

theorem in_unit {x y : V3} {e f : E3} {d d' : Int} (hx : inV x (sc 65536 e) d 65536) (hy : inV y (sc 65536 f) d' 65536) : In (dotI x y) (65536 * dotE e f) (d * d') 196608 := by
  have h := in_dot hx hy (C := 65536) (by decide) (by decide) (by decide) (by decide) (by decide)
  rw [dot_sc] at h
  refine in_scale (k := 65536) (by decide) (in_eq h ?_ rfl)
  rw [Int.mul_assoc]

theorem row_in {x : V3} {t : M3} {e : E3} {f : X3} {d d' : Int} (hx : inV x (sc 65536 e) d 65536) (ht : inM t (scM 65536 f) d' 65536) (hd : 0 ≤ d * d') (hr : dotE (apE f e) (apE f e) = d * d' * (d * d')) :
    inV (rowM x t) (sc 65536 (apE f e)) (d * d') 65536 := by
  obtain ⟨b1, b2, b3⟩ := row_bd hr hd
  have h1 := in_unit hx ht.1
  have h2 := in_unit hx ht.2.1
  have h3 := in_unit hx ht.2.2
  rw [dotE_comm] at h1 h2 h3
  have g : ∀ {z n : Int}, -n ≤ z ∧ z ≤ n → -(65536 * n) ≤ 65536 * z ∧ 65536 * z ≤ 65536 * n := fun h => by omega
  exact ⟨in_cl (in_bd h1 (g b1).1 (g b1).2), in_cl (in_bd h2 (g b2).1 (g b2).2), in_cl (in_bd h3 (g b3).1 (g b3).2)⟩

theorem rt_comp {a b : M3} {e f : X3} {d d' : Int} (ha : Rt a e d) (hb : Rt b f d') : Rt (compM a b) (muE e f) (d * d') := by
  obtain ⟨hd, re, ia⟩ := ha
  obtain ⟨hd', rf, ib⟩ := hb
  have hp := Int.mul_pos hd hd'
  have hr := rot_mu re rf
  have ht : inM (trn b) (scM 65536 (trE f)) d' 65536 := tr_in ib
  exact ⟨hp, hr, row_in ia.1 ht (Int.le_of_lt hp) hr.1.1, row_in ia.2.1 ht (Int.le_of_lt hp) hr.1.2.1, row_in ia.2.2 ht (Int.le_of_lt hp) hr.1.2.2.1⟩

/- A ROTATION ABOUT AN AXIS -/

theorem exact0 (r : Nat) (hr : r ≤ 16384) : ∃ c s d : Int, 0 < d ∧ c * c + s * s = d * d ∧ In (pos (qN r)) (65536 * s) d 65536 ∧ In (pos (qN (16384 - r))) (65536 * c) d 65536 := by
  rcases Nat.lt_or_ge r 16384 with h | h
  · obtain ⟨n, hn⟩ := rat_ex h
    unfold ratAt holdsN at hn
    simp only [Bool.and_eq_true, Nat.ble_eq] at hn
    obtain ⟨⟨h0, h1, h2⟩, h3, h4⟩ := hn
    have b1 := pos_bd hr
    have b2 := pos_bd (r := 16384 - r) (by omega)
    have hk : 0 < K := by decide
    have hdn : 0 < K * K + n * n := by have := Nat.mul_pos hk hk; omega
    have hnk : n * n ≤ K * K := Nat.mul_le_mul h0 h0
    have hd : (0 : Int) < ((K * K + n * n : Nat) : Int) := by omega
    have e1 : ((K * K - n * n : Nat) : Int) = (K : Int) * K - (n : Int) * n := by rw [Int.ofNat_sub hnk]; rfl
    refine ⟨((K * K - n * n : Nat) : Int), ((2 * n * K : Nat) : Int), ((K * K + n * n : Nat) : Int), hd, ?_, ?_, ?_⟩
    · rw [e1]
      push_cast
      generalize (K : Int) = k
      generalize (n : Int) = m
      grind
    · have a1 : (qN r).1 * (K * K + n * n) ≤ 65536 * (2 * n * K) := by rw [Nat.mul_comm 65536]; exact h1
      have a2 : 65536 * (2 * n * K) ≤ (qN r).2 * (K * K + n * n) := by rw [Nat.mul_comm 65536]; exact h2
      have a3 : (qN r).2 * (K * K + n * n) ≤ 65536 * (K * K + n * n) := Nat.mul_le_mul_right _ (q_bd hr).2.1
      refine ⟨vld_mk (by omega) b1.2.1 (by omega), hd, ?_, ?_, ?_, ?_⟩
      · exact Int.ofNat_le.2 a1
      · exact Int.ofNat_le.2 a2
      · have : (0 : Int) ≤ 65536 * ((2 * n * K : Nat) : Int) := by omega
        have : (0 : Int) ≤ 65536 * ((K * K + n * n : Nat) : Int) := by omega
        omega
      · exact Int.ofNat_le.2 (Nat.le_trans a2 a3)
    · have a1 : (qN (16384 - r)).1 * (K * K + n * n) ≤ 65536 * (K * K - n * n) := by rw [Nat.mul_comm 65536]; exact h3
      have a2 : 65536 * (K * K - n * n) ≤ (qN (16384 - r)).2 * (K * K + n * n) := by rw [Nat.mul_comm 65536]; exact h4
      have a3 : (qN (16384 - r)).2 * (K * K + n * n) ≤ 65536 * (K * K + n * n) := Nat.mul_le_mul_right _ (q_bd (r := 16384 - r) (by omega)).2.1
      refine ⟨vld_mk (by omega) b2.2.1 (by omega), hd, ?_, ?_, ?_, ?_⟩
      · exact Int.ofNat_le.2 a1
      · exact Int.ofNat_le.2 a2
      · have : (0 : Int) ≤ 65536 * ((K * K - n * n : Nat) : Int) := by omega
        have : (0 : Int) ≤ 65536 * ((K * K + n * n : Nat) : Int) := by omega
        omega
      · exact Int.ofNat_le.2 (Nat.le_trans a2 a3)
  · have : r = 16384 := by omega
    subst this
    have e1 : pos (qN 16384) = (65536, 65536) := by kernel_rfl
    have e2 : pos (qN (16384 - 16384)) = (0, 0) := by kernel_rfl
    rw [e1, e2]
    exact ⟨0, 1, 1, by decide, by decide, ⟨by decide, by decide, by decide, by decide, by decide, by decide⟩, ⟨by decide, by decide, by decide, by decide, by decide, by decide⟩⟩

theorem in_ng {x : Int × Int} {n d A : Int} (h : In x n d A) : In (ngI x) (-n) d A := by
  have := in_neg h
  unfold nega at this
  rw [h.1] at this
  exact this

theorem exactS (a : Int) : ∃ c s d : Int, 0 < d ∧ c * c + s * s = d * d ∧ In (S a) (65536 * s) d 65536 ∧ In (S (a + 16384)) (65536 * c) d 65536 := by
  obtain ⟨r, hr, h1, h2⟩ := S_quarter a
  obtain ⟨c, s, d, hd, hc, i1, i2⟩ := exact0 r hr
  rcases h1 with h1 | h1 <;> rcases h2 with h2 | h2 <;> rw [h1, h2]
  · exact ⟨c, s, d, hd, hc, i1, i2⟩
  · exact ⟨-c, s, d, hd, by rw [Int.neg_mul_neg]; exact hc, i1, by rw [Int.mul_neg]; exact in_ng i2⟩
  · exact ⟨c, -s, d, hd, by rw [Int.neg_mul_neg]; exact hc, by rw [Int.mul_neg]; exact in_ng i1, i2⟩
  · exact ⟨-c, -s, d, hd, by rw [Int.neg_mul_neg, Int.neg_mul_neg]; exact hc, by rw [Int.mul_neg]; exact in_ng i1, by rw [Int.mul_neg]; exact in_ng i2⟩

theorem in_wide {x y : Int × Int} {n d A : Int} (h : In x n d A) (v : vld y = true) (h1 : y.1 ≤ x.1) (h2 : x.2 ≤ y.2) : In y n d A := by
  obtain ⟨_, hd, k1, k2, k3, k4⟩ := h
  have a := Int.mul_le_mul_of_nonneg_right h1 (Int.le_of_lt hd)
  have b := Int.mul_le_mul_of_nonneg_right h2 (Int.le_of_lt hd)
  exact ⟨v, hd, by omega, by omega, k3, k4⟩

def axE (k c s d : Int) : X3 := if k = 0 then ((d, (0, 0)), ((0, (c, -s)), (0, (s, c)))) else if k = 1 then ((c, (0, s)), ((0, (d, 0)), (-s, (0, c)))) else ((c, (-s, 0)), ((s, (c, 0)), (0, (0, d))))

theorem rot_ax {k c s d : Int} (h : c * c + s * s = d * d) : rotE (axE k c s d) d := by
  unfold axE
  split
  · unfold rotE orth trE dotE; dsimp only; refine ⟨⟨?_, ?_, ?_, ?_, ?_, ?_⟩, ⟨?_, ?_, ?_, ?_, ?_, ?_⟩⟩ <;> grind
  · split
    · unfold rotE orth trE dotE; dsimp only; refine ⟨⟨?_, ?_, ?_, ?_, ?_, ?_⟩, ⟨?_, ?_, ?_, ?_, ?_, ?_⟩⟩ <;> grind
    · unfold rotE orth trE dotE; dsimp only; refine ⟨⟨?_, ?_, ?_, ?_, ?_, ?_⟩, ⟨?_, ?_, ?_, ?_, ?_, ?_⟩⟩ <;> grind

theorem rt_turn {k x : Int} (k1 : 0 ≤ k) (k2 : k < 3) (h1 : -2147483648 ≤ x) (h2 : x ≤ 2147483648) : ∃ e d, Rt (turnM k (x, x)) e d := by
  obtain ⟨c, s, d, hd, hc, is, ic⟩ := exactS x
  have hv : vld (x, x) = true := vld_mk h1 (Int.le_refl _) h2
  have ws := ov_contains (k := 0) hv (n := x) (Int.le_refl _) (Int.le_refl _)
  have wc := ov_contains (k := 16384) hv (n := x) (Int.le_refl _) (Int.le_refl _)
  rw [Int.add_zero] at ws
  have Is := in_wide is (vld_ov 0 (x, x)) ws.1 ws.2
  have Ic := in_wide ic (vld_ov 16384 (x, x)) wc.1 wc.2
  have In' := in_neg Is
  have i1 : In (65536, 65536) (65536 * d) d 65536 := in_pt hd (by decide) (by decide) (by decide)
  have i0 : In (0, 0) (65536 * 0) d 65536 := in_eq (in_pt (t := 0) hd (by decide) (by decide) (by decide)) (by simp) rfl
  rw [← Int.mul_neg] at In'
  refine ⟨axE k c s d, d, hd, rot_ax hc, ?_⟩
  have : k = 0 ∨ k = 1 ∨ k = 2 := by omega
  unfold turnM
  rw [hv]
  rcases this with rfl | rfl | rfl
  · exact ⟨⟨i1, i0, i0⟩, ⟨i0, Ic, In'⟩, ⟨i0, Is, Ic⟩⟩
  · exact ⟨⟨Ic, i0, Is⟩, ⟨i0, i1, i0⟩, ⟨In', i0, Ic⟩⟩
  · exact ⟨⟨Ic, In', i0⟩, ⟨Is, Ic, i0⟩, ⟨i0, i0, i1⟩⟩

/- ORTHOGONALITY -/

theorem in_wtn {x : Int × Int} {t d A : Int} (h : In x (t * d) d A) (h1 : -2147483648 ≤ t) (h2 : t ≤ 2147483648) : wtn (t, t) x = true := by
  obtain ⟨v, hd, k1, k2, _⟩ := h
  exact wtn_iff.2 ⟨vld_mk h1 (Int.le_refl _) h2, v, Int.le_of_mul_le_mul_right k1 hd, Int.le_of_mul_le_mul_right k2 hd⟩

theorem unit_in {m : M3} {e : X3} {d : Int} (h : Rt m e d) : wtnM unitM (compM m (trn m)) = true := by
  obtain ⟨hd, ⟨re, rc⟩, im⟩ := h
  obtain ⟨r1, r2, r3, r4, r5, r6⟩ := re
  have hp := Int.mul_pos hd hd
  have one : ∀ {x y : V3} {f g : E3}, inV x (sc 65536 f) d 65536 → inV y (sc 65536 g) d 65536 → dotE f g = d * d → wtn (65536, 65536) (cl (dotI x y)) = true := by
    intro x y f g hx hy hfg
    have h := in_unit hx hy
    rw [hfg] at h
    exact in_wtn (in_cl (in_bd h (by omega) (by omega))) (by decide) (by decide)
  have zer : ∀ {x y : V3} {f g : E3}, inV x (sc 65536 f) d 65536 → inV y (sc 65536 g) d 65536 → dotE f g = 0 → wtn (0, 0) (cl (dotI x y)) = true := by
    intro x y f g hx hy hfg
    have h := in_unit hx hy
    rw [hfg] at h
    exact in_wtn (in_cl (in_bd (in_eq h (m := 0 * (d * d)) (by simp) rfl) (by omega) (by omega))) (by decide) (by decide)
  obtain ⟨m1, m2, m3⟩ := im
  have q4 : dotE e.2.1 e.1 = 0 := by rw [dotE_comm]; exact r4
  have q5 : dotE e.2.2 e.1 = 0 := by rw [dotE_comm]; exact r5
  have q6 : dotE e.2.2 e.2.1 = 0 := by rw [dotE_comm]; exact r6
  exact wtnM_iff.2 ⟨wtnV_iff.2 ⟨one m1 m1 r1, zer m1 m2 r4, zer m1 m3 r5⟩, wtnV_iff.2 ⟨zer m2 m1 q4, one m2 m2 r2, zer m2 m3 r6⟩, wtnV_iff.2 ⟨zer m3 m1 q5, zer m3 m2 q6, one m3 m3 r3⟩⟩

theorem orthogonal_law {l : List Int} (hl : l.length ≤ maxLen) : dom_armplanlaw4_MatrixOrthogonal l = true ∧ armplanlaw4_MatrixOrthogonal l = true := by
  unfold dom_armplanlaw4_MatrixOrthogonal armplanlaw4_MatrixOrthogonal t_armplanlaw4_MatrixOrthogonal
  simp only [Tr.dom, Tr.ok, Tr.val, ofR_eq, turnF, compF, trnF, withinMF, unitR, awake4]
  obtain ⟨d1, o1, a1, a2⟩ := next_ok (src0 hl) (k := 3) (by omega) (by omega)
  generalize armplanmake_Source_Next (l, 0) 3 = r1 at *
  obtain ⟨d2, o2, b1, b2⟩ := signed_ok o1 (k := 70000) (by omega) (by omega)
  generalize armplanmake_Source_Signed r1.2 70000 = r2 at *
  obtain ⟨d3, o3, c1, c2⟩ := next_ok o2 (k := 3) (by omega) (by omega)
  generalize armplanmake_Source_Next r2.2 3 = r3 at *
  obtain ⟨d4, o4, e1, e2⟩ := signed_ok o3 (k := 70000) (by omega) (by omega)
  generalize armplanmake_Source_Signed r3.2 70000 = r4 at *
  rw [lim_in (t := r2.1) (by omega) (by omega), lim_in (t := r4.1) (by omega) (by omega)]
  obtain ⟨f, p, hf⟩ := rt_turn a1 a2 (x := r2.1) (by omega) (by omega)
  obtain ⟨g, q, hg⟩ := rt_turn c1 c2 (x := r4.1) (by omega) (by omega)
  have h := rt_comp hf hg
  have u1 := unit_in h
  have u2 := unit_in (rt_tr h)
  have tt : ∀ m : M3, trn (trn m) = m := fun m => rfl
  rw [tt] at u2
  simp only [d1, d2, d3, d4, u1, u2, cond_true]
  exact ⟨by first | trivial | rfl, by first | trivial | rfl⟩

/- LENGTHS -/

def sqI (x : Int × Int) : Int × Int := bif vld x then
  (lim ((bif decide (x.1 ≤ 0) && decide (0 ≤ x.2) then 0 else min (x.1 * x.1) (x.2 * x.2)) / 65536), lim (-(-(max (x.1 * x.1) (x.2 * x.2)) / 65536))) else (0, 0)

theorem sqR (x : Int × Int) : armplanref1_Square x = sqI x := by
  unfold armplanref1_Square t_armplanref1_Square sqI
  simp only [Tr.val, valR]
  cases hv : vld x with
  | false => rfl
  | true =>
    have b := vld_bd hv
    have p := mul_bd2 (x := x.1) (y := x.1) (by omega) (by omega) (by omega) (by omega)
    have q := mul_bd2 (x := x.2) (y := x.2) (by omega) (by omega) (by omega) (by omega)
    generalize x.1 * x.1 = s at *
    generalize x.2 * x.2 = t at *
    have e1 : (if t > s then t else s) = max s t := by split <;> omega
    have e2 : (if t < s then t else s) = min s t := by split <;> omega
    simp only [wrap64 (x := s) (by omega) (by omega), wrap64 (x := t) (by omega) (by omega), e1, e2, Bool.not_true, cond_false, cond_true]
    rw [Floor_eq (a := 0) (by omega) (by omega) (by omega), Floor_eq (a := min s t) (by omega) (by omega) (by omega), Ceil_eq (by omega) (by omega) (by omega), limitR_eq, limitR_eq]
    cases decide (x.1 ≤ 0) <;> cases decide (0 ≤ x.2) <;> rfl

theorem in_sq {x : Int × Int} {n d A C : Int} (hx : In x n d A) (hA : 0 ≤ A) (hC : A * A ≤ 65536 * C) (hC2 : C ≤ 2147483648) : In (sqI x) (n * n) (65536 * (d * d)) C := by
  obtain ⟨v1, hd, h1, h2, h3, h4⟩ := hx
  have hde : 0 < d * d := Int.mul_pos hd hd
  have up : ∀ p q : Int, p ≤ q → p * (d * d) ≤ q * (d * d) := fun p q h => Int.mul_le_mul_of_nonneg_right h (by omega)
  have s3 : ∀ p : Int, p * d * (p * d) = p * p * (d * d) := by intro p; grind
  have ha := mul_bd (x := n) (y := n) (A := A * d) (B := A * d) h3 h4 h3 h4
  rw [s3] at ha
  have hc := up _ _ hC
  have hn := sq_nn n
  have lo : (bif decide (x.1 ≤ 0) && decide (0 ≤ x.2) then 0 else min (x.1 * x.1) (x.2 * x.2)) * (d * d) ≤ n * n := by
    by_cases c1 : x.1 ≤ 0
    · by_cases c2 : 0 ≤ x.2
      · simp only [decide_eq_true c1, decide_eq_true c2, Bool.and_self, cond_true, Int.zero_mul]; exact hn
      · have := up (min (x.1 * x.1) (x.2 * x.2)) (x.2 * x.2) (by omega)
        have g : x.2 * d ≤ 0 := Int.mul_nonpos_of_nonpos_of_nonneg (by omega) (by omega)
        have k := Int.mul_le_mul (a := -(x.2 * d)) (b := -(x.2 * d)) (c := -n) (d := -n) (by omega) (by omega) (by omega) (by omega)
        rw [Int.neg_mul_neg, Int.neg_mul_neg, s3] at k
        simp only [decide_eq_false c2, Bool.and_false, cond_false]; omega
    · have := up (min (x.1 * x.1) (x.2 * x.2)) (x.1 * x.1) (by omega)
      have g : 0 ≤ x.1 * d := Int.mul_nonneg (by omega) (by omega)
      have k := Int.mul_le_mul (a := x.1 * d) (b := x.1 * d) (c := n) (d := n) (by omega) (by omega) (by omega) (by omega)
      rw [s3] at k
      simp only [decide_eq_false c1, Bool.false_and, cond_false]; omega
  have hi : n * n ≤ max (x.1 * x.1) (x.2 * x.2) * (d * d) := by
    rcases Int.le_total 0 n with c | c
    · have := up (x.2 * x.2) (max (x.1 * x.1) (x.2 * x.2)) (by omega)
      have k := Int.mul_le_mul (a := n) (b := n) (c := x.2 * d) (d := x.2 * d) h2 h2 c (by omega)
      rw [s3] at k; omega
    · have := up (x.1 * x.1) (max (x.1 * x.1) (x.2 * x.2)) (by omega)
      have k := Int.mul_le_mul (a := -n) (b := -n) (c := -(x.1 * d)) (d := -(x.1 * d)) (by omega) (by omega) (by omega) (by omega)
      rw [Int.neg_mul_neg, Int.neg_mul_neg, s3] at k; omega
  unfold sqI
  rw [v1]
  simp only [cond_true]
  generalize (bif decide (x.1 ≤ 0) && decide (0 ≤ x.2) then 0 else min (x.1 * x.1) (x.2 * x.2)) = l at *
  generalize max (x.1 * x.1) (x.2 * x.2) = u at *
  generalize n * n = z at *
  have f1 := up (l / 65536 * 65536) l (by omega)
  have f2 := up u (-(-u / 65536) * 65536) (by omega)
  refine in_lim (by omega) ?_ ?_ hC2 ?_ ?_
  · rw [← Int.mul_assoc]; omega
  · rw [← Int.mul_assoc]; omega
  · rw [← Int.mul_assoc, Int.mul_comm C]; omega
  · rw [← Int.mul_assoc, Int.mul_comm C]; omega

def sqV (v : V3) : Int × Int := addI (addI (sqI v.1) (sqI v.2.1)) (sqI v.2.2)
theorem sqVR (v : V3) : armplanlaw4_square v = sqV v := by
  unfold armplanlaw4_square t_armplanlaw4_square sqV
  simp only [Tr.val, sqR, addR]

theorem in_sqV {v : V3} {e : E3} {d A C : Int} (h : inV v e d A) (hA : 0 ≤ A) (hC : A * A ≤ 65536 * C) (hC2 : C + C + C ≤ 2147483648) (hC0 : 0 ≤ C) : In (sqV v) (dotE e e) (65536 * (d * d)) (C + C + C) :=
  in_add (in_add (in_sq h.1 hA hC (by omega)) (in_sq h.2.1 hA hC (by omega)) (by omega)) (in_sq h.2.2 hA hC (by omega)) hC2

/-- Two intervals with a common number. -/
theorem in_meet {x y : Int × Int} {n d A B : Int} (hx : In x n d A) (hy : In y n d B) : (armplanref1_Meet x y).2 = true := by
  obtain ⟨v1, hd, h1, h2, _⟩ := hx
  obtain ⟨v2, _, k1, k2, _⟩ := hy
  have b1 := vld_bd v1
  have b2 := vld_bd v2
  have g1 : x.1 ≤ y.2 := Int.le_of_mul_le_mul_right (Int.le_trans h1 k2) hd
  have g2 : y.1 ≤ x.2 := Int.le_of_mul_le_mul_right (Int.le_trans k1 h2) hd
  unfold armplanref1_Meet t_armplanref1_Meet
  have e1 : (if y.1 > x.1 then y.1 else x.1) = max x.1 y.1 := by split <;> omega
  have e2 : (if y.2 < x.2 then y.2 else x.2) = min x.2 y.2 := by split <;> omega
  simp only [Tr.val, valR, v1, v2, Bool.not_true, cond_false, e1, e2]
  rw [decide_eq_false (by omega)]; rfl

theorem ap_in {m : M3} {v : V3} {e : X3} {f : E3} {d B : Int} (hm : inM m (scM 65536 e) d 65536) (hv : inV v f 1 B) (hB : 0 ≤ B) (hB2 : B + B + B ≤ 2147483648) : inV (applyM m v) (apE e f) d (B + B + B) := by
  have one : ∀ {x : V3} {g : E3}, inV x (sc 65536 g) d 65536 → In (dotI x v) (dotE g f) d (B + B + B) := by
    intro x g hx
    have h := in_dot hx hv (C := B) (by decide) hB (Int.le_refl _) hB2 hB
    refine in_scale (k := 65536) (by decide) (in_eq h ?_ (by rw [Int.mul_one]))
    unfold dotE sc; grind
  exact ⟨one hm.1, one hm.2.1, one hm.2.2⟩

theorem length_law {l : List Int} (hl : l.length ≤ maxLen) : dom_armplanlaw4_MatrixLength l = true ∧ armplanlaw4_MatrixLength l = true := by
  unfold dom_armplanlaw4_MatrixLength armplanlaw4_MatrixLength t_armplanlaw4_MatrixLength
  simp only [Tr.dom, Tr.ok, Tr.val, ofR_eq, turnF, applyF, pointR, sqVR, awake4]
  obtain ⟨d1, o1, a1, a2⟩ := signed_ok (src0 hl) (k := 327680) (by omega) (by omega)
  generalize armplanmake_Source_Signed (l, 0) 327680 = r1 at *
  obtain ⟨d2, o2, b1, b2⟩ := signed_ok o1 (k := 327680) (by omega) (by omega)
  generalize armplanmake_Source_Signed r1.2 327680 = r2 at *
  obtain ⟨d3, o3, c1, c2⟩ := signed_ok o2 (k := 327680) (by omega) (by omega)
  generalize armplanmake_Source_Signed r2.2 327680 = r3 at *
  obtain ⟨d4, o4, e1, e2⟩ := next_ok o3 (k := 3) (by omega) (by omega)
  generalize armplanmake_Source_Next r3.2 3 = r4 at *
  obtain ⟨d5, o5, f1, f2⟩ := signed_ok o4 (k := 70000) (by omega) (by omega)
  generalize armplanmake_Source_Signed r4.2 70000 = r5 at *
  rw [lim_in (t := r5.1) (by omega) (by omega)]
  unfold pointV
  dsimp only
  rw [lim_in (t := r1.1) (by omega) (by omega), lim_in (t := r2.1) (by omega) (by omega), lim_in (t := r3.1) (by omega) (by omega)]
  obtain ⟨g, p, hp, hg, hm⟩ := rt_turn e1 e2 (x := r5.1) (by omega) (by omega)
  have iv : inV ((r1.1, r1.1), ((r2.1, r2.1), (r3.1, r3.1))) (r1.1, (r2.1, r3.1)) 1 327680 :=
    ⟨in_eq (in_pt (d := 1) (by decide) (by decide) a1 a2) (by simp) rfl, in_eq (in_pt (d := 1) (by decide) (by decide) b1 b2) (by simp) rfl, in_eq (in_pt (d := 1) (by decide) (by decide) c1 c2) (by simp) rfl⟩
  have iw := ap_in hm iv (by decide) (by decide)
  have s1 := in_sqV iv (C := 1638400) (by decide) (by decide) (by decide) (by decide)
  have s2 := in_sqV iw (C := 14745600) (by decide) (by decide) (by decide) (by decide)
  have hc := comb (trE g) hg.2 (r1.1, (r2.1, r3.1)) (r1.1, (r2.1, r3.1))
  rw [show trE (trE g) = g from rfl] at hc
  rw [hc] at s2
  have s3 := in_scale (k := p * p) (n := dotE (r1.1, (r2.1, r3.1)) (r1.1, (r2.1, r3.1))) (d := 65536 * (1 * 1)) (Int.mul_pos hp hp) (in_eq s2 rfl (by grind))
  have mt := in_meet s1 s3
  simp only [d1, d2, d3, d4, d5, mt, cond_true]
  exact ⟨by first | trivial | rfl, by first | trivial | rfl⟩

end Go.RX

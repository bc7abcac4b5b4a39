/-
  Law of the matrices: sums of angles.
-/
import Derived.Test.YtlikaaohkecccaaMd
import Derived.Test.YtlikaaohkecccaaPi
namespace Go.RX
open Go

/- SUMS OF ANGLES -/

/-- A number of 2^60 that is nearly in an interval. -/
def N1 (x : Int × Int) (u : Int) : Prop := (-65536 ≤ x.1 ∧ x.1 ≤ x.2 ∧ x.2 ≤ 65536) ∧ x.1 * 17592186044416 ≤ u + 274877906944 ∧ u ≤ x.2 * 17592186044416 + 274877906944

theorem n1_one : N1 (65536, 65536) 1152921504606846976 := ⟨by decide, by decide, by decide⟩
theorem n1_zero : N1 (0, 0) 0 := ⟨by decide, by decide, by decide⟩
theorem n1_ov (k : Int) {x : Int} (h1 : -2147483648 ≤ x) (h2 : x ≤ 2147483648) : N1 (ov k (x, x)) (T (x + k)) := by
  have hv : vld (x, x) = true := vld_mk h1 (Int.le_refl _) h2
  obtain ⟨c1, c2⟩ := ov_contains (k := k) hv (n := x) (Int.le_refl _) (Int.le_refl _)
  obtain ⟨t1, t2⟩ := T_near (x + k)
  exact ⟨ov_bd k _, by omega, by omega⟩
theorem n1_neg {x : Int × Int} {u : Int} (h : N1 x u) : N1 (nega x) (-u) := by
  obtain ⟨⟨b1, b2, b3⟩, h1, h2⟩ := h
  unfold nega
  rw [vld_mk (by omega) b2 (by omega)]
  exact ⟨by dsimp only [cond_true]; omega, by dsimp only [cond_true]; omega, by dsimp only [cond_true]; omega⟩

theorem n1_mul {x y : Int × Int} {u v : Int} (hx : N1 x u) (hy : N1 y v) : (-65536 ≤ (mulI x y).1 ∧ (mulI x y).1 ≤ (mulI x y).2 ∧ (mulI x y).2 ≤ 65536) ∧
    (mulI x y).1 * 20282409603651670423947251286016 ≤ u * v + 1267650600228229401496703205376 ∧ u * v ≤ (mulI x y).2 * 20282409603651670423947251286016 + 1267650600228229401496703205376 := by
  obtain ⟨r, l, h⟩ := Mul_spec hx.1 hy.1
  have n := near_mul hx.1 hy.1 hx.2 hy.2 l h
  rw [mulR] at r n
  exact ⟨r, by omega, by omega⟩

theorem add_in {x y : Int × Int} {A B : Int} (hA : A + B ≤ 2147483648) (hB0 : 0 ≤ B) (hx : -A ≤ x.1 ∧ x.1 ≤ x.2 ∧ x.2 ≤ A) (hy : -B ≤ y.1 ∧ y.1 ≤ y.2 ∧ y.2 ≤ B) : addI x y = (x.1 + y.1, x.2 + y.2) := by
  unfold addI
  rw [vld_mk (x := x) (by omega) hx.2.1 (by omega), vld_mk (x := y) (by omega) hy.2.1 (by omega)]
  simp only [Bool.and_true, cond_true]
  rw [lim_in (by omega) (by omega), lim_in (by omega) (by omega)]

theorem n1_meet {x y : V3} {z : Int × Int} {a b c d e f w : Int} (h1 : N1 x.1 a) (h2 : N1 x.2.1 b) (h3 : N1 x.2.2 c) (k1 : N1 y.1 d) (k2 : N1 y.2.1 e) (k3 : N1 y.2.2 f) (hz : N1 z w)
    (s1 : -19807040628566084398385987584 ≤ a * d + b * e + c * f - 1152921504606846976 * w) (s2 : a * d + b * e + c * f - 1152921504606846976 * w ≤ 19807040628566084398385987584) :
    (armplanref1_Meet (cl (dotI x y)) z).2 = true := by
  obtain ⟨p1, p2, p3⟩ := n1_mul h1 k1
  obtain ⟨q1, q2, q3⟩ := n1_mul h2 k2
  obtain ⟨r1, r2, r3⟩ := n1_mul h3 k3
  obtain ⟨z1, z2, z3⟩ := hz
  unfold dotI
  generalize mulI x.1 y.1 = m1 at *
  generalize mulI x.2.1 y.2.1 = m2 at *
  generalize mulI x.2.2 y.2.2 = m3 at *
  rw [add_in (x := m1) (y := m2) (A := 65536) (B := 65536) (by decide) (by decide) p1 q1, add_in (A := 131072) (B := 65536) (by decide) (by decide) (by dsimp only; omega) r1]
  generalize a * d = u1 at *
  generalize b * e = u2 at *
  generalize c * f = u3 at *
  obtain ⟨m1, m1'⟩ := m1
  obtain ⟨m2, m2'⟩ := m2
  obtain ⟨m3, m3'⟩ := m3
  obtain ⟨z, z'⟩ := z
  dsimp only at *
  refine Meet_eq (valid_of ?_ ?_ ?_) (valid_of (by dsimp only; omega) (by dsimp only; omega) (by dsimp only; omega)) ?_ <;> unfold cl cl1 <;> dsimp only <;> omega

theorem n1_meet3 {x1 x2 x3 y1 y2 y3 z : Int × Int} {a b c d e f w : Int} (h1 : N1 x1 a) (h2 : N1 x2 b) (h3 : N1 x3 c) (k1 : N1 y1 d) (k2 : N1 y2 e) (k3 : N1 y3 f) (hz : N1 z w)
    (s1 : -19807040628566084398385987584 ≤ a * d + b * e + c * f - 1152921504606846976 * w) (s2 : a * d + b * e + c * f - 1152921504606846976 * w ≤ 19807040628566084398385987584) :
    (armplanref1_Meet (cl (dotI (x1, (x2, x3)) (y1, (y2, y3)))) z).2 = true := n1_meet (x := (x1, (x2, x3))) (y := (y1, (y2, y3))) h1 h2 h3 k1 k2 k3 hz s1 s2

theorem adds4_law (k a b : Int) : armplanlaw4_MatrixAdds k a b = true := by
  obtain ⟨r1, r2⟩ := round_eq (n := k) (k := 3) (by omega) (by omega)
  obtain ⟨a1, a2⟩ := round_eq (n := a) (k := 140000) (by omega) (by omega)
  obtain ⟨b1, b2⟩ := round_eq (n := b) (k := 140000) (by omega) (by omega)
  unfold armplanlaw4_MatrixAdds t_armplanlaw4_MatrixAdds
  simp only [turnF, compF, ofR_eq, awake4, Tr.val]
  generalize armplanmake_Round k 3 = k at *
  generalize armplanmake_Round a 140000 = a at *
  generalize armplanmake_Round b 140000 = b at *
  rw [wrap64 (x := a - 70000) (by omega) (by omega), wrap64 (x := b - 70000) (by omega) (by omega), wrap64 (by omega) (by omega), lim_in (by omega) (by omega), lim_in (by omega) (by omega), lim_in (by omega) (by omega)]
  generalize hx : a - 70000 = x at *
  generalize hy : b - 70000 = y at *
  have cx := n1_ov 16384 (x := x) (by omega) (by omega)
  have sx := n1_ov 0 (x := x) (by omega) (by omega)
  have cy := n1_ov 16384 (x := y) (by omega) (by omega)
  have sy := n1_ov 0 (x := y) (by omega) (by omega)
  have cz := n1_ov 16384 (x := x + y) (by omega) (by omega)
  have sz := n1_ov 0 (x := x + y) (by omega) (by omega)
  rw [Int.add_zero] at sx sy sz
  have nx := n1_neg sx
  have ny := n1_neg sy
  have nz := n1_neg sz
  have o := n1_one
  have z := n1_zero
  have vx : vld (x, x) = true := vld_mk (by omega) (Int.le_refl _) (by omega)
  have vy : vld (y, y) = true := vld_mk (by omega) (Int.le_refl _) (by omega)
  have vz : vld (x + y, x + y) = true := vld_mk (by omega) (Int.le_refl _) (by omega)
  have p := PP_all x y
  unfold PP at p
  have : k = 0 ∨ k = 1 ∨ k = 2 := by omega
  rcases this with rfl | rfl | rfl
  · simp only [turnM, vx, vy, vz, cond_true, if_true, if_false, Int.reduceEq, compM, rowM, trn]
    rw [n1_meet3 o z z o z z o (by simp only [Int.zero_mul]; omega) (by simp only [Int.zero_mul]; omega),
      n1_meet3 o z z z cy sy z (by simp only [Int.mul_zero, Int.zero_mul]; omega) (by simp only [Int.mul_zero, Int.zero_mul]; omega),
      n1_meet3 o z z z ny cy z (by simp only [Int.mul_zero, Int.zero_mul]; omega) (by simp only [Int.mul_zero, Int.zero_mul]; omega),
      n1_meet3 z cx nx o z z z (by simp only [Int.mul_zero, Int.zero_mul]; omega) (by simp only [Int.mul_zero, Int.zero_mul]; omega),
      n1_meet3 z cx nx z cy sy cz (by simp only [Int.neg_mul, Int.zero_mul]; omega) (by simp only [Int.neg_mul, Int.zero_mul]; omega),
      n1_meet3 z cx nx z ny cy nz (by simp only [Int.mul_neg, Int.neg_mul, Int.zero_mul]; omega) (by simp only [Int.mul_neg, Int.neg_mul, Int.zero_mul]; omega),
      n1_meet3 z sx cx o z z z (by simp only [Int.mul_zero, Int.zero_mul]; omega) (by simp only [Int.mul_zero, Int.zero_mul]; omega),
      n1_meet3 z sx cx z cy sy sz (by simp only [Int.zero_mul]; omega) (by simp only [Int.zero_mul]; omega),
      n1_meet3 z sx cx z ny cy cz (by simp only [Int.mul_neg, Int.zero_mul]; omega) (by simp only [Int.mul_neg, Int.zero_mul]; omega)]
    rfl
  · simp only [turnM, vx, vy, vz, cond_true, if_true, if_false, Int.reduceEq, compM, rowM, trn]
    rw [n1_meet3 cx z sx cy z ny cz (by simp only [Int.mul_neg, Int.zero_mul]; omega) (by simp only [Int.mul_neg, Int.zero_mul]; omega),
      n1_meet3 cx z sx z o z z (by simp only [Int.mul_zero, Int.zero_mul]; omega) (by simp only [Int.mul_zero, Int.zero_mul]; omega),
      n1_meet3 cx z sx sy z cy sz (by simp only [Int.zero_mul]; omega) (by simp only [Int.zero_mul]; omega),
      n1_meet3 z o z cy z ny z (by simp only [Int.mul_zero, Int.zero_mul]; omega) (by simp only [Int.mul_zero, Int.zero_mul]; omega),
      n1_meet3 z o z z o z o (by simp only [Int.zero_mul]; omega) (by simp only [Int.zero_mul]; omega),
      n1_meet3 z o z sy z cy z (by simp only [Int.mul_zero, Int.zero_mul]; omega) (by simp only [Int.mul_zero, Int.zero_mul]; omega),
      n1_meet3 nx z cx cy z ny nz (by simp only [Int.mul_neg, Int.neg_mul, Int.zero_mul]; omega) (by simp only [Int.mul_neg, Int.neg_mul, Int.zero_mul]; omega),
      n1_meet3 nx z cx z o z z (by simp only [Int.mul_zero, Int.zero_mul]; omega) (by simp only [Int.mul_zero, Int.zero_mul]; omega),
      n1_meet3 nx z cx sy z cy cz (by simp only [Int.neg_mul, Int.zero_mul]; omega) (by simp only [Int.neg_mul, Int.zero_mul]; omega)]
    rfl
  · simp only [turnM, vx, vy, vz, cond_true, if_true, if_false, Int.reduceEq, compM, rowM, trn]
    rw [n1_meet3 cx nx z cy sy z cz (by simp only [Int.neg_mul, Int.zero_mul]; omega) (by simp only [Int.neg_mul, Int.zero_mul]; omega),
      n1_meet3 cx nx z ny cy z nz (by simp only [Int.mul_neg, Int.neg_mul, Int.zero_mul]; omega) (by simp only [Int.mul_neg, Int.neg_mul, Int.zero_mul]; omega),
      n1_meet3 cx nx z z z o z (by simp only [Int.mul_zero, Int.zero_mul]; omega) (by simp only [Int.mul_zero, Int.zero_mul]; omega),
      n1_meet3 sx cx z cy sy z sz (by simp only [Int.zero_mul]; omega) (by simp only [Int.zero_mul]; omega),
      n1_meet3 sx cx z ny cy z cz (by simp only [Int.mul_neg, Int.zero_mul]; omega) (by simp only [Int.mul_neg, Int.zero_mul]; omega),
      n1_meet3 sx cx z z z o z (by simp only [Int.mul_zero, Int.zero_mul]; omega) (by simp only [Int.mul_zero, Int.zero_mul]; omega),
      n1_meet3 z z o cy sy z z (by simp only [Int.mul_zero, Int.zero_mul]; omega) (by simp only [Int.mul_zero, Int.zero_mul]; omega),
      n1_meet3 z z o ny cy z z (by simp only [Int.mul_zero, Int.zero_mul]; omega) (by simp only [Int.mul_zero, Int.zero_mul]; omega),
      n1_meet3 z z o z z o o (by simp only [Int.zero_mul]; omega) (by simp only [Int.zero_mul]; omega)]
    rfl

end Go.RX

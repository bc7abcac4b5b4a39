/-
  Laws of the matrices: parts, quarters, sums of angles.
-/
import Derived.Test.YtlikaaohkecccaaMc
namespace Go.RX
open Go

/- PARTS -/

theorem shl_one {r : Int} (h1 : 0 ≤ r) (h2 : r < 27) : 16 ≤ shlI .i64 1 (IntKind.wrap .u64 (IntKind.wrap .i64 (4 + r))) ∧ shlI .i64 1 (IntKind.wrap .u64 (IntKind.wrap .i64 (4 + r))) ≤ 1073741824 ∧ 0 ≤ IntKind.wrap .u64 (IntKind.wrap .i64 (4 + r)) := by
  have : ∀ n : Nat, n < 27 → 16 ≤ shlI .i64 1 (IntKind.wrap .u64 (IntKind.wrap .i64 (4 + (n : Int)))) ∧ shlI .i64 1 (IntKind.wrap .u64 (IntKind.wrap .i64 (4 + (n : Int)))) ≤ 1073741824 ∧ 0 ≤ IntKind.wrap .u64 (IntKind.wrap .i64 (4 + (n : Int))) := by decide
  have h := this r.toNat (by omega)
  rwa [show ((r.toNat : Nat) : Int) = r by omega] at h

theorem interval_ok (x w : Int) : dom_armplanmake_Interval x w = true ∧ vld (armplanmake_Interval x w) = true := by
  unfold dom_armplanmake_Interval armplanmake_Interval t_armplanmake_Interval
  simp only [Tr.dom, Tr.ok, Tr.val, clampR_eq]
  obtain ⟨r1, r2⟩ := round_eq (n := shrI .i64 x 3) (k := 27) (by omega) (by omega)
  obtain ⟨s1, s2, s3⟩ := shl_one r1 r2
  generalize armplanmake_Round (shrI .i64 x 3) 27 = r at *
  generalize IntKind.wrap .u64 (IntKind.wrap .i64 (4 + r)) = u at *
  generalize shlI .i64 1 u = t at *
  rw [decide_eq_true s3]
  have e1 : IntKind.wrap .i64 (2 * t) = 2 * t := wrap64 (by omega) (by omega)
  have e2 : IntKind.wrap .i64 (2 * t + 1) = 2 * t + 1 := wrap64 (by omega) (by omega)
  have e3 : IntKind.wrap .i64 (Int.tdiv t 8) = t / 8 := by rw [Int.tdiv_eq_ediv_of_nonneg (by omega)]; exact wrap64 (by omega) (by omega)
  have e4 : IntKind.wrap .i64 (1 + t / 8) = 1 + t / 8 := wrap64 (by omega) (by omega)
  obtain ⟨a1, a2⟩ := round_eq (n := x) (k := 2 * t + 1) (by omega) (by omega)
  obtain ⟨b1, b2⟩ := round_eq (n := w) (k := 2 * t + 1) (by omega) (by omega)
  obtain ⟨c1, c2⟩ := round_eq (n := shrI .i64 w 1) (k := 1 + t / 8) (by omega) (by omega)
  have d1 := dom_round (n := x) (k := 2 * t + 1) (by omega)
  have d2 := dom_round (n := w) (k := 2 * t + 1) (by omega)
  have d3 := dom_round (n := shrI .i64 w 1) (k := 1 + t / 8) (by omega)
  simp only [e1, e2, e3, e4, d1, d2, d3, cond_true]
  generalize armplanmake_Round x (2 * t + 1) = a at *
  generalize armplanmake_Round w (2 * t + 1) = b at *
  generalize armplanmake_Round (shrI .i64 w 1) (1 + t / 8) = c at *
  have l1 := lim_bd (IntKind.wrap .i64 (a - t))
  have l2 := lim_bd (IntKind.wrap .i64 (b - t))
  have l3 := lim_bd (IntKind.wrap .i64 (IntKind.wrap .i64 (a - t) + c))
  cases decide (bitI .and .i64 w 1 = 0) with
  | true =>
    refine ⟨rfl, vld_mk ?_ ?_ ?_⟩ <;> dsimp only [cond_true] <;> (repeat' split) <;> omega
  | false =>
    refine ⟨rfl, vld_mk ?_ ?_ ?_⟩ <;> dsimp only [cond_false] <;> (repeat' split) <;> omega

theorem part_wtn {a : Int × Int} (hv : vld a = true) (m n : Int) : dom_armplanmake_Part a m n = true ∧ wtn (armplanmake_Part a m n) a = true := by
  obtain ⟨d, h1, h2, h3⟩ := part_ok hv m n
  have b := vld_bd hv
  exact ⟨d, wtn_iff.2 ⟨vld_mk (by omega) (by omega) (by omega), hv, h1, h3⟩⟩

theorem monotone_law {l m : List Int} (hl : l.length ≤ maxLen) (hm : m.length ≤ maxLen) : dom_armplanlaw4_MatrixMonotone l m = true ∧ armplanlaw4_MatrixMonotone l m = true := by
  obtain ⟨d1, o1, _⟩ := next_ok (src0 hl) (k := 1099511627776) (by omega) (by omega)
  obtain ⟨d2, o2, _⟩ := next_ok o1 (k := 1048576) (by omega) (by omega)
  unfold dom_armplanlaw4_MatrixMonotone armplanlaw4_MatrixMonotone t_armplanlaw4_MatrixMonotone
  simp only [d1, d2, Tr.dom, Tr.ok, Tr.val, cond_true, Bool.true_and]
  generalize armplanmake_Source_Next (l, 0) 1099511627776 = r1 at *
  generalize armplanmake_Source_Next r1.2 1048576 = r2 at *
  obtain ⟨d3, v3⟩ := interval_ok r1.1 r2.1
  generalize hr3 : armplanmake_Interval r1.1 r2.1 = r3 at *
  obtain ⟨d4, o4, _⟩ := next_ok o2 (k := 3) (by omega) (by omega)
  generalize armplanmake_Source_Next r2.2 3 = r4 at *
  obtain ⟨d5, o5, v5⟩ := vec_src o4
  generalize armplanlaw4_vec r4.2 = r5 at *
  obtain ⟨w1, w2, w3⟩ := wtnV_iff.1 v5
  obtain ⟨d6, o6, _⟩ := next_ok (src0 hm) (k := 1073741824) (by omega) (by omega)
  generalize armplanmake_Source_Next (m, 0) 1073741824 = r6 at *
  obtain ⟨d7, o7, _⟩ := next_ok o6 (k := 1073741824) (by omega) (by omega)
  generalize armplanmake_Source_Next r6.2 1073741824 = r7 at *
  obtain ⟨d8, p8⟩ := part_wtn v3 r6.1 r7.1
  generalize armplanmake_Part r3 r6.1 r7.1 = r8 at *
  obtain ⟨d9, o9, _⟩ := next_ok o7 (k := 1073741824) (by omega) (by omega)
  generalize armplanmake_Source_Next r7.2 1073741824 = r9 at *
  obtain ⟨d10, o10, _⟩ := next_ok o9 (k := 1073741824) (by omega) (by omega)
  generalize armplanmake_Source_Next r9.2 1073741824 = r10 at *
  obtain ⟨d11, p11⟩ := part_wtn (wtn_iff.1 w1).1 r9.1 r10.1
  generalize armplanmake_Part r5.1.1 r9.1 r10.1 = r11 at *
  obtain ⟨d12, o12, _⟩ := next_ok o10 (k := 1073741824) (by omega) (by omega)
  generalize armplanmake_Source_Next r10.2 1073741824 = r12 at *
  obtain ⟨d13, o13, _⟩ := next_ok o12 (k := 1073741824) (by omega) (by omega)
  generalize armplanmake_Source_Next r12.2 1073741824 = r13 at *
  obtain ⟨d14, p14⟩ := part_wtn (wtn_iff.1 w2).1 r12.1 r13.1
  generalize armplanmake_Part r5.1.2.1 r12.1 r13.1 = r14 at *
  obtain ⟨d15, o15, _⟩ := next_ok o13 (k := 1073741824) (by omega) (by omega)
  generalize armplanmake_Source_Next r13.2 1073741824 = r15 at *
  obtain ⟨d16, o16, _⟩ := next_ok o15 (k := 1073741824) (by omega) (by omega)
  generalize armplanmake_Source_Next r15.2 1073741824 = r16 at *
  obtain ⟨d17, p17⟩ := part_wtn (wtn_iff.1 w3).1 r15.1 r16.1
  generalize armplanmake_Part r5.1.2.2 r15.1 r16.1 = r17 at *
  obtain ⟨d20, o20, kk, aa, e20⟩ := turn_src o5
  have hu : wtnV (r11, (r14, r17)) r5.1 = true := wtnV_iff.2 ⟨p11, p14, p17⟩
  have ht := turn_mono (k := r4.1) p8
  have hp := turn_refl kk aa
  have g1 : matrix_WithinMat (matrix_Turn r4.1 r8) (matrix_Turn r4.1 r3) = true := by rw [withinMF, turnF, turnF]; exact ht
  have g2 : matrix_Within (matrix_Apply (matrix_Turn r4.1 r8) (r11, (r14, r17))) (matrix_Apply (matrix_Turn r4.1 r3) r5.1) = true := by rw [withinVF, applyF, applyF, turnF, turnF]; exact apply_mono ht hu
  have g3 : matrix_WithinMat (matrix_Compose (matrix_Turn r4.1 r8) (armplanlaw4_turn r5.2).1) (matrix_Compose (matrix_Turn r4.1 r3) (armplanlaw4_turn r5.2).1) = true := by rw [withinMF, compF, compF, turnF, turnF, e20]; exact comp_mono ht hp
  have g4 : matrix_WithinMat (matrix_Compose (armplanlaw4_turn r5.2).1 (matrix_Turn r4.1 r8)) (matrix_Compose (armplanlaw4_turn r5.2).1 (matrix_Turn r4.1 r3)) = true := by rw [withinMF, compF, compF, turnF, turnF, e20]; exact comp_mono hp ht
  have g5 : matrix_Within (matrix_Add (r11, (r14, r17)) r5.1) (matrix_Add r5.1 r5.1) = true := by rw [withinVF, addVF, addVF]; exact addV_mono hu v5
  have g6 : matrix_Within (matrix_Sub r5.1 (r11, (r14, r17))) (matrix_Sub r5.1 r5.1) = true := by rw [withinVF, subVF, subVF]; exact subV_mono v5 hu
  simp only [d3, d4, d5, d6, d7, d8, d9, d10, d11, d12, d13, d14, d15, d16, d17, d20, awake4, g1, g2, g3, g4, g5, g6, cond_true]
  exact ⟨by first | trivial | rfl, by first | trivial | rfl⟩

/- QUARTERS -/

def q3 (k : Int) : M3 := if k = 0 then (((65536, 65536), ((0, 0), (0, 0))), (((0, 0), ((0, 0), (-65536, -65536))), ((0, 0), ((65536, 65536), (0, 0)))))
  else if k = 1 then (((0, 0), ((0, 0), (65536, 65536))), (((0, 0), ((65536, 65536), (0, 0))), ((-65536, -65536), ((0, 0), (0, 0)))))
  else (((0, 0), ((-65536, -65536), (0, 0))), (((65536, 65536), ((0, 0), (0, 0))), ((0, 0), ((0, 0), (65536, 65536)))))
def h3 (k : Int) : M3 := if k = 0 then (((65536, 65536), ((0, 0), (0, 0))), (((0, 0), ((-65536, -65536), (0, 0))), ((0, 0), ((0, 0), (-65536, -65536)))))
  else if k = 1 then (((-65536, -65536), ((0, 0), (0, 0))), (((0, 0), ((65536, 65536), (0, 0))), ((0, 0), ((0, 0), (-65536, -65536)))))
  else (((-65536, -65536), ((0, 0), (0, 0))), (((0, 0), ((-65536, -65536), (0, 0))), ((0, 0), ((0, 0), (65536, 65536)))))

theorem ov_q1 : ov 0 (16384, 16384) = (65536, 65536) := by kernel_rfl
theorem ov_q2 : ov 16384 (16384, 16384) = (0, 0) := by kernel_rfl
theorem ov_h1 : ov 0 (32768, 32768) = (0, 0) := by kernel_rfl
theorem ov_h2 : ov 16384 (32768, 32768) = (-65536, -65536) := by kernel_rfl

theorem lim_in {t : Int} (h1 : -2147483648 ≤ t) (h2 : t ≤ 2147483648) : lim t = t := by unfold lim; omega
theorem mul_1 {t : Int} (h1 : -2147483648 ≤ t) (h2 : t ≤ 2147483648) : mulI (65536, 65536) (t, t) = (t, t) := by
  unfold mulI mn4 mx4
  rw [vld_mk (x := (t, t)) h1 (Int.le_refl _) h2, show vld (65536, 65536) = true from rfl]
  simp only [Bool.and_true, cond_true]
  rw [show min (min (65536 * t) (65536 * t)) (min (65536 * t) (65536 * t)) = 65536 * t by omega, show max (max (65536 * t) (65536 * t)) (max (65536 * t) (65536 * t)) = 65536 * t by omega,
    show 65536 * t / 65536 = t by omega, show -(-(65536 * t) / 65536) = t by omega, lim_in h1 h2]
theorem mul_m1 {t : Int} (h1 : -2147483648 ≤ t) (h2 : t ≤ 2147483648) : mulI (-65536, -65536) (t, t) = (-t, -t) := by
  unfold mulI mn4 mx4
  rw [vld_mk (x := (t, t)) h1 (Int.le_refl _) h2, show vld (-65536, -65536) = true from rfl]
  simp only [Bool.and_true, cond_true]
  rw [show min (min (-65536 * t) (-65536 * t)) (min (-65536 * t) (-65536 * t)) = -65536 * t by omega, show max (max (-65536 * t) (-65536 * t)) (max (-65536 * t) (-65536 * t)) = -65536 * t by omega,
    show -65536 * t / 65536 = -t by omega, show -(-(-65536 * t) / 65536) = -t by omega, lim_in (by omega) (by omega)]
theorem mul_0 {t : Int} (h1 : -2147483648 ≤ t) (h2 : t ≤ 2147483648) : mulI (0, 0) (t, t) = (0, 0) := by
  unfold mulI mn4 mx4
  rw [vld_mk (x := (t, t)) h1 (Int.le_refl _) h2, show vld (0, 0) = true from rfl]
  simp only [Bool.and_true, cond_true, Int.zero_mul]
  rfl
theorem add_0 {t : Int} (h1 : -2147483648 ≤ t) (h2 : t ≤ 2147483648) : addI (t, t) (0, 0) = (t, t) := by
  unfold addI
  rw [vld_mk (x := (t, t)) h1 (Int.le_refl _) h2, show vld (0, 0) = true from rfl]
  simp only [Bool.and_true, cond_true, Int.add_zero, lim_in h1 h2]
theorem add_0' {t : Int} (h1 : -2147483648 ≤ t) (h2 : t ≤ 2147483648) : addI (0, 0) (t, t) = (t, t) := by
  unfold addI
  rw [vld_mk (x := (t, t)) h1 (Int.le_refl _) h2, show vld (0, 0) = true from rfl]
  simp only [Bool.and_true, cond_true, Int.zero_add, lim_in h1 h2]

theorem quarter_turn {k : Int} (h1 : 0 ≤ k) (h2 : k < 3) : turnM k (16384, 16384) = q3 k ∧ turnM k (32768, 32768) = h3 k ∧ compM (q3 k) (q3 k) = h3 k ∧ compM (h3 k) (h3 k) = unitM := by
  unfold turnM
  rw [ov_q1, ov_q2, ov_h1, ov_h2]
  have : k = 0 ∨ k = 1 ∨ k = 2 := by omega
  rcases this with rfl | rfl | rfl <;> exact ⟨rfl, rfl, by kernel_rfl, by kernel_rfl⟩

theorem half_half {k : Int} (h1 : 0 ≤ k) (h2 : k < 3) {a b c : Int} (a1 : -2147483648 ≤ a) (a2 : a ≤ 2147483648) (b1 : -2147483648 ≤ b) (b2 : b ≤ 2147483648) (c1 : -2147483648 ≤ c) (c2 : c ≤ 2147483648) :
    applyM (h3 k) (applyM (h3 k) ((a, a), ((b, b), (c, c)))) = ((a, a), ((b, b), (c, c))) := by
  have z1 : (-2147483648 : Int) ≤ 0 := by decide
  have z2 : (0 : Int) ≤ 2147483648 := by decide
  have a3 : -2147483648 ≤ -a := by omega
  have a4 : -a ≤ 2147483648 := by omega
  have b3 : -2147483648 ≤ -b := by omega
  have b4 : -b ≤ 2147483648 := by omega
  have c3 : -2147483648 ≤ -c := by omega
  have c4 : -c ≤ 2147483648 := by omega
  have : k = 0 ∨ k = 1 ∨ k = 2 := by omega
  rcases this with rfl | rfl | rfl
  all_goals
    simp only [h3, applyM, dotI, Int.reduceEq, if_true, if_false, mul_1 a1 a2, mul_1 b1 b2, mul_1 c1 c2, mul_m1 a1 a2, mul_m1 b1 b2, mul_m1 c1 c2, mul_m1 a3 a4, mul_m1 b3 b4, mul_m1 c3 c4,
      mul_0 a1 a2, mul_0 b1 b2, mul_0 c1 c2, mul_0 a3 a4, mul_0 b3 b4, mul_0 c3 c4, add_0 a1 a2, add_0 b1 b2, add_0 c1 c2, add_0 a3 a4, add_0 b3 b4, add_0 c3 c4, add_0' a1 a2, add_0' b1 b2, add_0' c1 c2, add_0' a3 a4, add_0' b3 b4, add_0' c3 c4,
      add_0 z1 z2, Int.neg_neg]

theorem axis_kept {a b c : Int} (a1 : -2147483648 ≤ a) (a2 : a ≤ 2147483648) (b1 : -2147483648 ≤ b) (b2 : b ≤ 2147483648) (c1 : -2147483648 ≤ c) (c2 : c ≤ 2147483648) :
    (applyM (q3 0) ((a, a), ((b, b), (c, c)))).1 = (a, a) ∧ (applyM (q3 1) ((a, a), ((b, b), (c, c)))).2.1 = (b, b) ∧ (applyM (q3 2) ((a, a), ((b, b), (c, c)))).2.2 = (c, c) := by
  have z1 : (-2147483648 : Int) ≤ 0 := by decide
  have z2 : (0 : Int) ≤ 2147483648 := by decide
  simp only [q3, applyM, dotI, Int.reduceEq, if_true, if_false, mul_1 a1 a2, mul_1 b1 b2, mul_1 c1 c2, mul_0 a1 a2, mul_0 b1 b2, mul_0 c1 c2, add_0 a1 a2, add_0 b1 b2, add_0 c1 c2, add_0' a1 a2, add_0' b1 b2, add_0' c1 c2, add_0 z1 z2, and_self]

theorem quarters_law (a : Int) (v : Int × (Int × Int)) : dom_armplanlaw4_MatrixQuarters a v = true ∧ armplanlaw4_MatrixQuarters a v = true := by
  obtain ⟨r1, r2⟩ := round_eq (n := a) (k := 3) (by omega) (by omega)
  have x1 := lim_bd v.1
  have x2 := lim_bd v.2.1
  have x3 := lim_bd v.2.2
  obtain ⟨q1, q2, q3', q4⟩ := quarter_turn r1 r2
  have hh := half_half r1 r2 x1.1 x1.2 x2.1 x2.2 x3.1 x3.2
  obtain ⟨k1, k2, k3⟩ := axis_kept x1.1 x1.2 x2.1 x2.2 x3.1 x3.2
  have l1 : (lim 16384, lim 16384) = (16384, 16384) := rfl
  have l2 : (lim 32768, lim 32768) = (32768, 32768) := rfl
  unfold dom_armplanlaw4_MatrixQuarters armplanlaw4_MatrixQuarters t_armplanlaw4_MatrixQuarters
  simp only [turnF, compF, pointF, applyF, unitR, awake4, ofR_eq, l1, l2, q1, q2, q3', q4, hh, pointV, Tr.dom, Tr.ok, Tr.val]
  generalize armplanmake_Round a 3 = k at *
  have : k = 0 ∨ k = 1 ∨ k = 2 := by omega
  rcases this with rfl | rfl | rfl
  · simp [k1]
  · simp [k2]
  · simp [k3]

end Go.RX

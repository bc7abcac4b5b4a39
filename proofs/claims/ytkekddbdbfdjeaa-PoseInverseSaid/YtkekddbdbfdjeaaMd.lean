/-
  Laws of the matrices: parts, quarters, sums of angles.
-/
import Derived.Test.YtkekddbdbfdjeaaMc
namespace Go.RX
open Go

/- PARTS -/

theorem shl_one {r : Int} (h1 : 0 ≤ r) (h2 : r < 27) : 16 ≤ shlI .i64 1 (IntKind.wrap .u64 (IntKind.wrap .i64 (4 + r))) ∧ shlI .i64 1 (IntKind.wrap .u64 (IntKind.wrap .i64 (4 + r))) ≤ 1073741824 ∧ 0 ≤ IntKind.wrap .u64 (IntKind.wrap .i64 (4 + r)) := by
  have : ∀ n : Nat, n < 27 → 16 ≤ shlI .i64 1 (IntKind.wrap .u64 (IntKind.wrap .i64 (4 + (n : Int)))) ∧ shlI .i64 1 (IntKind.wrap .u64 (IntKind.wrap .i64 (4 + (n : Int)))) ≤ 1073741824 ∧ 0 ≤ IntKind.wrap .u64 (IntKind.wrap .i64 (4 + (n : Int))) := by decide
  have h := this r.toNat (by omega)
  rwa [show ((r.toNat : Nat) : Int) = r by omega] at h

theorem interval_ok (x w : Int) : dom_armplanmake_Interval x w = true ∧ vld (armplanmake_Interval x w) = true := by
  unfold dom_armplanmake_Interval armplanmake_Interval t_armplanmake_Interval
  simp only [Tr.dom, Tr.ok, Tr.val, clampR_eq]
  obtain ⟨r1, r2⟩ := round_eq (n := shrI .i64 x 3) (k := 27) (by omega) (by omega)
  obtain ⟨s1, s2, s3⟩ := shl_one r1 r2
  generalize armplanmake_Round (shrI .i64 x 3) 27 = r at *
  generalize IntKind.wrap .u64 (IntKind.wrap .i64 (4 + r)) = u at *
  generalize shlI .i64 1 u = t at *
  rw [decide_eq_true s3]
  have e1 : IntKind.wrap .i64 (2 * t) = 2 * t := wrap64 (by omega) (by omega)
  have e2 : IntKind.wrap .i64 (2 * t + 1) = 2 * t + 1 := wrap64 (by omega) (by omega)
  have e3 : IntKind.wrap .i64 (Int.tdiv t 8) = t / 8 := by rw [Int.tdiv_eq_ediv_of_nonneg (by omega)]; exact wrap64 (by omega) (by omega)
  have e4 : IntKind.wrap .i64 (1 + t / 8) = 1 + t / 8 := wrap64 (by omega) (by omega)
  obtain ⟨a1, a2⟩ := round_eq (n := x) (k := 2 * t + 1) (by omega) (by omega)
  obtain ⟨b1, b2⟩ := round_eq (n := w) (k := 2 * t + 1) (by omega) (by omega)
  obtain ⟨c1, c2⟩ := round_eq (n := shrI .i64 w 1) (k := 1 + t / 8) (by omega) (by omega)
  have d1 := dom_round (n := x) (k := 2 * t + 1) (by omega)
  have d2 := dom_round (n := w) (k := 2 * t + 1) (by omega)
  have d3 := dom_round (n := shrI .i64 w 1) (k := 1 + t / 8) (by omega)
  simp only [e1, e2, e3, e4, d1, d2, d3, cond_true]
  generalize armplanmake_Round x (2 * t + 1) = a at *
  generalize armplanmake_Round w (2 * t + 1) = b at *
  generalize armplanmake_Round (shrI .i64 w 1) (1 + t / 8) = c at *
  have l1 := lim_bd (IntKind.wrap .i64 (a - t))
  have l2 := lim_bd (IntKind.wrap .i64 (b - t))
  have l3 := lim_bd (IntKind.wrap .i64 (IntKind.wrap .i64 (a - t) + c))
  cases decide (bitI .and .i64 w 1 = 0) with
  | true =>
    refine ⟨rfl, vld_mk ?_ ?_ ?_⟩ <;> dsimp only [cond_true] <;> (repeat' split) <;> omega
  | false =>
    refine ⟨rfl, vld_mk ?_ ?_ ?_⟩ <;> dsimp only [cond_false] <;> (repeat' split) <;> omega

theorem part_wtn {a : Int × Int} (hv : vld a = true) (m n : Int) : dom_armplanmake_Part a m n = true ∧ wtn (armplanmake_Part a m n) a = true := by
  obtain ⟨d, h1, h2, h3⟩ := part_ok hv m n
  have b := vld_bd hv
  exact ⟨d, wtn_iff.2 ⟨vld_mk (by omega) (by omega) (by omega), hv, h1, h3⟩⟩

/- QUARTERS -/

def q3 (k : Int) : M3 := if k = 0 then (((65536, 65536), ((0, 0), (0, 0))), (((0, 0), ((0, 0), (-65536, -65536))), ((0, 0), ((65536, 65536), (0, 0)))))
  else if k = 1 then (((0, 0), ((0, 0), (65536, 65536))), (((0, 0), ((65536, 65536), (0, 0))), ((-65536, -65536), ((0, 0), (0, 0)))))
  else (((0, 0), ((-65536, -65536), (0, 0))), (((65536, 65536), ((0, 0), (0, 0))), ((0, 0), ((0, 0), (65536, 65536)))))
def h3 (k : Int) : M3 := if k = 0 then (((65536, 65536), ((0, 0), (0, 0))), (((0, 0), ((-65536, -65536), (0, 0))), ((0, 0), ((0, 0), (-65536, -65536)))))
  else if k = 1 then (((-65536, -65536), ((0, 0), (0, 0))), (((0, 0), ((65536, 65536), (0, 0))), ((0, 0), ((0, 0), (-65536, -65536)))))
  else (((-65536, -65536), ((0, 0), (0, 0))), (((0, 0), ((-65536, -65536), (0, 0))), ((0, 0), ((0, 0), (65536, 65536)))))

theorem ov_q1 : ov 0 (16384, 16384) = (65536, 65536) := by kernel_rfl
theorem ov_q2 : ov 16384 (16384, 16384) = (0, 0) := by kernel_rfl
theorem ov_h1 : ov 0 (32768, 32768) = (0, 0) := by kernel_rfl
theorem ov_h2 : ov 16384 (32768, 32768) = (-65536, -65536) := by kernel_rfl

theorem lim_in {t : Int} (h1 : -2147483648 ≤ t) (h2 : t ≤ 2147483648) : lim t = t := by unfold lim; omega
theorem mul_1 {t : Int} (h1 : -2147483648 ≤ t) (h2 : t ≤ 2147483648) : mulI (65536, 65536) (t, t) = (t, t) := by
  unfold mulI mn4 mx4
  rw [vld_mk (x := (t, t)) h1 (Int.le_refl _) h2, show vld (65536, 65536) = true from rfl]
  simp only [Bool.and_true, cond_true]
  rw [show min (min (65536 * t) (65536 * t)) (min (65536 * t) (65536 * t)) = 65536 * t by omega, show max (max (65536 * t) (65536 * t)) (max (65536 * t) (65536 * t)) = 65536 * t by omega,
    show 65536 * t / 65536 = t by omega, show -(-(65536 * t) / 65536) = t by omega, lim_in h1 h2]
theorem mul_m1 {t : Int} (h1 : -2147483648 ≤ t) (h2 : t ≤ 2147483648) : mulI (-65536, -65536) (t, t) = (-t, -t) := by
  unfold mulI mn4 mx4
  rw [vld_mk (x := (t, t)) h1 (Int.le_refl _) h2, show vld (-65536, -65536) = true from rfl]
  simp only [Bool.and_true, cond_true]
  rw [show min (min (-65536 * t) (-65536 * t)) (min (-65536 * t) (-65536 * t)) = -65536 * t by omega, show max (max (-65536 * t) (-65536 * t)) (max (-65536 * t) (-65536 * t)) = -65536 * t by omega,
    show -65536 * t / 65536 = -t by omega, show -(-(-65536 * t) / 65536) = -t by omega, lim_in (by omega) (by omega)]
theorem mul_0 {t : Int} (h1 : -2147483648 ≤ t) (h2 : t ≤ 2147483648) : mulI (0, 0) (t, t) = (0, 0) := by
  unfold mulI mn4 mx4
  rw [vld_mk (x := (t, t)) h1 (Int.le_refl _) h2, show vld (0, 0) = true from rfl]
  simp only [Bool.and_true, cond_true, Int.zero_mul]
  rfl
theorem add_0 {t : Int} (h1 : -2147483648 ≤ t) (h2 : t ≤ 2147483648) : addI (t, t) (0, 0) = (t, t) := by
  unfold addI
  rw [vld_mk (x := (t, t)) h1 (Int.le_refl _) h2, show vld (0, 0) = true from rfl]
  simp only [Bool.and_true, cond_true, Int.add_zero, lim_in h1 h2]
theorem add_0' {t : Int} (h1 : -2147483648 ≤ t) (h2 : t ≤ 2147483648) : addI (0, 0) (t, t) = (t, t) := by
  unfold addI
  rw [vld_mk (x := (t, t)) h1 (Int.le_refl _) h2, show vld (0, 0) = true from rfl]
  simp only [Bool.and_true, cond_true, Int.zero_add, lim_in h1 h2]

theorem quarter_turn {k : Int} (h1 : 0 ≤ k) (h2 : k < 3) : turnM k (16384, 16384) = q3 k ∧ turnM k (32768, 32768) = h3 k ∧ compM (q3 k) (q3 k) = h3 k ∧ compM (h3 k) (h3 k) = unitM := by
  unfold turnM
  rw [ov_q1, ov_q2, ov_h1, ov_h2]
  have : k = 0 ∨ k = 1 ∨ k = 2 := by omega
  rcases this with rfl | rfl | rfl <;> exact ⟨rfl, rfl, by kernel_rfl, by kernel_rfl⟩

theorem half_half {k : Int} (h1 : 0 ≤ k) (h2 : k < 3) {a b c : Int} (a1 : -2147483648 ≤ a) (a2 : a ≤ 2147483648) (b1 : -2147483648 ≤ b) (b2 : b ≤ 2147483648) (c1 : -2147483648 ≤ c) (c2 : c ≤ 2147483648) :
    applyM (h3 k) (applyM (h3 k) ((a, a), ((b, b), (c, c)))) = ((a, a), ((b, b), (c, c))) := by
  have z1 : (-2147483648 : Int) ≤ 0 := by decide
  have z2 : (0 : Int) ≤ 2147483648 := by decide
  have a3 : -2147483648 ≤ -a := by omega
  have a4 : -a ≤ 2147483648 := by omega
  have b3 : -2147483648 ≤ -b := by omega
  have b4 : -b ≤ 2147483648 := by omega
  have c3 : -2147483648 ≤ -c := by omega
  have c4 : -c ≤ 2147483648 := by omega
  have : k = 0 ∨ k = 1 ∨ k = 2 := by omega
  rcases this with rfl | rfl | rfl
  all_goals
    simp only [h3, applyM, dotI, Int.reduceEq, if_true, if_false, mul_1 a1 a2, mul_1 b1 b2, mul_1 c1 c2, mul_m1 a1 a2, mul_m1 b1 b2, mul_m1 c1 c2, mul_m1 a3 a4, mul_m1 b3 b4, mul_m1 c3 c4,
      mul_0 a1 a2, mul_0 b1 b2, mul_0 c1 c2, mul_0 a3 a4, mul_0 b3 b4, mul_0 c3 c4, add_0 a1 a2, add_0 b1 b2, add_0 c1 c2, add_0 a3 a4, add_0 b3 b4, add_0 c3 c4, add_0' a1 a2, add_0' b1 b2, add_0' c1 c2, add_0' a3 a4, add_0' b3 b4, add_0' c3 c4,
      add_0 z1 z2, Int.neg_neg]

theorem axis_kept {a b c : Int} (a1 : -2147483648 ≤ a) (a2 : a ≤ 2147483648) (b1 : -2147483648 ≤ b) (b2 : b ≤ 2147483648) (c1 : -2147483648 ≤ c) (c2 : c ≤ 2147483648) :
    (applyM (q3 0) ((a, a), ((b, b), (c, c)))).1 = (a, a) ∧ (applyM (q3 1) ((a, a), ((b, b), (c, c)))).2.1 = (b, b) ∧ (applyM (q3 2) ((a, a), ((b, b), (c, c)))).2.2 = (c, c) := by
  have z1 : (-2147483648 : Int) ≤ 0 := by decide
  have z2 : (0 : Int) ≤ 2147483648 := by decide
  simp only [q3, applyM, dotI, Int.reduceEq, if_true, if_false, mul_1 a1 a2, mul_1 b1 b2, mul_1 c1 c2, mul_0 a1 a2, mul_0 b1 b2, mul_0 c1 c2, add_0 a1 a2, add_0 b1 b2, add_0 c1 c2, add_0' a1 a2, add_0' b1 b2, add_0' c1 c2, add_0 z1 z2, and_self]

end Go.RX

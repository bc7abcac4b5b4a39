/-
  Law of the circle; the sines over intervals.
-/
import Derived.Test.YtkekddbdbfdjeaaPd
namespace Go.RX
open Go

theorem sq_cast (n : Nat) : (n : Int) * (n : Int) = ((n * n : Nat) : Int) := rfl
theorem sq_bd {n : Nat} (h : n ≤ 65536) : n * n ≤ 4294967296 := Nat.le_trans (Nat.mul_le_mul h h) (by decide)

theorem Square_eq {n m : Nat} (h : n ≤ m) (hm : m ≤ 65536) {x : Int × Int} (hx : x = ((n : Int), (m : Int)) ∨ x = (-(m : Int), -(n : Int))) :
    armplanref1_Square x = (((n * n / 65536 : Nat) : Int), ((upN (m * m) 65536 : Nat) : Int)) := by
  have hn2 := sq_bd (n := n) (by omega)
  have hm2 := sq_bd hm
  have hnm : n * n ≤ m * m := Nat.mul_le_mul h h
  have hv : armplanref1_Valid x = true := by rw [Valid_eq, decide_eq_true_eq]; rcases hx with rfl | rfl <;> dsimp only <;> omega
  have hu : upN (m * m) 65536 ≤ 65536 := by unfold upN; omega
  have hf : armplanref1_Floor ((n * n : Nat) : Int) 65536 = ((n * n / 65536 : Nat) : Int) := by
    rw [Floor_pos (by omega) (by omega) (by omega)]; rfl
  have hc : armplanref1_Ceil ((m * m : Nat) : Int) 65536 = ((upN (m * m) 65536 : Nat) : Int) := Ceil_pos (b := 65536) (by omega) (by omega)
  have hl : armplanref1_limited (armplanref1_Floor ((n * n : Nat) : Int) 65536) (armplanref1_Ceil ((m * m : Nat) : Int) 65536) = (((n * n / 65536 : Nat) : Int), ((upN (m * m) 65536 : Nat) : Int)) := by
    rw [hf, hc, limited_eq (by omega) (by omega) (by omega) (by omega)]
  have hz : n = 0 → armplanref1_Floor 0 65536 = armplanref1_Floor ((n * n : Nat) : Int) 65536 := by intro e; subst e; rfl
  unfold armplanref1_Square t_armplanref1_Square
  simp only [Tr.val, hv, Bool.not_true, cond_false]
  rcases hx with rfl | rfl
  · simp only [sq_cast]
    rw [wrap64 (x := ((n * n : Nat) : Int)) (by omega) (by omega), wrap64 (x := ((m * m : Nat) : Int)) (by omega) (by omega)]
    have e1 : (if ((m * m : Nat) : Int) < ((n * n : Nat) : Int) then ((m * m : Nat) : Int) else ((n * n : Nat) : Int)) = ((n * n : Nat) : Int) := by split <;> omega
    have e2 : (if ((m * m : Nat) : Int) > ((n * n : Nat) : Int) then ((m * m : Nat) : Int) else ((n * n : Nat) : Int)) = ((m * m : Nat) : Int) := by split <;> omega
    rw [e1, e2]
    by_cases hn : n = 0
    · rw [hz hn, decide_eq_true (show (n : Int) ≤ 0 by omega), decide_eq_true (show 0 ≤ (m : Int) by omega)]; exact hl
    · rw [decide_eq_false (show ¬ (n : Int) ≤ 0 by omega)]; exact hl
  · simp only [Int.neg_mul_neg, sq_cast]
    rw [wrap64 (x := ((n * n : Nat) : Int)) (by omega) (by omega), wrap64 (x := ((m * m : Nat) : Int)) (by omega) (by omega)]
    have e1 : (if ((n * n : Nat) : Int) < ((m * m : Nat) : Int) then ((n * n : Nat) : Int) else ((m * m : Nat) : Int)) = ((n * n : Nat) : Int) := by split <;> omega
    have e2 : (if ((n * n : Nat) : Int) > ((m * m : Nat) : Int) then ((n * n : Nat) : Int) else ((m * m : Nat) : Int)) = ((m * m : Nat) : Int) := by split <;> omega
    rw [e1, e2]
    rw [decide_eq_true (show -(m : Int) ≤ 0 by omega)]
    by_cases hn : n = 0
    · rw [hz hn, decide_eq_true (show 0 ≤ -(n : Int) by omega)]; exact hl
    · rw [decide_eq_false (show ¬ 0 ≤ -(n : Int) by omega)]; exact hl

theorem Add_eq {x y : Int × Int} (hx : armplanref1_Valid x = true) (hy : armplanref1_Valid y = true) (h1 : -2147483648 ≤ x.1 + y.1) (h2 : x.1 + y.1 ≤ 2147483648) (h3 : -2147483648 ≤ x.2 + y.2) (h4 : x.2 + y.2 ≤ 2147483648) :
    armplanref1_Add x y = (x.1 + y.1, x.2 + y.2) := by
  unfold armplanref1_Add t_armplanref1_Add
  simp only [Tr.val, hx, hy, Bool.not_true, cond_false]
  rw [wrap64 (by omega) (by omega), wrap64 (by omega) (by omega), limited_eq h1 h2 h3 h4]

theorem Within_eq {x y : Int × Int} : armplanref1_Within x y = (armplanref1_Valid x && armplanref1_Valid y && decide (y.1 ≤ x.1 ∧ x.2 ≤ y.2)) := by
  unfold armplanref1_Within t_armplanref1_Within
  simp only [Tr.val]
  cases armplanref1_Valid x <;> cases armplanref1_Valid y <;> by_cases h1 : y.1 ≤ x.1 <;> by_cases h2 : x.2 ≤ y.2 <;> simp [h1, h2]

theorem within_S (a : Int) : armplanref1_Within (S a) (-65536, 65536) = true := by
  have hb := S_bd a
  rw [Within_eq, Valid_eq, Valid_eq]
  simp only [Bool.and_eq_true, decide_eq_true_eq]
  omega

theorem circ_at {r : Nat} (hr : r ≤ 16384) : circ (qN r) (qN (16384 - r)) = true := by
  rcases Nat.lt_or_ge r 16384 with h | h
  · exact (ok_at h).2.2.2.2.2
  · have : r = 16384 := by omega
    subst this
    rw [show 16384 - 16384 = 0 by omega, q1, q0]; rfl

end Go.RX

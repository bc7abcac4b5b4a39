/-
  Laws of the sine: symmetry, rising, circle.
-/
import Derived.Test.YtkekddbdbfdjeaaPc
namespace Go.RX
open Go

theorem round_eq {n k : Int} (hk : 0 < k) (hk2 : k ≤ 4611686018427387904) : 0 ≤ armplanmake_Round n k ∧ armplanmake_Round n k < k := by
  unfold armplanmake_Round t_armplanmake_Round
  have hne : (!decide (k = 0)) = true := by simp; omega
  simp only [Tr.val, hne, cond_true]
  have h1 := Int.tmod_lt_of_pos n hk
  have h2 : -k < Int.tmod n k := by
    have := Int.tmod_lt_of_pos (-n) hk
    rw [Int.neg_tmod] at this
    omega
  by_cases h : Int.tmod n k < 0
  · rw [decide_eq_true h, cond_true, wrap64 (by omega) (by omega)]; omega
  · rw [decide_eq_false h, cond_false]; omega

theorem eq2 {x y : Int × Int} (h : x = y) : (decide (x.1 = y.1) && (decide (x.2 = y.2) && true)) = true := by rw [h]; simp

theorem clamp_eq {x : Int} (h1 : -2147483648 ≤ x) (h2 : x ≤ 2147483648) : armplanref1_Clamp x = x := by
  unfold armplanref1_Clamp t_armplanref1_Clamp
  simp only [Tr.val]
  rw [if_neg (show ¬ 2147483648 < x by omega)]
  split <;> omega

theorem limited_eq {x y : Int} (h1 : -2147483648 ≤ x) (h2 : x ≤ 2147483648) (h3 : -2147483648 ≤ y) (h4 : y ≤ 2147483648) : armplanref1_limited x y = (x, y) := by
  unfold armplanref1_limited t_armplanref1_limited
  simp only [Tr.val, clamp_eq h1 h2, clamp_eq h3 h4]

theorem Floor_pos {a b : Int} (ha : 0 ≤ a) (hb : 0 < b) (ha2 : a ≤ 9223372036854775807) : armplanref1_Floor a b = a / b := by
  unfold armplanref1_Floor t_armplanref1_Floor
  have hne : (!decide (b = 0)) = true := by simp; omega
  have h0 : 0 ≤ a / b := Int.ediv_nonneg ha (by omega)
  have h1 : a / b ≤ a := Int.ediv_le_self _ ha
  have h2 : 0 ≤ a % b := Int.emod_nonneg _ (by omega)
  simp only [Tr.val, hne, cond_true, Int.tdiv_eq_ediv_of_nonneg ha, Int.tmod_eq_emod_of_nonneg ha]
  rw [decide_eq_false (show ¬ a % b < 0 by omega), cond_false, wrap64 (by omega) (by omega)]

theorem Ceil_pos {a b : Nat} (hb : 0 < b) (ha2 : a + b ≤ 9223372036854775807) : armplanref1_Ceil (a : Int) (b : Int) = ((upN a b : Nat) : Int) := by
  unfold armplanref1_Ceil t_armplanref1_Ceil
  have hne : (!decide ((b : Int) = 0)) = true := by simp; omega
  have h1 : a / b ≤ a := Nat.div_le_self _ _
  simp only [Tr.val, hne, cond_true]
  rw [Int.tdiv_eq_ediv_of_nonneg (by omega), Int.tmod_eq_emod_of_nonneg (by omega)]
  have e1 : (a : Int) / (b : Int) = ((a / b : Nat) : Int) := rfl
  have e2 : (a : Int) % (b : Int) = ((a % b : Nat) : Int) := rfl
  rw [e1, e2]
  have hu : upN a b = if 0 < a % b then a / b + 1 else a / b := by
    unfold upN
    have hd := Nat.div_add_mod a b
    have hm := Nat.mod_lt a hb
    generalize a / b = q at *
    generalize a % b = r at *
    split
    · rw [Nat.div_eq_iff (by omega)]
      rw [← hd]
      have : (q + 1) * b = b * q + b := by rw [Nat.mul_comm, Nat.mul_add, Nat.mul_one]
      rw [this]; omega
    · rw [Nat.div_eq_iff (by omega)]
      rw [← hd]
      have : q * b = b * q := Nat.mul_comm _ _
      rw [this]; omega
  rw [hu]
  generalize a % b = r at *
  generalize a / b = q at *
  by_cases h : 0 < r
  · rw [decide_eq_true (by omega), cond_true, if_pos h, wrap64 (x := (q : Int)) (by omega) (by omega), wrap64 (by omega) (by omega)]; rfl
  · rw [decide_eq_false (by omega), cond_false, if_neg h, wrap64 (by omega) (by omega)]

end Go.RX

/-
  Laws of the sine: symmetry, rising, circle.
-/
import Derived.Test.YtlikaaohkecccaaPc
namespace Go.RX
open Go

theorem round_eq {n k : Int} (hk : 0 < k) (hk2 : k ≤ 4611686018427387904) : 0 ≤ armplanmake_Round n k ∧ armplanmake_Round n k < k := by
  unfold armplanmake_Round t_armplanmake_Round
  have hne : (!decide (k = 0)) = true := by simp; omega
  simp only [Tr.val, hne, cond_true]
  have h1 := Int.tmod_lt_of_pos n hk
  have h2 : -k < Int.tmod n k := by
    have := Int.tmod_lt_of_pos (-n) hk
    rw [Int.neg_tmod] at this
    omega
  by_cases h : Int.tmod n k < 0
  · rw [decide_eq_true h, cond_true, wrap64 (by omega) (by omega)]; omega
  · rw [decide_eq_false h, cond_false]; omega

theorem eq2 {x y : Int × Int} (h : x = y) : (decide (x.1 = y.1) && (decide (x.2 = y.2) && true)) = true := by rw [h]; simp

theorem symmetry_law (a : Int) : armplanlaw3_AngleSymmetry a = true := by
  obtain ⟨h1, h2⟩ := round_eq (n := a) (k := 262144) (by omega) (by omega)
  unfold armplanlaw3_AngleSymmetry t_armplanlaw3_AngleSymmetry
  simp only [awake3, sin_eq, cos_eq2]
  generalize armplanmake_Round a 262144 = i at *
  rw [wrap64 (x := i - 131072) (by omega) (by omega)]
  obtain ⟨x, hx⟩ : ∃ x, x = i - 131072 := ⟨_, rfl⟩
  rw [← hx]
  have hb := S_bd x
  rw [Neg_eq (x := S x) ⟨by omega, by omega, by omega⟩]
  rw [wrap64 (x := x + 65536) (by omega) (by omega), wrap64 (x := x - 65536) (by omega) (by omega), wrap64 (x := 0 - x) (by omega) (by omega), wrap64 (x := 32768 - x) (by omega) (by omega), wrap64 (x := x + 32768) (by omega) (by omega), wrap64 (x := 16384 - x) (by omega) (by omega)]
  have c : S (16384 - x) = S (x + 16384) := by
    have := S_half (-(x + 16384))
    rw [S_neg, ng_ng] at this
    rw [← this]; exact S_congr (by omega)
  refine tr_bool _ _ _ rfl (tr_bool _ _ _ (eq2 (S_turn x)) (tr_bool _ _ _ (eq2 (S_congr (by omega))) (tr_bool _ _ _ (eq2 ?_) (tr_bool _ _ _ (eq2 ?_) (tr_bool _ _ _ (eq2 ?_) (tr_bool _ _ _ (eq2 (S_half x)) (eq2 c.symm)))))))
  · rw [← S_neg]; exact S_congr (by omega)
  · rw [← c]; exact S_congr (by omega)
  · have := S_half (-x)
    rw [S_neg, ng_ng] at this
    rw [← this]; exact S_congr (by omega)

theorem rises_law (a : Int) : armplanlaw3_AngleRises a = true := by
  obtain ⟨h1, h2⟩ := round_eq (n := a) (k := 16384) (by omega) (by omega)
  unfold armplanlaw3_AngleRises t_armplanlaw3_AngleRises
  simp only [awake3, sin_eq, cos_eq2]
  generalize armplanmake_Round a 16384 = i at *
  obtain ⟨r, rfl⟩ : ∃ r : Nat, i = (r : Int) := ⟨i.toNat, by omega⟩
  rw [wrap64 (x := (r : Int) + 1) (by omega) (by omega)]
  rw [S_of (m := r) (by omega), S_of (a := (r : Int) + 1) (m := r + 1) (by omega), S_of (a := (r : Int) + 16384) (m := r + 16384) (by omega), S_of (a := (r : Int) + 1 + 16384) (m := r + 1 + 16384) (by omega)]
  rw [sin_1 (m := r) (by omega), sin_1 (m := r + 1) (by omega), sin_2 (m := r + 16384) (by omega) (by omega), sin_2 (m := r + 1 + 16384) (by omega) (by omega)]
  obtain ⟨m1, m2⟩ := q_mono (r := r) (t := r + 1) (by omega) (by omega)
  obtain ⟨m3, m4⟩ := q_mono (r := 32768 - (r + 1 + 16384)) (t := 32768 - (r + 16384)) (by omega) (by omega)
  have key : ∀ a1 a2 a3 a4 : Nat × Nat, a1.1 ≤ a2.1 → a1.2 ≤ a2.2 → a4.1 ≤ a3.1 → a4.2 ≤ a3.2 →
      (Tr.br true (.br (decide ((pos a1).1 ≤ (pos a2).1)) (.br (decide ((pos a1).2 ≤ (pos a2).2)) (.br (decide ((pos a4).1 ≤ (pos a3).1)) (.leaf (decide ((pos a4).2 ≤ (pos a3).2))) (.leaf false)) (.leaf false)) (.leaf false)) (.leaf false)).val = true := by
    intro a1 a2 a3 a4 k1 k2 k3 k4
    simp only [pos]
    exact tr_bool _ _ _ rfl (tr_bool _ _ _ (decide_eq_true (by omega)) (tr_bool _ _ _ (decide_eq_true (by omega)) (tr_bool _ _ _ (decide_eq_true (by omega)) (decide_eq_true (by omega)))))
  exact key _ _ _ _ m1 m2 m3 m4

theorem clamp_eq {x : Int} (h1 : -2147483648 ≤ x) (h2 : x ≤ 2147483648) : armplanref1_Clamp x = x := by
  unfold armplanref1_Clamp t_armplanref1_Clamp
  simp only [Tr.val]
  rw [if_neg (show ¬ 2147483648 < x by omega)]
  split <;> omega

theorem limited_eq {x y : Int} (h1 : -2147483648 ≤ x) (h2 : x ≤ 2147483648) (h3 : -2147483648 ≤ y) (h4 : y ≤ 2147483648) : armplanref1_limited x y = (x, y) := by
  unfold armplanref1_limited t_armplanref1_limited
  simp only [Tr.val, clamp_eq h1 h2, clamp_eq h3 h4]

theorem Floor_pos {a b : Int} (ha : 0 ≤ a) (hb : 0 < b) (ha2 : a ≤ 9223372036854775807) : armplanref1_Floor a b = a / b := by
  unfold armplanref1_Floor t_armplanref1_Floor
  have hne : (!decide (b = 0)) = true := by simp; omega
  have h0 : 0 ≤ a / b := Int.ediv_nonneg ha (by omega)
  have h1 : a / b ≤ a := Int.ediv_le_self _ ha
  have h2 : 0 ≤ a % b := Int.emod_nonneg _ (by omega)
  simp only [Tr.val, hne, cond_true, Int.tdiv_eq_ediv_of_nonneg ha, Int.tmod_eq_emod_of_nonneg ha]
  rw [decide_eq_false (show ¬ a % b < 0 by omega), cond_false, wrap64 (by omega) (by omega)]

theorem Ceil_pos {a b : Nat} (hb : 0 < b) (ha2 : a + b ≤ 9223372036854775807) : armplanref1_Ceil (a : Int) (b : Int) = ((upN a b : Nat) : Int) := by
  unfold armplanref1_Ceil t_armplanref1_Ceil
  have hne : (!decide ((b : Int) = 0)) = true := by simp; omega
  have h1 : a / b ≤ a := Nat.div_le_self _ _
  simp only [Tr.val, hne, cond_true]
  rw [Int.tdiv_eq_ediv_of_nonneg (by omega), Int.tmod_eq_emod_of_nonneg (by omega)]
  have e1 : (a : Int) / (b : Int) = ((a / b : Nat) : Int) := rfl
  have e2 : (a : Int) % (b : Int) = ((a % b : Nat) : Int) := rfl
  rw [e1, e2]
  have hu : upN a b = if 0 < a % b then a / b + 1 else a / b := by
    unfold upN
    have hd := Nat.div_add_mod a b
    have hm := Nat.mod_lt a hb
    generalize a / b = q at *
    generalize a % b = r at *
    split
    · rw [Nat.div_eq_iff (by omega)]
      rw [← hd]
      have : (q + 1) * b = b * q + b := by rw [Nat.mul_comm, Nat.mul_add, Nat.mul_one]
      rw [this]; omega
    · rw [Nat.div_eq_iff (by omega)]
      rw [← hd]
      have : q * b = b * q := Nat.mul_comm _ _
      rw [this]; omega
  rw [hu]
  generalize a % b = r at *
  generalize a / b = q at *
  by_cases h : 0 < r
  · rw [decide_eq_true (by omega), cond_true, if_pos h, wrap64 (x := (q : Int)) (by omega) (by omega), wrap64 (by omega) (by omega)]; rfl
  · rw [decide_eq_false (by omega), cond_false, if_neg h, wrap64 (by omega) (by omega)]

end Go.RX

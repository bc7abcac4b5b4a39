/-
  The reference's sine is the program's: law of the values.
-/
import Derived.Test.YtkekddbdbfdjeaaPe
namespace Go.RX
open Go

theorem tdiv_bd {a b : Int} (h1 : -4611686018427387904 ≤ a) (h2 : a ≤ 4611686018427387904) : -4611686018427387904 ≤ Int.tdiv a b ∧ Int.tdiv a b ≤ 4611686018427387904 := by
  have h : (Int.tdiv a b).natAbs ≤ a.natAbs := by rw [Int.natAbs_tdiv]; exact Nat.div_le_self _ _
  omega

theorem Floor_eq {a b : Int} (hb : 0 < b) (h1 : -4611686018427387904 ≤ a) (h2 : a ≤ 4611686018427387904) : armplanref1_Floor a b = a / b := by
  unfold armplanref1_Floor t_armplanref1_Floor
  have hne : (!decide (b = 0)) = true := by simp; omega
  simp only [Tr.val, hne, cond_true]
  have e := Int.mul_tdiv_add_tmod a b
  have l1 := Int.tmod_lt_of_pos a hb
  have l2 := Int.lt_tmod_of_pos a hb
  have l3 := tdiv_bd (b := b) h1 h2
  generalize Int.tdiv a b = q at *
  generalize Int.tmod a b = r at *
  rw [wrap64 (x := q) (by omega) (by omega)]
  by_cases h : r < 0
  · rw [decide_eq_true h, cond_true, wrap64 (by omega) (by omega)]
    have := ((Int.ediv_emod_unique (a := a) (r := r + b) (q := q - 1) hb).2 ⟨by rw [Int.mul_sub, Int.mul_one]; omega, by omega, by omega⟩).1
    exact this.symm
  · rw [decide_eq_false h, cond_false]
    exact ((Int.ediv_emod_unique (a := a) (r := r) (q := q) hb).2 ⟨by omega, by omega, by omega⟩).1.symm

theorem Ceil_eq {a b : Int} (hb : 0 < b) (h1 : -4611686018427387904 ≤ a) (h2 : a ≤ 4611686018427387904) : armplanref1_Ceil a b = -(-a / b) := by
  unfold armplanref1_Ceil t_armplanref1_Ceil
  have hne : (!decide (b = 0)) = true := by simp; omega
  simp only [Tr.val, hne, cond_true]
  have e := Int.mul_tdiv_add_tmod a b
  have l1 := Int.tmod_lt_of_pos a hb
  have l2 := Int.lt_tmod_of_pos a hb
  have l3 := tdiv_bd (b := b) h1 h2
  generalize Int.tdiv a b = q at *
  generalize Int.tmod a b = r at *
  rw [wrap64 (x := q) (by omega) (by omega)]
  by_cases h : 0 < r
  · rw [decide_eq_true h, cond_true, wrap64 (by omega) (by omega)]
    have := ((Int.ediv_emod_unique (a := -a) (r := b - r) (q := -(q + 1)) hb).2 ⟨by rw [Int.mul_neg, Int.mul_add, Int.mul_one]; omega, by omega, by omega⟩).1
    rw [this]; omega
  · rw [decide_eq_false h, cond_false]
    have := ((Int.ediv_emod_unique (a := -a) (r := -r) (q := -q) hb).2 ⟨by rw [Int.mul_neg]; omega, by omega, by omega⟩).1
    rw [this]; omega

theorem FloorN {a : Nat} (b : Nat) (hb : 0 < b) (ha : a ≤ 4611686018427387904) : armplanref1_Floor (a : Int) (b : Int) = ((a / b : Nat) : Int) := by
  rw [Floor_eq (by omega) (by omega) (by omega)]; rfl

theorem lowS' {a b : Nat} (ha : a ≤ top1) (hb : b ≤ top1) : armplanref1_Floor (IntKind.wrap .i64 ((a : Int) * (b : Int))) 1073741824 = ((mulN a b : Nat) : Int) := by
  obtain ⟨h1, h2⟩ := mul_eq ha hb
  rw [h1]
  exact FloorN (a := a * b) 1073741824 (by omega) (by omega)
theorem upS' {a b : Nat} (ha : a ≤ top1) (hb : b ≤ top1) : armplanref1_Ceil (IntKind.wrap .i64 ((a : Int) * (b : Int))) 1073741824 = ((mulU a b : Nat) : Int) := by
  obtain ⟨h1, h2⟩ := mul_eq ha hb
  rw [h1]
  exact Ceil_pos (a := a * b) (b := 1073741824) (by omega) (by omega)
theorem lowK' {a : Nat} (ha : a ≤ top1) (k : Nat) : armplanref1_Floor (IntKind.wrap .i64 (((lowP a k : Nat) : Int) * (a : Int))) 1073741824 = ((lowP a (k + 1) : Nat) : Int) :=
  lowS' (Nat.le_trans (lowP_le ha k) ha) ha
theorem upK' {a : Nat} (ha : a ≤ top1) (k : Nat) : armplanref1_Ceil (IntKind.wrap .i64 (((uppP a k : Nat) : Int) * (a : Int))) 1073741824 = ((uppP a (k + 1) : Nat) : Int) :=
  upS' (Nat.le_trans (uppP_le ha k) ha) ha

theorem Pw_eq {x : Nat} (hx : x ≤ 8192) : armplanref1_powers (x : Int) = angle_powersOf (x : Int) := by
  rw [pw_eq hx]
  have e : armplanref1_Floor (IntKind.wrap .i64 ((x : Int) * 6746518852)) 65536 = ((lo1 x : Nat) : Int) := by
    rw [wrap64 (x := (x : Int) * 6746518852) (by omega) (by omega)]
    exact FloorN (a := x * 6746518852) 65536 (by omega) (by omega)
  have f : armplanref1_Ceil (IntKind.wrap .i64 ((x : Int) * 6746518853)) 65536 = ((hi1 x : Nat) : Int) := by
    rw [wrap64 (x := (x : Int) * 6746518853) (by omega) (by omega)]
    exact Ceil_pos (a := x * 6746518853) (b := 65536) (by omega) (by omega)
  have ha := lo1_le hx
  have hb := hi1_le hx
  unfold armplanref1_powers t_armplanref1_powers
  simp only [Tr.val]
  rw [e, f]
  generalize lo1 x = a at *
  generalize hi1 x = b at *
  have s1 : armplanref1_Floor (IntKind.wrap .i64 ((a : Int) * (a : Int))) 1073741824 = ((lowP a 1 : Nat) : Int) := lowK' ha 0
  have u1 : armplanref1_Ceil (IntKind.wrap .i64 ((b : Int) * (b : Int))) 1073741824 = ((uppP b 1 : Nat) : Int) := upK' hb 0
  rw [s1, u1, lowK' ha 1, upK' hb 1, lowK' ha 2, upK' hb 2, lowK' ha 3, upK' hb 3, lowK' ha 4, upK' hb 4, lowK' ha 5, upK' hb 5, lowK' ha 6, upK' hb 6, lowK' ha 7, upK' hb 7, lowK' ha 8, upK' hb 8]
  rfl

theorem Enc_eq {L : Int} {H : Nat} (h0 : -1099511627776 ≤ L) (h1 : L ≤ 1099511627776) (h2 : H ≤ 1099511627776) : armplanref1_enclosure L (H : Int) = angle_enclosure L (H : Int) := by
  rw [enc_eq h1 h2]
  unfold armplanref1_enclosure t_armplanref1_enclosure
  have hc : armplanref1_Ceil (H : Int) 16384 = ((upN H 16384 : Nat) : Int) := Ceil_pos (b := 16384) (by omega) (by omega)
  simp only [Tr.val, hc, encN]
  rw [Floor_eq (by omega) (by omega) (by omega)]
  have g1 : (if L / 16384 > 0 then L / 16384 else 0) = ((L.toNat / 16384 : Nat) : Int) := by
    split <;> omega
  have g2 : (if ((upN H 16384 : Nat) : Int) < 65536 then ((upN H 16384 : Nat) : Int) else 65536) = (((if upN H 16384 < 65536 then upN H 16384 else 65536) : Nat) : Int) := by
    by_cases h : upN H 16384 < 65536
    · rw [if_pos (by omega), if_pos h]
    · rw [if_neg (by omega), if_neg h]; rfl
  rw [g1, g2]

theorem FloC {x y : Nat} (hy : 0 < y) (h : x ≤ top1) : armplanref1_Floor (x : Int) (y : Int) = ((x / y : Nat) : Int) := FloorN y hy (by unfold top1 at h; omega)
theorem CeiC {x y : Nat} (h : x ≤ top1) (hy : 0 < y) (hy2 : y ≤ 3628800) : armplanref1_Ceil (x : Int) (y : Int) = ((upN x y : Nat) : Int) := Ceil_pos hy (by unfold top1 at h; omega)

theorem Sine_eq {x : Nat} (hx : x ≤ 8192) : armplanref1_sine (x : Int) = pos (sineN x) := by
  have ha := lo1_le hx
  have hb := hi1_le hx
  have hab := lo_hi x
  unfold armplanref1_sine t_armplanref1_sine
  simp only [Tr.val, Pw_eq hx, pw_eq hx]
  unfold sineN
  generalize lo1 x = a at *
  generalize hi1 x = b at *
  have la := fun k => Nat.le_trans (lowP_le ha k) ha
  have lb := fun k => Nat.le_trans (uppP_le hb k) hb
  have e1 : armplanref1_Ceil ((uppP b 2 : Nat) : Int) 6 = _ := CeiC (y := 6) (lb 2) (by omega) (by omega)
  have e2 : armplanref1_Floor ((lowP a 4 : Nat) : Int) 120 = _ := FloC (y := 120) (by omega) (la 4)
  have e3 : armplanref1_Ceil ((uppP b 6 : Nat) : Int) 5040 = _ := CeiC (y := 5040) (lb 6) (by omega) (by omega)
  have e4 : armplanref1_Floor ((lowP a 2 : Nat) : Int) 6 = _ := FloC (y := 6) (by omega) (la 2)
  have e5 : armplanref1_Ceil ((uppP b 4 : Nat) : Int) 120 = _ := CeiC (y := 120) (lb 4) (by omega) (by omega)
  have e6 : armplanref1_Floor ((lowP a 6 : Nat) : Int) 5040 = _ := FloC (y := 5040) (by omega) (la 6)
  have e7 : armplanref1_Ceil ((uppP b 8 : Nat) : Int) 362880 = _ := CeiC (y := 362880) (lb 8) (by omega) (by omega)
  have q1 := lowP_le ha 2
  have q2 : lowP a 6 ≤ a := lowP_le ha 6
  have l2 := la 2
  have l4 := la 4
  have l6 := la 6
  have k2 := lb 2
  have k4 := lb 4
  have k6 := lb 6
  have k8 := lb 8
  have hz : ((lowP a 0 : Nat) : Int) = (a : Int) := rfl
  have hz2 : ((uppP b 0 : Nat) : Int) = (b : Int) := rfl
  simp only [e1, e2, e3, e4, e5, e6, e7, hz, hz2]
  clear e1 e2 e3 e4 e5 e6 e7
  generalize lowP a 2 = p2 at *
  generalize lowP a 4 = p4 at *
  generalize lowP a 6 = p6 at *
  generalize uppP b 2 = u2 at *
  generalize uppP b 4 = u4 at *
  generalize uppP b 6 = u6 at *
  generalize uppP b 8 = u8 at *
  unfold top1 at *
  have w1 : upN u2 6 ≤ u2 + 1 := by unfold upN; omega
  have w2 : upN u6 5040 ≤ u6 + 1 := by unfold upN; omega
  have w3 : upN u4 120 ≤ u4 + 1 := by unfold upN; omega
  have w4 : upN u8 362880 ≤ u8 + 1 := by unfold upN; omega
  generalize upN u2 6 = v2 at *
  generalize upN u6 5040 = v6 at *
  generalize upN u4 120 = v4 at *
  generalize upN u8 362880 = v8 at *
  simp (disch := omega) only [wrapSmall]
  have hlow : (((a : Int) - (v2 : Int) + ((p4 / 120 : Nat) : Int) - (v6 : Int))).toNat = (a + p4 / 120) - (v2 + v6) := by omega
  have hhigh : ((b : Int) - ((p2 / 6 : Nat) : Int) + (v4 : Int) - ((p6 / 5040 : Nat) : Int) + (v8 : Int)) = (((b + v4 + v8) - (p2 / 6 + p6 / 5040) : Nat) : Int) := by omega
  rw [hhigh, Enc_eq (by omega) (by omega) (by omega), enc_eq (by omega) (by omega), hlow]
  rfl

theorem Cosine_eq {x : Nat} (hx : x ≤ 8192) : armplanref1_cosine (x : Int) = pos (cosN x) := by
  have ha := lo1_le hx
  have hb := hi1_le hx
  have hab := lo_hi x
  unfold armplanref1_cosine t_armplanref1_cosine
  simp only [Tr.val, Pw_eq hx, pw_eq hx]
  unfold cosN
  generalize lo1 x = a at *
  generalize hi1 x = b at *
  have la := fun k => Nat.le_trans (lowP_le ha k) ha
  have lb := fun k => Nat.le_trans (uppP_le hb k) hb
  have e1 : armplanref1_Ceil ((uppP b 1 : Nat) : Int) 2 = _ := CeiC (y := 2) (lb 1) (by omega) (by omega)
  have e2 : armplanref1_Floor ((lowP a 3 : Nat) : Int) 24 = _ := FloC (y := 24) (by omega) (la 3)
  have e3 : armplanref1_Ceil ((uppP b 5 : Nat) : Int) 720 = _ := CeiC (y := 720) (lb 5) (by omega) (by omega)
  have e4 : armplanref1_Floor ((lowP a 7 : Nat) : Int) 40320 = _ := FloC (y := 40320) (by omega) (la 7)
  have e5 : armplanref1_Ceil ((uppP b 9 : Nat) : Int) 3628800 = _ := CeiC (y := 3628800) (lb 9) (by omega) (by omega)
  have e6 : armplanref1_Floor ((lowP a 1 : Nat) : Int) 2 = _ := FloC (y := 2) (by omega) (la 1)
  have e7 : armplanref1_Ceil ((uppP b 3 : Nat) : Int) 24 = _ := CeiC (y := 24) (lb 3) (by omega) (by omega)
  have e8 : armplanref1_Floor ((lowP a 5 : Nat) : Int) 720 = _ := FloC (y := 720) (by omega) (la 5)
  have e9 : armplanref1_Ceil ((uppP b 7 : Nat) : Int) 40320 = _ := CeiC (y := 40320) (lb 7) (by omega) (by omega)
  have l1 := la 1
  have l3 := la 3
  have l5 := la 5
  have l7 := la 7
  have k1 := lb 1
  have k3 := lb 3
  have k5 := lb 5
  have k7 := lb 7
  have k9 := lb 9
  simp only [e1, e2, e3, e4, e5, e6, e7, e8, e9]
  clear e1 e2 e3 e4 e5 e6 e7 e8 e9
  generalize lowP a 1 = p1 at *
  generalize lowP a 3 = p3 at *
  generalize lowP a 5 = p5 at *
  generalize lowP a 7 = p7 at *
  generalize uppP b 1 = u1 at *
  generalize uppP b 3 = u3 at *
  generalize uppP b 5 = u5 at *
  generalize uppP b 7 = u7 at *
  generalize uppP b 9 = u9 at *
  unfold top1 at *
  have w1 : upN u1 2 ≤ u1 + 1 := by unfold upN; omega
  have w2 : upN u5 720 ≤ u5 + 1 := by unfold upN; omega
  have w3 : upN u9 3628800 ≤ u9 + 1 := by unfold upN; omega
  have w4 : upN u3 24 ≤ u3 + 1 := by unfold upN; omega
  have w5 : upN u7 40320 ≤ u7 + 1 := by unfold upN; omega
  generalize upN u1 2 = v1 at *
  generalize upN u5 720 = v5 at *
  generalize upN u9 3628800 = v9 at *
  generalize upN u3 24 = v3 at *
  generalize upN u7 40320 = v7 at *
  simp (disch := omega) only [wrapSmall]
  have hlow : (1073741824 - (v1 : Int) + ((p3 / 24 : Nat) : Int) - (v5 : Int) + ((p7 / 40320 : Nat) : Int) - (v9 : Int)).toNat = (1073741824 + p3 / 24 + p7 / 40320) - (v1 + v5 + v9) := by omega
  have hhigh : (1073741824 - ((p1 / 2 : Nat) : Int) + (v3 : Int) - ((p5 / 720 : Nat) : Int) + (v7 : Int)) = (((1073741824 + v3 + v7) - (p1 / 2 + p5 / 720) : Nat) : Int) := by omega
  rw [hhigh, Enc_eq (by omega) (by omega) (by omega), enc_eq (by omega) (by omega), hlow]
  rfl

theorem Quarter_eq {r : Nat} (hr : r ≤ 16384) : armplanref1_Quarter (r : Int) = pos (qN r) := by
  unfold armplanref1_Quarter t_armplanref1_Quarter qN
  by_cases h : r ≤ 8192
  · have e : decide ((r : Int) ≤ 8192) = true := decide_eq_true (by omega)
    rw [ble_t h]
    simp only [Tr.val, e, cond_true]
    exact Sine_eq h
  · have e : decide ((r : Int) ≤ 8192) = false := decide_eq_false (by omega)
    rw [ble_f h]
    simp only [Tr.val, e, cond_false]
    rw [wrap64 (by omega) (by omega)]
    have : (16384 : Int) - (r : Int) = ((16384 - r : Nat) : Int) := by omega
    rw [this]
    exact Cosine_eq (by omega)

theorem Sin_eq (a : Int) : armplanref1_Sin a = S a := by
  obtain ⟨m, hm, h⟩ := res_lt a
  rw [S_of h]
  unfold armplanref1_Sin t_armplanref1_Sin
  simp only [Tr.val, Mod_eq, h]
  have e1 : Int.tmod (m : Int) 16384 = ((m % 16384 : Nat) : Int) := by
    rw [Int.tmod_eq_emod_of_nonneg (by omega)]; omega
  have e2 : IntKind.wrap .i64 (Int.tdiv (m : Int) 16384) = ((m / 16384 : Nat) : Int) := by
    rw [Int.tdiv_eq_ediv_of_nonneg (by omega), wrap64 (by omega) (by omega)]; omega
  have e3 : IntKind.wrap .i64 (16384 - ((m % 16384 : Nat) : Int)) = ((16384 - m % 16384 : Nat) : Int) := by
    rw [wrap64 (by omega) (by omega)]; omega
  have g1 : armplanref1_Quarter ((m % 16384 : Nat) : Int) = pos (qN (m % 16384)) := Quarter_eq (by omega)
  have g2 : armplanref1_Quarter ((16384 - m % 16384 : Nat) : Int) = pos (qN (16384 - m % 16384)) := Quarter_eq (by omega)
  have b1 := pos_bd (r := m % 16384) (by omega)
  have b2 := pos_bd (r := 16384 - m % 16384) (by omega)
  rw [e1, e2, e3, g1, g2, Neg_eq ⟨by omega, by omega, by omega⟩, Neg_eq ⟨by omega, by omega, by omega⟩]
  clear e1 e2 e3 g1 g2 b1 b2
  rcases Nat.lt_or_ge m 16384 with h1 | h1
  · rw [decide_eq_true (show ((m / 16384 : Nat) : Int) = 0 by omega), cond_true, sin_1 (by omega), Nat.mod_eq_of_lt h1]
  rw [decide_eq_false (show ¬ ((m / 16384 : Nat) : Int) = 0 by omega), cond_false]
  rcases Nat.lt_or_ge m 32768 with h2 | h2
  · rw [decide_eq_true (show ((m / 16384 : Nat) : Int) = 1 by omega), cond_true, sin_2 (by omega) (by omega), show 16384 - m % 16384 = 32768 - m by omega]
  rw [decide_eq_false (show ¬ ((m / 16384 : Nat) : Int) = 1 by omega), cond_false]
  rcases Nat.lt_or_ge m 49152 with h3 | h3
  · rw [decide_eq_true (show ((m / 16384 : Nat) : Int) = 2 by omega), cond_true, sin_3 (by omega) (by omega), show m % 16384 = m - 32768 by omega]
  · rw [decide_eq_false (show ¬ ((m / 16384 : Nat) : Int) = 2 by omega), cond_false, sin_4 (by omega), show 16384 - m % 16384 = 65536 - m by omega]

theorem Cos_eq (a : Int) : armplanref1_Cos a = S (a + 16384) := by
  unfold armplanref1_Cos t_armplanref1_Cos
  simp only [Tr.val, Mod_eq]
  rw [Sin_eq, wrap64 (by omega) (by omega)]
  exact S_congr (by omega)

end Go.RX

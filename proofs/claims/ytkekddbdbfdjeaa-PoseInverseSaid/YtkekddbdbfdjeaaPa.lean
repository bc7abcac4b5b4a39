/-
  The sine of the first quarter in natural numbers.
-/
import Derived.Test.YtkekddbdbfdjeaaFA
import Derived.Test.YtkekddbdbfdjeaaNa
namespace Go.RX
open Go

theorem wrap64 {x : Int} (h1 : -9223372036854775808 ≤ x) (h2 : x ≤ 9223372036854775807) : IntKind.wrap .i64 x = x := by
  unfold IntKind.wrap
  simp only [IntKind.bits, IntKind.signed, Bool.true_and, decide_eq_true_eq, ge_iff_le]
  split <;> omega

theorem bound_of_wf {a : Int} (h : (Lit.int .i64 a).wf = true) : -9223372036854775808 ≤ a ∧ a ≤ 9223372036854775807 := by
  simp only [Lit.wf, Bool.and_eq_true, decide_eq_true_eq, IntKind.min, IntKind.max, IntKind.signed, IntKind.bits] at h
  simpa using h

theorem mulN_le {x y : Nat} (hy : y ≤ top1) : mulN x y ≤ x := by
  unfold mulN
  have : x * y ≤ x * 1073741824 := Nat.mul_le_mul_left _ (by unfold top1 at hy; omega)
  omega

theorem mulU_le {x y : Nat} (hy : y ≤ top1) : mulU x y ≤ x := by
  unfold mulU upN
  have : x * y ≤ x * 1073741824 := Nat.mul_le_mul_left _ (by unfold top1 at hy; omega)
  omega

theorem up_eq {x y : Nat} (hy : 0 < y) (h : x + y ≤ 9223372036854775807) : angle_up (x : Int) (y : Int) = ((upN x y : Nat) : Int) := by
  have hne : (!decide ((y : Int) = 0)) = true := by simp; omega
  unfold angle_up t_angle_up
  simp only [Tr.val, hne, cond_true]
  rw [wrap64 (x := (x : Int) + y) (by omega) (by omega), wrap64 (x := (x : Int) + y - 1) (by omega) (by omega)]
  have e : ((x : Int) + y - 1) = ((x + (y - 1) : Nat) : Int) := by omega
  rw [e]
  have e2 : Int.tdiv ((x + (y - 1) : Nat) : Int) (y : Int) = (((x + (y - 1)) / y : Nat) : Int) := by
    rw [Int.tdiv_eq_ediv_of_nonneg (by omega)]; rfl
  rw [e2]
  have h3 : (x + (y - 1)) / y ≤ x + (y - 1) := Nat.div_le_self _ _
  unfold upN
  generalize (x + (y - 1)) / y = q at *
  rw [wrap64 (by omega) (by omega)]

theorem quo_eq {x y : Nat} (h : x ≤ 9223372036854775807) : IntKind.wrap .i64 (Int.tdiv (x : Int) (y : Int)) = ((x / y : Nat) : Int) := by
  have e2 : Int.tdiv (x : Int) (y : Int) = ((x / y : Nat) : Int) := by
    rw [Int.tdiv_eq_ediv_of_nonneg (by omega)]; rfl
  rw [e2]
  have h3 : x / y ≤ x := Nat.div_le_self _ _
  generalize x / y = q at *
  exact wrap64 (by omega) (by omega)

theorem mul_eq {x y : Nat} (hx : x ≤ top1) (hy : y ≤ top1) : IntKind.wrap .i64 ((x : Int) * (y : Int)) = ((x * y : Nat) : Int) ∧ x * y ≤ 711179949723560164 := by
  have h : x * y ≤ top1 * top1 := Nat.mul_le_mul hx hy
  have h' : x * y ≤ 711179949723560164 := by
    have : top1 * top1 = 711179949723560164 := by decide +kernel
    omega
  refine ⟨?_, h'⟩
  rw [wrap64]
  · rfl
  · have := Int.natCast_nonneg (x * y); rw [Int.natCast_mul] at this; omega
  · have : ((x * y : Nat) : Int) ≤ 711179949723560164 := by omega
    rw [Int.natCast_mul] at this; omega

theorem lowS {a b : Nat} (ha : a ≤ top1) (hb : b ≤ top1) : IntKind.wrap .i64 (Int.tdiv (IntKind.wrap .i64 ((a : Int) * (b : Int))) 1073741824) = ((mulN a b : Nat) : Int) := by
  obtain ⟨h1, h2⟩ := mul_eq ha hb
  rw [h1]
  exact quo_eq (x := a * b) (y := 1073741824) (by omega)

theorem upS {a b : Nat} (ha : a ≤ top1) (hb : b ≤ top1) : angle_up (IntKind.wrap .i64 ((a : Int) * (b : Int))) 1073741824 = ((mulU a b : Nat) : Int) := by
  obtain ⟨h1, h2⟩ := mul_eq ha hb
  rw [h1]
  exact up_eq (x := a * b) (y := 1073741824) (by omega) (by omega)

theorem low1 {x : Nat} (hx : x ≤ 8192) : IntKind.wrap .i64 (Int.tdiv (IntKind.wrap .i64 ((x : Int) * 6746518852)) 65536) = ((x * 6746518852 / 65536 : Nat) : Int) := by
  rw [wrap64 (x := (x : Int) * 6746518852) (by omega) (by omega)]
  exact quo_eq (x := x * 6746518852) (y := 65536) (by omega)

theorem up1 {x : Nat} (hx : x ≤ 8192) : angle_up (IntKind.wrap .i64 ((x : Int) * 6746518853)) 65536 = ((upN (x * 6746518853) 65536 : Nat) : Int) := by
  rw [wrap64 (x := (x : Int) * 6746518853) (by omega) (by omega)]
  exact up_eq (x := x * 6746518853) (y := 65536) (by omega) (by omega)

theorem lowP_le {a : Nat} (ha : a ≤ top1) : ∀ k, lowP a k ≤ a
  | 0 => Nat.le_refl _
  | k + 1 => Nat.le_trans (mulN_le ha) (lowP_le ha k)
theorem uppP_le {a : Nat} (ha : a ≤ top1) : ∀ k, uppP a k ≤ a
  | 0 => Nat.le_refl _
  | k + 1 => Nat.le_trans (mulU_le ha) (uppP_le ha k)

theorem lowK {a : Nat} (ha : a ≤ top1) (k : Nat) : IntKind.wrap .i64 (Int.tdiv (IntKind.wrap .i64 (((lowP a k : Nat) : Int) * (a : Int))) 1073741824) = ((lowP a (k + 1) : Nat) : Int) :=
  lowS (Nat.le_trans (lowP_le ha k) ha) ha
theorem upK {a : Nat} (ha : a ≤ top1) (k : Nat) : angle_up (IntKind.wrap .i64 (((uppP a k : Nat) : Int) * (a : Int))) 1073741824 = ((uppP a (k + 1) : Nat) : Int) :=
  upS (Nat.le_trans (uppP_le ha k) ha) ha

theorem lo1_le {x : Nat} (hx : x ≤ 8192) : lo1 x ≤ top1 := by unfold lo1 top1; omega
theorem hi1_le {x : Nat} (hx : x ≤ 8192) : hi1 x ≤ top1 := by unfold hi1 upN top1; omega
theorem lo_hi (x : Nat) : lo1 x ≤ hi1 x := by unfold lo1 hi1 upN; omega

/-- The powers of an angle, in natural numbers. -/
theorem pw_eq {x : Nat} (hx : x ≤ 8192) : angle_powersOf (x : Int) =
    ((0, ((lowP (lo1 x) 0 : Nat) : Int), ((lowP (lo1 x) 1 : Nat) : Int), ((lowP (lo1 x) 2 : Nat) : Int), ((lowP (lo1 x) 3 : Nat) : Int), ((lowP (lo1 x) 4 : Nat) : Int), ((lowP (lo1 x) 5 : Nat) : Int), ((lowP (lo1 x) 6 : Nat) : Int), ((lowP (lo1 x) 7 : Nat) : Int), ((lowP (lo1 x) 8 : Nat) : Int), ((lowP (lo1 x) 9 : Nat) : Int)), (0, ((uppP (hi1 x) 0 : Nat) : Int), ((uppP (hi1 x) 1 : Nat) : Int), ((uppP (hi1 x) 2 : Nat) : Int), ((uppP (hi1 x) 3 : Nat) : Int), ((uppP (hi1 x) 4 : Nat) : Int), ((uppP (hi1 x) 5 : Nat) : Int), ((uppP (hi1 x) 6 : Nat) : Int), ((uppP (hi1 x) 7 : Nat) : Int), ((uppP (hi1 x) 8 : Nat) : Int), ((uppP (hi1 x) 9 : Nat) : Int))) := by
  have e := low1 hx
  have f := up1 hx
  change _ = ((lo1 x : Nat) : Int) at e
  change _ = ((hi1 x : Nat) : Int) at f
  have ha := lo1_le hx
  have hb := hi1_le hx
  unfold angle_powersOf t_angle_powersOf
  simp only [Tr.val]
  rw [e, f]
  generalize lo1 x = a at *
  generalize hi1 x = b at *
  have s1 : IntKind.wrap .i64 (Int.tdiv (IntKind.wrap .i64 ((a : Int) * (a : Int))) 1073741824) = ((lowP a 1 : Nat) : Int) := lowK ha 0
  have u1 : angle_up (IntKind.wrap .i64 ((b : Int) * (b : Int))) 1073741824 = ((uppP b 1 : Nat) : Int) := upK hb 0
  rw [s1, u1, lowK ha 1, upK hb 1, lowK ha 2, upK hb 2, lowK ha 3, upK hb 3, lowK ha 4, upK hb 4, lowK ha 5, upK hb 5, lowK ha 6, upK hb 6, lowK ha 7, upK hb 7, lowK ha 8, upK hb 8]
  rfl


/- THE SERIES -/

theorem shr14 (x : Int) : shrI .i64 x 14 = x / 16384 := by
  unfold shrI
  have : (2 : Int) ^ (Nat.min (14 : Int).toNat IntKind.i64.bits) = 16384 := by decide +kernel
  rw [this]
  exact Int.fdiv_eq_ediv_of_nonneg _ (by omega)

theorem down14 (x : Int) : fixed_ShiftDown x 14 = x / 16384 := by
  unfold fixed_ShiftDown t_fixed_ShiftDown
  show shrI .i64 x 14 = _
  exact shr14 x

theorem up14 {x : Nat} (hx : x ≤ 1099511627776) : fixed_ShiftUp (x : Int) 14 = ((upN x 16384 : Nat) : Int) := by
  unfold fixed_ShiftUp t_fixed_ShiftUp
  have hs : shlI .i64 (fixed_ShiftDown (x : Int) 14) 14 = (x : Int) / 16384 * 16384 := by
    unfold shlI
    have : (2 : Int) ^ (Nat.min (14 : Int).toNat IntKind.i64.bits) = 16384 := by decide +kernel
    rw [down14, this]
    rw [wrap64 (by omega) (by omega)]
  have hd : dom_fixed_ShiftDown (x : Int) 14 = true := rfl
  simp only [Tr.val, hd, cond_true, hs]
  rw [down14]
  show (bif !decide ((x : Int) / 16384 * 16384 = (x : Int)) then IntKind.wrap .i64 ((x : Int) / 16384 + 1) else (x : Int) / 16384) = _
  unfold upN
  by_cases h : (x : Int) / 16384 * 16384 = (x : Int)
  · rw [decide_eq_true h]; simp only [Bool.not_true, cond_false]; omega
  · rw [decide_eq_false h]; simp only [Bool.not_false, cond_true]
    rw [wrap64 (by omega) (by omega)]; omega

theorem enc_eq {L : Int} {H : Nat} (h1 : L ≤ 1099511627776) (h2 : H ≤ 1099511627776) : angle_enclosure L (H : Int) = (((encN L.toNat H).1 : Int), ((encN L.toNat H).2 : Int)) := by
  unfold angle_enclosure t_angle_enclosure
  simp only [Tr.val, down14, up14 h2, encN]
  have g1 : (if L / 16384 > 0 then L / 16384 else 0) = ((L.toNat / 16384 : Nat) : Int) := by
    split <;> omega
  have g2 : (if ((upN H 16384 : Nat) : Int) < 65536 then ((upN H 16384 : Nat) : Int) else 65536) = (((if upN H 16384 < 65536 then upN H 16384 else 65536) : Nat) : Int) := by
    by_cases h : upN H 16384 < 65536
    · rw [if_pos (by omega), if_pos h]
    · rw [if_neg (by omega), if_neg h]; rfl
  rw [g1, g2]

theorem wrapSmall {x : Int} (h1 : -1099511627776 ≤ x) (h2 : x ≤ 1099511627776) : IntKind.wrap .i64 x = x := wrap64 (by omega) (by omega)

theorem quoC {x y : Nat} (h : x ≤ top1) : IntKind.wrap .i64 (Int.tdiv (x : Int) (y : Int)) = ((x / y : Nat) : Int) := quo_eq (by unfold top1 at h; omega)
theorem upC {x y : Nat} (h : x ≤ top1) (hy : 0 < y) (hy2 : y ≤ 3628800) : angle_up (x : Int) (y : Int) = ((upN x y : Nat) : Int) := up_eq hy (by unfold top1 at h; omega)

theorem sine_eq {x : Nat} (hx : x ≤ 8192) : angle_sine (x : Int) = (((sineN x).1 : Int), ((sineN x).2 : Int)) := by
  have ha := lo1_le hx
  have hb := hi1_le hx
  have hab := lo_hi x
  unfold angle_sine t_angle_sine
  simp only [Tr.val, pw_eq hx]
  unfold sineN
  generalize lo1 x = a at *
  generalize hi1 x = b at *
  have la := fun k => Nat.le_trans (lowP_le ha k) ha
  have lb := fun k => Nat.le_trans (uppP_le hb k) hb
  have e1 : angle_up ((uppP b 2 : Nat) : Int) 6 = _ := upC (y := 6) (lb 2) (by omega) (by omega)
  have e2 : IntKind.wrap .i64 (Int.tdiv ((lowP a 4 : Nat) : Int) 120) = _ := quoC (y := 120) (la 4)
  have e3 : angle_up ((uppP b 6 : Nat) : Int) 5040 = _ := upC (y := 5040) (lb 6) (by omega) (by omega)
  have e4 : IntKind.wrap .i64 (Int.tdiv ((lowP a 2 : Nat) : Int) 6) = _ := quoC (y := 6) (la 2)
  have e5 : angle_up ((uppP b 4 : Nat) : Int) 120 = _ := upC (y := 120) (lb 4) (by omega) (by omega)
  have e6 : IntKind.wrap .i64 (Int.tdiv ((lowP a 6 : Nat) : Int) 5040) = _ := quoC (y := 5040) (la 6)
  have e7 : angle_up ((uppP b 8 : Nat) : Int) 362880 = _ := upC (y := 362880) (lb 8) (by omega) (by omega)
  have q1 := lowP_le ha 2
  have q2 : lowP a 6 ≤ a := lowP_le ha 6
  have l2 := la 2
  have l4 := la 4
  have l6 := la 6
  have k2 := lb 2
  have k4 := lb 4
  have k6 := lb 6
  have k8 := lb 8
  have hz : ((lowP a 0 : Nat) : Int) = (a : Int) := rfl
  have hz2 : ((uppP b 0 : Nat) : Int) = (b : Int) := rfl
  simp only [e1, e2, e3, e4, e5, e6, e7, hz, hz2]
  clear e1 e2 e3 e4 e5 e6 e7
  generalize lowP a 2 = p2 at *
  generalize lowP a 4 = p4 at *
  generalize lowP a 6 = p6 at *
  generalize uppP b 2 = u2 at *
  generalize uppP b 4 = u4 at *
  generalize uppP b 6 = u6 at *
  generalize uppP b 8 = u8 at *
  unfold top1 at *
  have w1 : upN u2 6 ≤ u2 + 1 := by unfold upN; omega
  have w2 : upN u6 5040 ≤ u6 + 1 := by unfold upN; omega
  have w3 : upN u4 120 ≤ u4 + 1 := by unfold upN; omega
  have w4 : upN u8 362880 ≤ u8 + 1 := by unfold upN; omega
  generalize upN u2 6 = v2 at *
  generalize upN u6 5040 = v6 at *
  generalize upN u4 120 = v4 at *
  generalize upN u8 362880 = v8 at *
  simp (disch := omega) only [wrapSmall]
  have hlow : ((0 + (a : Int) + (0 - (v2 : Int)) + ((p4 / 120 : Nat) : Int) + (0 - (v6 : Int)))).toNat = (a + p4 / 120) - (v2 + v6) := by omega
  have hhigh : (0 + (b : Int) + (0 - ((p2 / 6 : Nat) : Int)) + (v4 : Int) + (0 - ((p6 / 5040 : Nat) : Int)) + (v8 : Int)) = (((b + v4 + v8) - (p2 / 6 + p6 / 5040) : Nat) : Int) := by omega
  rw [hhigh, enc_eq (by omega) (by omega), hlow]

theorem cos_eq {x : Nat} (hx : x ≤ 8192) : angle_cosine (x : Int) = (((cosN x).1 : Int), ((cosN x).2 : Int)) := by
  have ha := lo1_le hx
  have hb := hi1_le hx
  have hab := lo_hi x
  unfold angle_cosine t_angle_cosine
  simp only [Tr.val, pw_eq hx]
  unfold cosN
  generalize lo1 x = a at *
  generalize hi1 x = b at *
  have la := fun k => Nat.le_trans (lowP_le ha k) ha
  have lb := fun k => Nat.le_trans (uppP_le hb k) hb
  have e1 : angle_up ((uppP b 1 : Nat) : Int) 2 = _ := upC (y := 2) (lb 1) (by omega) (by omega)
  have e2 : IntKind.wrap .i64 (Int.tdiv ((lowP a 3 : Nat) : Int) 24) = _ := quoC (y := 24) (la 3)
  have e3 : angle_up ((uppP b 5 : Nat) : Int) 720 = _ := upC (y := 720) (lb 5) (by omega) (by omega)
  have e4 : IntKind.wrap .i64 (Int.tdiv ((lowP a 7 : Nat) : Int) 40320) = _ := quoC (y := 40320) (la 7)
  have e5 : angle_up ((uppP b 9 : Nat) : Int) 3628800 = _ := upC (y := 3628800) (lb 9) (by omega) (by omega)
  have e6 : IntKind.wrap .i64 (Int.tdiv ((lowP a 1 : Nat) : Int) 2) = _ := quoC (y := 2) (la 1)
  have e7 : angle_up ((uppP b 3 : Nat) : Int) 24 = _ := upC (y := 24) (lb 3) (by omega) (by omega)
  have e8 : IntKind.wrap .i64 (Int.tdiv ((lowP a 5 : Nat) : Int) 720) = _ := quoC (y := 720) (la 5)
  have e9 : angle_up ((uppP b 7 : Nat) : Int) 40320 = _ := upC (y := 40320) (lb 7) (by omega) (by omega)
  have l1 := la 1
  have l3 := la 3
  have l5 := la 5
  have l7 := la 7
  have k1 := lb 1
  have k3 := lb 3
  have k5 := lb 5
  have k7 := lb 7
  have k9 := lb 9
  simp only [e1, e2, e3, e4, e5, e6, e7, e8, e9]
  clear e1 e2 e3 e4 e5 e6 e7 e8 e9
  generalize lowP a 1 = p1 at *
  generalize lowP a 3 = p3 at *
  generalize lowP a 5 = p5 at *
  generalize lowP a 7 = p7 at *
  generalize uppP b 1 = u1 at *
  generalize uppP b 3 = u3 at *
  generalize uppP b 5 = u5 at *
  generalize uppP b 7 = u7 at *
  generalize uppP b 9 = u9 at *
  unfold top1 at *
  have w1 : upN u1 2 ≤ u1 + 1 := by unfold upN; omega
  have w2 : upN u5 720 ≤ u5 + 1 := by unfold upN; omega
  have w3 : upN u9 3628800 ≤ u9 + 1 := by unfold upN; omega
  have w4 : upN u3 24 ≤ u3 + 1 := by unfold upN; omega
  have w5 : upN u7 40320 ≤ u7 + 1 := by unfold upN; omega
  generalize upN u1 2 = v1 at *
  generalize upN u5 720 = v5 at *
  generalize upN u9 3628800 = v9 at *
  generalize upN u3 24 = v3 at *
  generalize upN u7 40320 = v7 at *
  simp (disch := omega) only [wrapSmall]
  have hlow : (1073741824 + (0 - (v1 : Int)) + ((p3 / 24 : Nat) : Int) + (0 - (v5 : Int)) + ((p7 / 40320 : Nat) : Int) + (0 - (v9 : Int))).toNat = (1073741824 + p3 / 24 + p7 / 40320) - (v1 + v5 + v9) := by omega
  have hhigh : (1073741824 + (0 - ((p1 / 2 : Nat) : Int)) + (v3 : Int) + (0 - ((p5 / 720 : Nat) : Int)) + (v7 : Int)) = (((1073741824 + v3 + v7) - (p1 / 2 + p5 / 720) : Nat) : Int) := by omega
  rw [hhigh, enc_eq (by omega) (by omega), hlow]

theorem rising_eq {r : Nat} (hr : r ≤ 16384) : angle_rising (r : Int) = (((qN r).1 : Int), ((qN r).2 : Int)) := by
  unfold angle_rising t_angle_rising qN
  by_cases h : r ≤ 8192
  · have e : decide ((r : Int) ≤ 8192) = true := decide_eq_true (by omega)
    rw [Nat.ble_eq_true_of_le h]
    simp only [Tr.val, e, cond_true]
    exact sine_eq h
  · have e : decide ((r : Int) ≤ 8192) = false := decide_eq_false (by omega)
    have e2 : Nat.ble r 8192 = false := by rw [← Bool.not_eq_true]; intro h2; exact h (Nat.le_of_ble_eq_true h2)
    rw [e2]
    simp only [Tr.val, e, cond_false]
    rw [wrap64 (by omega) (by omega)]
    have : (16384 : Int) - (r : Int) = ((16384 - r : Nat) : Int) := by omega
    rw [this]
    exact cos_eq (by omega)

end Go.RX

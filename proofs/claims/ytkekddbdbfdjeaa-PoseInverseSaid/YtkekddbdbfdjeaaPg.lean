/-
  Sines and cosines over intervals: laws of the ranges, of what they contain, of parts.
-/
import Derived.Test.YtkekddbdbfdjeaaPf
namespace Go.RX
open Go

/-- Whether an interval contains an angle that is congruent to t. -/
def mt (a : Int × Int) (t : Int) : Bool := decide (a.1 + (t - a.1) % 65536 ≤ a.2)
def vld (a : Int × Int) : Bool := decide (-2147483648 ≤ a.1 ∧ a.1 ≤ a.2 ∧ a.2 ≤ 2147483648)

/-- The values over an interval: k = 0 for the sine, k = 16384 for the cosine. -/
def ov (k : Int) (a : Int × Int) : Int × Int :=
  bif !vld a then (0, 0) else bif decide (65536 ≤ a.2 - a.1) then (-65536, 65536) else
    (bif mt a (49152 - k) then -65536 else min (S (a.1 + k)).1 (S (a.2 + k)).1, bif mt a (16384 - k) then 65536 else max (S (a.1 + k)).2 (S (a.2 + k)).2)

theorem meets_eq {a : Int × Int} {t : Int} (h1 : -2147483648 ≤ a.1) (h2 : a.1 ≤ 2147483648) (h3 : -2147483648 ≤ t) (h4 : t ≤ 2147483648) : angle_meets a t = mt a t := by
  unfold angle_meets t_angle_meets mt
  simp only [Tr.val, mod_eq]
  rw [wrap64 (x := t - a.1) (by omega) (by omega), wrap64 (by omega) (by omega)]

theorem Meets_eq {a : Int × Int} {t : Int} (h1 : -2147483648 ≤ a.1) (h2 : a.1 ≤ 2147483648) (h3 : -2147483648 ≤ t) (h4 : t ≤ 2147483648) : armplanref1_meets a t = mt a t := by
  unfold armplanref1_meets t_armplanref1_meets mt
  simp only [Tr.val, Mod_eq]
  rw [wrap64 (x := t - a.1) (by omega) (by omega), wrap64 (by omega) (by omega)]

theorem hull_eq {x y : Int × Int} (hx : vld x = true) (hy : vld y = true) : interval_Hull x y = (min x.1 y.1, max x.2 y.2) := by
  unfold interval_Hull t_interval_Hull interval_both t_interval_both
  have e1 : interval_Valid x = true := by rw [valid_eq]; exact hx
  have e2 : interval_Valid y = true := by rw [valid_eq]; exact hy
  simp only [Tr.val, e1, e2, cond_true, Bool.not_true, cond_false]
  have g1 : (if y.1 < x.1 then y.1 else x.1) = min x.1 y.1 := by split <;> omega
  have g2 : (if y.2 > x.2 then y.2 else x.2) = max x.2 y.2 := by split <;> omega
  rw [g1, g2]

theorem Hull_eq {x y : Int × Int} (hx : vld x = true) (hy : vld y = true) : armplanref1_Hull x y = (min x.1 y.1, max x.2 y.2) := by
  unfold armplanref1_Hull t_armplanref1_Hull
  have e1 : armplanref1_Valid x = true := by rw [Valid_eq]; exact hx
  have e2 : armplanref1_Valid y = true := by rw [Valid_eq]; exact hy
  simp only [Tr.val, e1, e2, cond_true, Bool.not_true, cond_false]
  have g1 : (if y.1 < x.1 then y.1 else x.1) = min x.1 y.1 := by split <;> omega
  have g2 : (if y.2 > x.2 then y.2 else x.2) = max x.2 y.2 := by split <;> omega
  rw [g1, g2]

theorem vld_S (a : Int) : vld (S a) = true := by
  have := S_bd a
  simp only [vld, decide_eq_true_eq]; omega

theorem width_eq {a : Int × Int} (h : vld a = true) : interval_Width a = a.2 - a.1 := by
  unfold interval_Width t_interval_Width
  have e1 : interval_Valid a = true := by rw [valid_eq]; exact h
  simp only [vld, decide_eq_true_eq] at h
  simp only [Tr.val, e1, Bool.not_true, cond_false]
  exact wrap64 (by omega) (by omega)

theorem sinOver_eq (a : Int × Int) : angle_SinOver a = ov 0 a := by
  unfold angle_SinOver t_angle_SinOver ov
  have e1 : interval_Valid a = vld a := valid_eq
  simp only [Tr.val, e1]
  cases hv : vld a with
  | false => rfl
  | true =>
    rw [width_eq hv]
    simp only [vld, decide_eq_true_eq] at hv
    rw [meets_eq (by omega) (by omega) (by omega) (by omega), meets_eq (by omega) (by omega) (by omega) (by omega), sin_eq, sin_eq, hull_eq (vld_S _) (vld_S _)]
    simp only [Int.add_zero, Int.sub_zero, Bool.not_true, cond_false]
    cases decide (65536 ≤ a.2 - a.1) <;> cases mt a 16384 <;> cases mt a 49152 <;> rfl

theorem cosOver_eq (a : Int × Int) : angle_CosOver a = ov 16384 a := by
  unfold angle_CosOver t_angle_CosOver ov
  have e1 : interval_Valid a = vld a := valid_eq
  simp only [Tr.val, e1]
  cases hv : vld a with
  | false => rfl
  | true =>
    rw [width_eq hv]
    simp only [vld, decide_eq_true_eq] at hv
    rw [meets_eq (by omega) (by omega) (by omega) (by omega), meets_eq (by omega) (by omega) (by omega) (by omega), cos_eq2, cos_eq2, hull_eq (vld_S _) (vld_S _)]
    simp only [Bool.not_true, cond_false]
    show _ = bif decide (65536 ≤ a.2 - a.1) then (-65536, 65536) else (bif mt a 32768 then -65536 else min (S (a.1 + 16384)).1 (S (a.2 + 16384)).1, bif mt a 0 then 65536 else max (S (a.1 + 16384)).2 (S (a.2 + 16384)).2)
    cases decide (65536 ≤ a.2 - a.1) <;> cases mt a 0 <;> cases mt a 32768 <;> rfl

theorem Of_eq {x : Int} (h1 : -2147483648 ≤ x) (h2 : x ≤ 2147483648) : armplanref1_Of x = (x, x) := by
  unfold armplanref1_Of t_armplanref1_Of
  simp only [Tr.val, clamp_eq h1 h2]

theorem Over_eq {a x y : Int × Int} {t b : Int} (ht1 : -2147483648 ≤ t) (ht2 : t ≤ 2147483648) (hb1 : -2147483648 ≤ b) (hb2 : b ≤ 2147483648)
    (hx : -65536 ≤ x.1 ∧ x.1 ≤ x.2 ∧ x.2 ≤ 65536) (hy : -65536 ≤ y.1 ∧ y.1 ≤ y.2 ∧ y.2 ≤ 65536) :
    armplanref1_over a x y t b = bif !vld a then (0, 0) else bif decide (65536 ≤ a.2 - a.1) then (-65536, 65536) else (bif mt a b then -65536 else min x.1 y.1, bif mt a t then 65536 else max x.2 y.2) := by
  have e1 : armplanref1_Valid a = vld a := Valid_eq
  have vx : vld x = true := by simp only [vld, decide_eq_true_eq]; omega
  have vy : vld y = true := by simp only [vld, decide_eq_true_eq]; omega
  have vm : vld (min x.1 y.1, max x.2 y.2) = true := by simp only [vld, decide_eq_true_eq]; omega
  have v1 : vld (65536, 65536) = true := by simp [vld]
  have v2 : vld (-65536, -65536) = true := by simp [vld]
  have h1 : armplanref1_Hull (min x.1 y.1, max x.2 y.2) (65536, 65536) = (min x.1 y.1, 65536) := by
    rw [Hull_eq vm v1]; exact Prod.ext (by dsimp only; omega) (by dsimp only; omega)
  have h2 : armplanref1_Hull (min x.1 y.1, max x.2 y.2) (-65536, -65536) = (-65536, max x.2 y.2) := by
    rw [Hull_eq vm v2]; exact Prod.ext (by dsimp only; omega) (by dsimp only; omega)
  have vn : vld (min x.1 y.1, 65536) = true := by simp only [vld, decide_eq_true_eq]; omega
  have h3 : armplanref1_Hull (min x.1 y.1, 65536) (-65536, -65536) = (-65536, 65536) := by
    rw [Hull_eq vn v2]; exact Prod.ext (by dsimp only; omega) (by dsimp only; omega)
  unfold armplanref1_over t_armplanref1_over
  simp only [Tr.val, e1]
  cases hv : vld a with
  | false => rfl
  | true =>
    simp only [vld, decide_eq_true_eq] at hv
    rw [Meets_eq (by omega) (by omega) ht1 ht2, Meets_eq (by omega) (by omega) hb1 hb2, Hull_eq vx vy, Of_eq (by omega) (by omega), Of_eq (by omega) (by omega), h1, h2, h3, wrap64 (by omega) (by omega)]
    simp only [Bool.not_true, cond_false]
    cases decide (65536 ≤ a.2 - a.1) <;> cases mt a t <;> cases mt a b <;> rfl

theorem bd3 (a : Int) : -65536 ≤ (S a).1 ∧ (S a).1 ≤ (S a).2 ∧ (S a).2 ≤ 65536 := let h := S_bd a; ⟨h.1, h.2.1, h.2.2.1⟩

theorem SinOver_eq (a : Int × Int) : armplanref1_SinOver a = ov 0 a := by
  unfold armplanref1_SinOver t_armplanref1_SinOver
  simp only [Tr.val, Sin_eq]
  rw [Over_eq (by omega) (by omega) (by omega) (by omega) (bd3 _) (bd3 _)]
  unfold ov
  simp only [Int.add_zero, Int.sub_zero]

theorem CosOver_eq (a : Int × Int) : armplanref1_CosOver a = ov 16384 a := by
  unfold armplanref1_CosOver t_armplanref1_CosOver
  simp only [Tr.val, Cos_eq]
  rw [Over_eq (by omega) (by omega) (by omega) (by omega) (bd3 _) (bd3 _)]
  rfl

/- THE MAKER OF INTERVALS -/

theorem and_bd (a : Int) {m : Nat} (hm : m < 9223372036854775808) : 0 ≤ bitI .and .i64 a (m : Int) ∧ bitI .and .i64 a (m : Int) ≤ (m : Int) := by
  have e : bitI .and .i64 a (m : Int) = IntKind.wrap .i64 (((BitVec.ofInt 64 a) &&& (BitVec.ofInt 64 (m : Int))).toNat : Nat) := rfl
  have h : ((BitVec.ofInt 64 a) &&& (BitVec.ofInt 64 (m : Int))).toNat ≤ m := by
    rw [BitVec.toNat_and]
    refine Nat.le_trans Nat.and_le_right ?_
    rw [BitVec.toNat_ofInt]
    omega
  rw [e]
  generalize ((BitVec.ofInt 64 a) &&& (BitVec.ofInt 64 (m : Int))).toNat = t at *
  rw [wrap64 (by omega) (by omega)]
  omega

theorem dom_round {n k : Int} (h : k ≠ 0) : dom_armplanmake_Round n k = true := by
  unfold dom_armplanmake_Round t_armplanmake_Round
  simp [Tr.dom, Tr.ok, h]

theorem table_bd : ∀ i : Nat, i < 8 → 1 ≤ List.getD [1, 9, 300, 5000, 20000, 40000, 66000, 140000] i (0 : Int) ∧ List.getD [1, 9, 300, 5000, 20000, 40000, 66000, 140000] i (0 : Int) ≤ 140000 := by decide

/- WHAT IS CONTAINED -/

theorem dec_step {p q : Int} (h1 : 0 ≤ p) (h2 : p ≤ q) (h3 : q ≤ 32768) : (S (16384 + q)).2 ≤ (S (16384 + p)).2 ∧ (S (16384 + q)).1 ≤ (S (16384 + p)).1 := by
  obtain ⟨p, rfl⟩ : ∃ n : Nat, p = (n : Int) := ⟨p.toNat, by omega⟩
  obtain ⟨q, rfl⟩ : ∃ n : Nat, q = (n : Int) := ⟨q.toNat, by omega⟩
  rw [S_of (a := 16384 + (p : Int)) (m := 16384 + p) (by omega), S_of (a := 16384 + (q : Int)) (m := 16384 + q) (by omega)]
  by_cases hp : p ≤ 16384
  · by_cases hq : q ≤ 16384
    · rw [sin_2 (m := 16384 + p) (by omega) (by omega), sin_2 (m := 16384 + q) (by omega) (by omega)]
      have := q_mono (r := 32768 - (16384 + q)) (t := 32768 - (16384 + p)) (by omega) (by omega)
      simp only [pos]; omega
    · rw [sin_2 (m := 16384 + p) (by omega) (by omega), sin_3 (m := 16384 + q) (by omega) (by omega)]
      have b1 := pos_bd (r := 32768 - (16384 + p)) (by omega)
      have b2 := pos_bd (r := 16384 + q - 32768) (by omega)
      simp only [ngI]; omega
  · rw [sin_3 (m := 16384 + p) (by omega) (by omega), sin_3 (m := 16384 + q) (by omega) (by omega)]
    have := q_mono (r := 16384 + p - 32768) (t := 16384 + q - 32768) (by omega) (by omega)
    simp only [pos, ngI]; omega

theorem even_top (p : Int) : S (16384 + (65536 - p)) = S (16384 + p) := by
  have h := S_half (-(16384 + p))
  rw [S_neg, ng_ng] at h
  rw [← h]; exact S_congr (by omega)

theorem inc_step {p q : Int} (h1 : 32768 ≤ p) (h2 : p ≤ q) (h3 : q ≤ 65536) : (S (16384 + p)).2 ≤ (S (16384 + q)).2 := by
  have := (dec_step (p := 65536 - q) (q := 65536 - p) (by omega) (by omega) (by omega)).1
  rw [even_top, even_top] at this
  exact this

/-- Between two tops, the greater end lies above. -/
theorem hi_between {u y v : Int} (h1 : u ≤ y) (h2 : y ≤ v) (h3 : v < u + (16384 - u) % 65536) : (S y).2 ≤ max (S u).2 (S v).2 := by
  obtain ⟨p, hp⟩ : ∃ p, p = (u - 16384) % 65536 := ⟨_, rfl⟩
  have eu : S u = S (16384 + p) := S_congr (by omega)
  have ey : S y = S (16384 + (p + (y - u))) := S_congr (by omega)
  have ev : S v = S (16384 + (p + (v - u))) := S_congr (by omega)
  rw [eu, ey, ev]
  by_cases hy : p + (y - u) ≤ 32768
  · have := (dec_step (p := p) (q := p + (y - u)) (by omega) (by omega) hy).1
    omega
  · have := inc_step (p := p + (y - u)) (q := p + (v - u)) (by omega) (by omega) (by omega)
    omega

theorem lo_between {u y v : Int} (h1 : u ≤ y) (h2 : y ≤ v) (h3 : v < u + (49152 - u) % 65536) : min (S u).1 (S v).1 ≤ (S y).1 := by
  have := hi_between (u := u + 32768) (y := y + 32768) (v := v + 32768) (by omega) (by omega) (by omega)
  rw [S_half, S_half, S_half] at this
  simp only [ngI] at this
  omega

theorem ov_contains {k : Int} {a : Int × Int} {n : Int} (hv : vld a = true) (h1 : a.1 ≤ n) (h2 : n ≤ a.2) : (ov k a).1 ≤ (S (n + k)).1 ∧ (S (n + k)).2 ≤ (ov k a).2 := by
  have hb := S_bd (n + k)
  unfold ov
  rw [hv]
  simp only [Bool.not_true, cond_false]
  by_cases hw : 65536 ≤ a.2 - a.1
  · rw [decide_eq_true hw, cond_true]; dsimp only; omega
  · rw [decide_eq_false hw, cond_false]
    dsimp only
    refine ⟨?_, ?_⟩
    · by_cases hm : a.1 + (49152 - k - a.1) % 65536 ≤ a.2
      · have : mt a (49152 - k) = true := decide_eq_true hm
        rw [this, cond_true]; omega
      · have : mt a (49152 - k) = false := decide_eq_false hm
        rw [this, cond_false]
        exact lo_between (by omega) (by omega) (by omega)
    · by_cases hm : a.1 + (16384 - k - a.1) % 65536 ≤ a.2
      · have : mt a (16384 - k) = true := decide_eq_true hm
        rw [this, cond_true]; omega
      · have : mt a (16384 - k) = false := decide_eq_false hm
        rw [this, cond_false]
        exact hi_between (by omega) (by omega) (by omega)

theorem ov_bd (k : Int) (a : Int × Int) : -65536 ≤ (ov k a).1 ∧ (ov k a).1 ≤ (ov k a).2 ∧ (ov k a).2 ≤ 65536 := by
  have h1 := S_bd (a.1 + k)
  have h2 := S_bd (a.2 + k)
  unfold ov
  cases !vld a <;> cases decide (65536 ≤ a.2 - a.1) <;> cases mt a (49152 - k) <;> cases mt a (16384 - k) <;> simp only [cond_true, cond_false] <;> omega

theorem within_of {x y : Int × Int} (hx : -65536 ≤ x.1 ∧ x.1 ≤ x.2 ∧ x.2 ≤ 65536) (hy : -65536 ≤ y.1 ∧ y.1 ≤ y.2 ∧ y.2 ≤ 65536) (h1 : y.1 ≤ x.1) (h2 : x.2 ≤ y.2) : armplanref1_Within x y = true := by
  rw [Within_eq, Valid_eq, Valid_eq]
  simp only [Bool.and_eq_true, decide_eq_true_eq]
  omega

theorem ov_nested {k : Int} {a b : Int × Int} (hv : vld a = true) (hb : vld b = true) (h1 : a.1 ≤ b.1) (h2 : b.2 ≤ a.2) : (ov k a).1 ≤ (ov k b).1 ∧ (ov k b).2 ≤ (ov k a).2 := by
  have hb' := hb
  simp only [vld, decide_eq_true_eq] at hb'
  obtain ⟨l1, l2⟩ := ov_contains (k := k) (n := b.1) hv (by omega) (by omega)
  obtain ⟨u1, u2⟩ := ov_contains (k := k) (n := b.2) hv (by omega) (by omega)
  have hw := ov_bd k b
  by_cases hwa : 65536 ≤ a.2 - a.1
  · have e : ov k a = (-65536, 65536) := by unfold ov; rw [hv, decide_eq_true hwa]; rfl
    rw [e]; dsimp only; omega
  · have mono : ∀ t, mt b t = true → mt a t = true := by
      intro t ht
      simp only [mt, decide_eq_true_eq] at *
      omega
    have ea : ov k a = (bif mt a (49152 - k) then -65536 else min (S (a.1 + k)).1 (S (a.2 + k)).1, bif mt a (16384 - k) then 65536 else max (S (a.1 + k)).2 (S (a.2 + k)).2) := by
      unfold ov; rw [hv, decide_eq_false hwa]; rfl
    have eb : ov k b = (bif mt b (49152 - k) then -65536 else min (S (b.1 + k)).1 (S (b.2 + k)).1, bif mt b (16384 - k) then 65536 else max (S (b.1 + k)).2 (S (b.2 + k)).2) := by
      unfold ov; rw [hb, decide_eq_false (show ¬ 65536 ≤ b.2 - b.1 by omega)]; rfl
    refine ⟨?_, ?_⟩
    · cases hm : mt b (49152 - k) with
      | true =>
        have : (ov k a).1 = -65536 := by rw [ea, mono _ hm]; rfl
        omega
      | false =>
        have : (ov k b).1 = min (S (b.1 + k)).1 (S (b.2 + k)).1 := by rw [eb, hm]; rfl
        omega
    · cases hm : mt b (16384 - k) with
      | true =>
        have : (ov k a).2 = 65536 := by rw [ea, mono _ hm]; rfl
        omega
      | false =>
        have : (ov k b).2 = max (S (b.1 + k)).2 (S (b.2 + k)).2 := by rw [eb, hm]; rfl
        omega

theorem part_ok {a : Int × Int} (hv : vld a = true) (m n : Int) : dom_armplanmake_Part a m n = true ∧ a.1 ≤ (armplanmake_Part a m n).1 ∧ (armplanmake_Part a m n).1 ≤ (armplanmake_Part a m n).2 ∧ (armplanmake_Part a m n).2 ≤ a.2 := by
  simp only [vld, decide_eq_true_eq] at hv
  unfold dom_armplanmake_Part armplanmake_Part t_armplanmake_Part
  simp only [Tr.dom, Tr.ok, Tr.val]
  rw [wrap64 (x := a.2 - a.1) (by omega) (by omega), wrap64 (x := a.2 - a.1 + 1) (by omega) (by omega)]
  obtain ⟨r1, r2⟩ := round_eq (n := m) (k := a.2 - a.1 + 1) (by omega) (by omega)
  obtain ⟨s1, s2⟩ := round_eq (n := shrI .i64 n 1) (k := a.2 - a.1 + 1) (by omega) (by omega)
  rw [dom_round (n := m) (k := a.2 - a.1 + 1) (by omega), dom_round (n := shrI .i64 n 1) (k := a.2 - a.1 + 1) (by omega)]
  generalize armplanmake_Round m (a.2 - a.1 + 1) = i at *
  generalize armplanmake_Round (shrI .i64 n 1) (a.2 - a.1 + 1) = j at *
  rw [wrap64 (x := a.1 + i) (by omega) (by omega), wrap64 (x := a.1 + j) (by omega) (by omega)]
  cases decide (bitI .and .i64 n 1 = 0)
  · simp only [cond_true, cond_false, Bool.and_false]
    refine ⟨trivial, ?_, ?_, ?_⟩ <;> repeat' split
    all_goals omega
  · simp only [cond_true, cond_false, Bool.and_false]
    refine ⟨trivial, ?_, ?_, ?_⟩ <;> omega

end Go.RX

/-
  The sines of sums: law of the addition.
-/
import Derived.Test.YtkekddbdbfdjeaaPg
import Derived.Test.YtkekddbdbfdjeaaPh
namespace Go.RX
open Go

theorem mul_bd {x y A B : Int} (h1 : -A ≤ x) (h2 : x ≤ A) (k1 : -B ≤ y) (k2 : y ≤ B) : -(A * B) ≤ x * y ∧ x * y ≤ A * B := by
  have a1 := Int.mul_nonneg (a := A - x) (b := B - y) (by omega) (by omega)
  have a2 := Int.mul_nonneg (a := A + x) (b := B + y) (by omega) (by omega)
  have a3 := Int.mul_nonneg (a := A - x) (b := B + y) (by omega) (by omega)
  have a4 := Int.mul_nonneg (a := A + x) (b := B - y) (by omega) (by omega)
  have e1 : (A - x) * (B - y) = A * B - A * y - x * B + x * y := by grind
  have e2 : (A + x) * (B + y) = A * B + A * y + x * B + x * y := by grind
  have e3 : (A - x) * (B + y) = A * B + A * y - x * B - x * y := by grind
  have e4 : (A + x) * (B - y) = A * B - A * y + x * B - x * y := by grind
  omega

/-- One of four, by the quarter of a turn. -/
def pick4 {α : Type} (m : Nat) (f0 f1 f2 f3 : Nat → α) : α :=
  bif Nat.ble 49152 m then f3 (m - 49152) else bif Nat.ble 32768 m then f2 (m - 32768) else bif Nat.ble 16384 m then f1 (m - 16384) else f0 m
theorem pick4_0 {α : Type} {m : Nat} (f0 f1 f2 f3 : Nat → α) (h : m < 16384) : pick4 m f0 f1 f2 f3 = f0 m := by unfold pick4; rw [ble_f (by omega), ble_f (by omega), ble_f (by omega)]; rfl
theorem pick4_1 {α : Type} {m : Nat} (f0 f1 f2 f3 : Nat → α) (h : 16384 ≤ m) (h2 : m < 32768) : pick4 m f0 f1 f2 f3 = f1 (m - 16384) := by unfold pick4; rw [ble_f (by omega), ble_f (by omega), ble_t h]; rfl
theorem pick4_2 {α : Type} {m : Nat} (f0 f1 f2 f3 : Nat → α) (h : 32768 ≤ m) (h2 : m < 49152) : pick4 m f0 f1 f2 f3 = f2 (m - 32768) := by unfold pick4; rw [ble_f (by omega), ble_t h]; rfl
theorem pick4_3 {α : Type} {m : Nat} (f0 f1 f2 f3 : Nat → α) (h : 49152 ≤ m) : pick4 m f0 f1 f2 f3 = f3 (m - 49152) := by unfold pick4; rw [ble_t h]; rfl

/-- An approximate sine at a residue. -/
def sA (m : Nat) : Int := pick4 m (fun n => (zI n).2) (fun n => (zI n).1) (fun n => -(zI n).2) (fun n => -(zI n).1)
def T (a : Int) : Int := sA (a % 65536).toNat

theorem T_congr {a b : Int} (h : a % 65536 = b % 65536) : T a = T b := by unfold T; rw [h]
theorem T_of {a : Int} {m : Nat} (h : a % 65536 = (m : Int)) : T a = sA m := by unfold T; rw [h]; rfl
theorem sA_0 {m : Nat} (h : m < 16384) : sA m = (zI m).2 := pick4_0 _ _ _ _ h
theorem sA_1 {m : Nat} (h : 16384 ≤ m) (h2 : m < 32768) : sA m = (zI (m - 16384)).1 := pick4_1 (f1 := fun n => (zI n).1) _ _ _ h h2
theorem sA_2 {m : Nat} (h : 32768 ≤ m) (h2 : m < 49152) : sA m = -(zI (m - 32768)).2 := pick4_2 (f2 := fun n => -(zI n).2) _ _ _ h h2
theorem sA_3 {m : Nat} (h : 49152 ≤ m) : sA m = -(zI (m - 49152)).1 := pick4_3 (f3 := fun n => -(zI n).1) _ _ _ h

theorem last_int : ∃ ξ η : Int, zI 16384 = (ξ, 1152921504606846976 + η) ∧ -1073741824 ≤ ξ ∧ ξ ≤ 1073741824 ∧ -1073741824 ≤ η ∧ η ≤ 1073741824 := by
  have key : ∀ z : Nat × Nat, (z.1 ≤ 1073741824 ∧ K ≤ z.2 + 1073741824 ∧ z.2 ≤ K + 1073741824) → ∃ ξ η : Int, ((z.1 : Int), (z.2 : Int)) = (ξ, 1152921504606846976 + η) ∧ -1073741824 ≤ ξ ∧ ξ ≤ 1073741824 ∧ -1073741824 ≤ η ∧ η ≤ 1073741824 := by
    intro z hz
    unfold K at hz
    exact ⟨(z.1 : Int), (z.2 : Int) - 1152921504606846976, Prod.ext rfl (by dsimp only; omega), by omega, by omega, by omega, by omega⟩
  rw [zI_eq 16384 (by omega)]
  exact key _ last_at

theorem T_half (a : Int) : T (a + 32768) = -T a := by
  obtain ⟨m, hm, h⟩ := res_lt a
  rw [T_of h]
  rcases Nat.lt_or_ge m 16384 with h1 | h1
  · rw [T_of (m := m + 32768) (by omega), sA_2 (by omega) (by omega), sA_0 h1, show m + 32768 - 32768 = m by omega]
  rcases Nat.lt_or_ge m 32768 with h2 | h2
  · rw [T_of (m := m + 32768) (by omega), sA_3 (by omega), sA_1 h1 h2, show m + 32768 - 49152 = m - 16384 by omega]
  rcases Nat.lt_or_ge m 49152 with h3 | h3
  · rw [T_of (m := m - 32768) (by omega), sA_0 (by omega), sA_2 h2 h3, Int.neg_neg]
  · rw [T_of (m := m - 32768) (by omega), sA_1 (by omega) (by omega), sA_3 h3, Int.neg_neg, show m - 32768 - 16384 = m - 49152 by omega]

theorem T_near (a : Int) : (S a).1 * 17592186044416 ≤ T a + 274877906944 ∧ T a ≤ (S a).2 * 17592186044416 + 274877906944 := by
  obtain ⟨m, hm, h⟩ := res_lt a
  rw [T_of h, S_of h]
  rcases Nat.lt_or_ge m 16384 with h1 | h1
  · rw [sA_0 h1, sin_1 (by omega), zI_eq m (by omega)]
    have := near_int (near_at (j := m) (by omega)).1
    simp only [pos]; omega
  rcases Nat.lt_or_ge m 32768 with h2 | h2
  · rw [sA_1 h1 h2, sin_2 h1 (by omega), zI_eq (m - 16384) (by omega)]
    have := near_int (near_at (j := m - 16384) (by omega)).2
    rw [show 16384 - (m - 16384) = 32768 - m by omega] at this
    simp only [pos]; omega
  rcases Nat.lt_or_ge m 49152 with h3 | h3
  · rw [sA_2 h2 h3, sin_3 h2 (by omega), zI_eq (m - 32768) (by omega)]
    have := near_int (near_at (j := m - 32768) (by omega)).1
    simp only [pos, ngI]; omega
  · rw [sA_3 h3, sin_4 h3, zI_eq (m - 49152) (by omega)]
    have := near_int (near_at (j := m - 49152) (by omega)).2
    rw [show 16384 - (m - 49152) = 65536 - m by omega] at this
    simp only [pos, ngI]; omega


/-- The theorems of addition, nearly. -/
def PP (a b : Int) : Prop :=
  ((-19807040628566084398385987584) ≤ T a * T (b + 16384) + T (a + 16384) * T b - 1152921504606846976 * T (a + b) ∧ T a * T (b + 16384) + T (a + 16384) * T b - 1152921504606846976 * T (a + b) ≤ 19807040628566084398385987584) ∧
  ((-19807040628566084398385987584) ≤ T (a + 16384) * T (b + 16384) - T a * T b - 1152921504606846976 * T (a + b + 16384) ∧ T (a + 16384) * T (b + 16384) - T a * T b - 1152921504606846976 * T (a + b + 16384) ≤ 19807040628566084398385987584)

theorem PP_comm {a b : Int} (h : PP a b) : PP b a := by
  unfold PP at *
  rw [Int.mul_comm (T b), Int.mul_comm (T (b + 16384)), Int.mul_comm (T b) (T a), Int.mul_comm (T (b + 16384)) (T (a + 16384)), Int.add_comm b a]
  omega

theorem PP_shift {a b : Int} (h : PP a b) : PP (a + 16384) b := by
  unfold PP at *
  have e1 : T (a + 16384 + 16384) = -T a := by rw [← T_half]; exact T_congr (by omega)
  have e2 : T (a + 16384 + b) = T (a + b + 16384) := T_congr (by omega)
  have e3 : T (a + 16384 + b + 16384) = -T (a + b) := by rw [← T_half]; exact T_congr (by omega)
  rw [e1, e2, e3, Int.neg_mul, Int.neg_mul, Int.mul_neg]
  omega

theorem PP_shifts {a b : Int} (h : PP a b) : ∀ n : Nat, PP (a + 16384 * n) b
  | 0 => by simpa using h
  | n + 1 => by
    have := PP_shift (PP_shifts h n)
    rw [show a + 16384 * ((n + 1 : Nat) : Int) = a + 16384 * (n : Int) + 16384 by omega]
    exact this

theorem PP_congr {a b a' b' : Int} (ha : a % 65536 = a' % 65536) (hb : b % 65536 = b' % 65536) (h : PP a b) : PP a' b' := by
  unfold PP at *
  rw [T_congr (a := a') (b := a) ha.symm, T_congr (a := b') (b := b) hb.symm, T_congr (a := a' + 16384) (b := a + 16384) (by omega), T_congr (a := b' + 16384) (b := b + 16384) (by omega),
    T_congr (a := a' + b') (b := a + b) (by omega), T_congr (a := a' + b' + 16384) (b := a + b + 16384) (by omega)]
  exact h

theorem zI_le {n : Nat} (h : n ≤ 16384) : (-(2 * 1152921504606846976) ≤ (zI n).1 ∧ (zI n).1 ≤ 2 * 1152921504606846976) ∧ (-(2 * 1152921504606846976) ≤ (zI n).2 ∧ (zI n).2 ≤ 2 * 1152921504606846976) := by
  have hz : nb (zI n).1 (zI n).2 (2 * 1152921504606846976) := nb_mono (zI_bd n) (by omega)
  exact ⟨nb_fst hz, nb_snd hz⟩

theorem PP_base {a b : Nat} (ha : a < 16384) (hb : b < 16384) : PP a b := by
  have he := eI_bd a (by omega) b
  have e1 := nb_fst he
  have e2 := nb_snd he
  simp only [eI] at e1 e2
  unfold PP
  rw [T_of (a := (a : Int)) (m := a) (by omega), T_of (a := (b : Int)) (m := b) (by omega), T_of (a := (a : Int) + 16384) (m := a + 16384) (by omega), T_of (a := (b : Int) + 16384) (m := b + 16384) (by omega),
    T_of (a := (a : Int) + (b : Int)) (m := a + b) (by omega), T_of (a := (a : Int) + (b : Int) + 16384) (m := a + b + 16384) (by omega)]
  rw [sA_0 ha, sA_0 hb, sA_1 (m := a + 16384) (by omega) (by omega), sA_1 (m := b + 16384) (by omega) (by omega), show a + 16384 - 16384 = a by omega, show b + 16384 - 16384 = b by omega]
  rw [Int.mul_comm (zI a).2 (zI b).1] at *
  rcases Nat.lt_or_ge (a + b) 16384 with h | h
  · rw [sA_0 h, sA_1 (m := a + b + 16384) (by omega) (by omega), show a + b + 16384 - 16384 = a + b by omega]
    generalize (zI a).1 * (zI b).1 = p1 at *
    generalize (zI a).2 * (zI b).2 = p2 at *
    generalize (zI a).1 * (zI b).2 = p3 at *
    generalize (zI b).1 * (zI a).2 = p4 at *
    generalize (zI (a + b)).1 = c at *
    generalize (zI (a + b)).2 = s at *
    omega
  · obtain ⟨t, ht⟩ : ∃ t, t = a + b - 16384 := ⟨_, rfl⟩
    have ht2 : t < 16384 := by omega
    rw [sA_1 h (by omega), sA_2 (m := a + b + 16384) (by omega) (by omega), show a + b + 16384 - 32768 = t by omega, ← ht]
    have hf := eI_bd t (by omega) 16384
    have f1 := nb_fst hf
    have f2 := nb_snd hf
    simp only [eI] at f1 f2
    rw [show t + 16384 = a + b by omega] at f1 f2
    obtain ⟨ξ, η, hz, x1, x2, x3, x4⟩ := last_int
    rw [hz] at f1 f2
    dsimp only at f1 f2
    obtain ⟨⟨b1, b2⟩, b3, b4⟩ := zI_le (n := t) (by omega)
    have m1 := mul_bd (x := (zI t).1) (y := ξ) (A := 2 * 1152921504606846976) (B := 1073741824) b1 b2 (by omega) (by omega)
    have m2 := mul_bd (x := (zI t).2) (y := ξ) (A := 2 * 1152921504606846976) (B := 1073741824) b3 b4 (by omega) (by omega)
    have m3 := mul_bd (x := (zI t).1) (y := η) (A := 2 * 1152921504606846976) (B := 1073741824) b1 b2 (by omega) (by omega)
    have m4 := mul_bd (x := (zI t).2) (y := η) (A := 2 * 1152921504606846976) (B := 1073741824) b3 b4 (by omega) (by omega)
    rw [Int.mul_add] at f1 f2
    clear hz hf he
    generalize (zI t).1 * ξ = y1 at *
    generalize (zI t).2 * ξ = y2 at *
    generalize (zI t).1 * η = y3 at *
    generalize (zI t).2 * η = y4 at *
    generalize (zI a).1 * (zI b).1 = p1 at *
    generalize (zI a).2 * (zI b).2 = p2 at *
    generalize (zI a).1 * (zI b).2 = p3 at *
    generalize (zI b).1 * (zI a).2 = p4 at *
    generalize (zI (a + b)).1 = c at *
    generalize (zI (a + b)).2 = s at *
    generalize (zI t).1 = ct at *
    generalize (zI t).2 = st at *
    omega

theorem PP_all (a b : Int) : PP a b := by
  obtain ⟨m, hm, h⟩ := res_lt a
  obtain ⟨n, hn, k⟩ := res_lt b
  have h1 := PP_shifts (PP_base (a := m % 16384) (b := n % 16384) (by omega) (by omega)) (m / 16384)
  have h2 := PP_comm (PP_shifts (PP_comm h1) (n / 16384))
  exact PP_congr (by omega) (by omega) h2

/- INTERVALS -/

/-- A product of numbers out of a box. -/
theorem box_mul {x y p q r t lo hi : Int} (h1 : p ≤ x) (h2 : x ≤ q) (h3 : r ≤ y) (h4 : y ≤ t)
    (l1 : lo ≤ p * r) (l2 : lo ≤ p * t) (l3 : lo ≤ q * r) (l4 : lo ≤ q * t) (u1 : p * r ≤ hi) (u2 : p * t ≤ hi) (u3 : q * r ≤ hi) (u4 : q * t ≤ hi) : lo ≤ x * y ∧ x * y ≤ hi := by
  have side : ∀ z : Int, (p * z ≤ x * z ∧ x * z ≤ q * z) ∨ (q * z ≤ x * z ∧ x * z ≤ p * z) := by
    intro z
    rcases Int.le_total 0 z with hz | hz
    · exact .inl ⟨Int.mul_le_mul_of_nonneg_right h1 hz, Int.mul_le_mul_of_nonneg_right h2 hz⟩
    · exact .inr ⟨Int.mul_le_mul_of_nonpos_right h2 hz, Int.mul_le_mul_of_nonpos_right h1 hz⟩
  have sr := side r
  have su := side t
  rcases Int.le_total 0 x with hx | hx
  · have a := Int.mul_le_mul_of_nonneg_left h3 hx
    have b := Int.mul_le_mul_of_nonneg_left h4 hx
    omega
  · have a := Int.mul_le_mul_of_nonpos_left hx h3
    have b := Int.mul_le_mul_of_nonpos_left hx h4
    omega

theorem Mul_spec {x y : Int × Int} (hx : -65536 ≤ x.1 ∧ x.1 ≤ x.2 ∧ x.2 ≤ 65536) (hy : -65536 ≤ y.1 ∧ y.1 ≤ y.2 ∧ y.2 ≤ 65536) :
    (-65536 ≤ (armplanref1_Mul x y).1 ∧ (armplanref1_Mul x y).1 ≤ (armplanref1_Mul x y).2 ∧ (armplanref1_Mul x y).2 ≤ 65536) ∧
    ((armplanref1_Mul x y).1 * 65536 ≤ x.1 * y.1 ∧ (armplanref1_Mul x y).1 * 65536 ≤ x.1 * y.2 ∧ (armplanref1_Mul x y).1 * 65536 ≤ x.2 * y.1 ∧ (armplanref1_Mul x y).1 * 65536 ≤ x.2 * y.2) ∧
    (x.1 * y.1 ≤ (armplanref1_Mul x y).2 * 65536 ∧ x.1 * y.2 ≤ (armplanref1_Mul x y).2 * 65536 ∧ x.2 * y.1 ≤ (armplanref1_Mul x y).2 * 65536 ∧ x.2 * y.2 ≤ (armplanref1_Mul x y).2 * 65536) := by
  have b1 := mul_bd (x := x.1) (y := y.1) (A := 65536) (B := 65536) (by omega) (by omega) (by omega) (by omega)
  have b2 := mul_bd (x := x.1) (y := y.2) (A := 65536) (B := 65536) (by omega) (by omega) (by omega) (by omega)
  have b3 := mul_bd (x := x.2) (y := y.1) (A := 65536) (B := 65536) (by omega) (by omega) (by omega) (by omega)
  have b4 := mul_bd (x := x.2) (y := y.2) (A := 65536) (B := 65536) (by omega) (by omega) (by omega) (by omega)
  have v1 : armplanref1_Valid x = true := by rw [Valid_eq, decide_eq_true_eq]; omega
  have v2 : armplanref1_Valid y = true := by rw [Valid_eq, decide_eq_true_eq]; omega
  unfold armplanref1_Mul t_armplanref1_Mul
  simp only [Tr.val, v1, v2, Bool.not_true, cond_false]
  generalize x.1 * y.1 = p at *
  generalize x.1 * y.2 = q at *
  generalize x.2 * y.1 = r at *
  generalize x.2 * y.2 = s at *
  rw [wrap64 (x := p) (by omega) (by omega), wrap64 (x := q) (by omega) (by omega), wrap64 (x := r) (by omega) (by omega), wrap64 (x := s) (by omega) (by omega)]
  obtain ⟨m, hm, m1, m2, m3, m4, m5, m6⟩ : ∃ m, m = (if s < (if r < (if q < p then q else p) then r else (if q < p then q else p)) then s else (if r < (if q < p then q else p) then r else (if q < p then q else p))) ∧ m ≤ p ∧ m ≤ q ∧ m ≤ r ∧ m ≤ s ∧ -4294967296 ≤ m ∧ m ≤ 4294967296 := by
    refine ⟨_, rfl, ?_⟩
    repeat' split
    all_goals omega
  obtain ⟨n, hn, n1, n2, n3, n4, n5, n6⟩ : ∃ n, n = (if s > (if r > (if q > p then q else p) then r else (if q > p then q else p)) then s else (if r > (if q > p then q else p) then r else (if q > p then q else p))) ∧ p ≤ n ∧ q ≤ n ∧ r ≤ n ∧ s ≤ n ∧ -4294967296 ≤ n ∧ n ≤ 4294967296 := by
    refine ⟨_, rfl, ?_⟩
    repeat' split
    all_goals omega
  rw [← hm, ← hn, Floor_eq (by omega) (by omega) (by omega), Ceil_eq (by omega) (by omega) (by omega), limited_eq (by omega) (by omega) (by omega) (by omega)]
  dsimp only
  omega

theorem Meet_eq {x y : Int × Int} (hx : armplanref1_Valid x = true) (hy : armplanref1_Valid y = true) (h : max x.1 y.1 ≤ min x.2 y.2) : (armplanref1_Meet x y).2 = true := by
  unfold armplanref1_Meet t_armplanref1_Meet
  have g1 : (if y.1 > x.1 then y.1 else x.1) = max x.1 y.1 := by split <;> omega
  have g2 : (if y.2 < x.2 then y.2 else x.2) = min x.2 y.2 := by split <;> omega
  simp only [Tr.val, hx, hy, Bool.not_true, cond_false, g1, g2]
  rw [decide_eq_false (by omega)]; rfl

/-- A product of numbers that are nearly out of a box. -/
theorem near_mul {x y : Int × Int} {u v lo hi : Int} (hx : -65536 ≤ x.1 ∧ x.1 ≤ x.2 ∧ x.2 ≤ 65536) (hy : -65536 ≤ y.1 ∧ y.1 ≤ y.2 ∧ y.2 ≤ 65536)
    (hu : x.1 * 17592186044416 ≤ u + 274877906944 ∧ u ≤ x.2 * 17592186044416 + 274877906944) (hv : y.1 * 17592186044416 ≤ v + 274877906944 ∧ v ≤ y.2 * 17592186044416 + 274877906944)
    (l : lo ≤ x.1 * y.1 ∧ lo ≤ x.1 * y.2 ∧ lo ≤ x.2 * y.1 ∧ lo ≤ x.2 * y.2) (h : x.1 * y.1 ≤ hi ∧ x.1 * y.2 ≤ hi ∧ x.2 * y.1 ≤ hi ∧ x.2 * y.2 ≤ hi) :
    lo * 309485009821345068724781056 ≤ u * v + 1267650600228229401496703205376 ∧ u * v ≤ hi * 309485009821345068724781056 + 1267650600228229401496703205376 := by
  obtain ⟨u', hu1, hu2, hu3, hu4⟩ : ∃ u', x.1 * 17592186044416 ≤ u' ∧ u' ≤ x.2 * 17592186044416 ∧ -274877906944 ≤ u - u' ∧ u - u' ≤ 274877906944 :=
    ⟨max (x.1 * 17592186044416) (min u (x.2 * 17592186044416)), by omega, by omega, by omega, by omega⟩
  obtain ⟨v', hv1, hv2, hv3, hv4⟩ : ∃ v', y.1 * 17592186044416 ≤ v' ∧ v' ≤ y.2 * 17592186044416 ∧ -274877906944 ≤ v - v' ∧ v - v' ≤ 274877906944 :=
    ⟨max (y.1 * 17592186044416) (min v (y.2 * 17592186044416)), by omega, by omega, by omega, by omega⟩
  have sc : ∀ a b : Int, a * 17592186044416 * (b * 17592186044416) = a * b * 309485009821345068724781056 := by intro a b; grind
  have hb := box_mul (x := u') (y := v') (lo := lo * 309485009821345068724781056) (hi := hi * 309485009821345068724781056) hu1 hu2 hv1 hv2
    (by rw [sc]; omega) (by rw [sc]; omega) (by rw [sc]; omega) (by rw [sc]; omega) (by rw [sc]; omega) (by rw [sc]; omega) (by rw [sc]; omega) (by rw [sc]; omega)
  have m1 := mul_bd (x := u - u') (y := v) (A := 274877906944) (B := 2305843009213693952) hu3 hu4 (by omega) (by omega)
  have m2 := mul_bd (x := u') (y := v - v') (A := 2305843009213693952) (B := 274877906944) (by omega) (by omega) hv3 hv4
  have e : u * v = u' * v' + (u - u') * v + u' * (v - v') := by grind
  rw [e]
  generalize u' * v' = z1 at *
  generalize (u - u') * v = z2 at *
  generalize u' * (v - v') = z3 at *
  clear e sc hu hv
  omega

theorem wrap_res (x : Int) : IntKind.wrap .i64 x % 65536 = x % 65536 := by
  unfold IntKind.wrap
  simp only [IntKind.bits, IntKind.signed, Bool.true_and, decide_eq_true_eq, ge_iff_le]
  split <;> omega

theorem valid_of {x : Int × Int} (h1 : -2147483648 ≤ x.1) (h2 : x.1 ≤ x.2) (h3 : x.2 ≤ 2147483648) : armplanref1_Valid x = true := by rw [Valid_eq, decide_eq_true_eq]; exact ⟨h1, h2, h3⟩

theorem add_meets (a b : Int) : (armplanref1_Meet (S (a + b)) (armplanref1_Add (armplanref1_Mul (S a) (S (b + 16384))) (armplanref1_Mul (S (a + 16384)) (S b)))).2 = true := by
  obtain ⟨r1, l1, h1⟩ := Mul_spec (bd3 a) (bd3 (b + 16384))
  obtain ⟨r2, l2, h2⟩ := Mul_spec (bd3 (a + 16384)) (bd3 b)
  have n1 := near_mul (bd3 a) (bd3 (b + 16384)) (T_near a) (T_near (b + 16384)) l1 h1
  have n2 := near_mul (bd3 (a + 16384)) (bd3 b) (T_near (a + 16384)) (T_near b) l2 h2
  have p := (PP_all a b).1
  have n := T_near (a + b)
  have bb := bd3 (a + b)
  rw [Add_eq (valid_of (by omega) (by omega) (by omega)) (valid_of (by omega) (by omega) (by omega)) (by omega) (by omega) (by omega) (by omega)]
  generalize armplanref1_Mul (S a) (S (b + 16384)) = m1 at *
  generalize armplanref1_Mul (S (a + 16384)) (S b) = m2 at *
  refine Meet_eq (valid_of (by omega) (by omega) (by omega)) (valid_of (by dsimp only; omega) (by dsimp only; omega) (by dsimp only; omega)) ?_
  dsimp only
  clear l1 h1 l2 h2
  generalize T a * T (b + 16384) = t1 at *
  generalize T (a + 16384) * T b = t2 at *
  generalize T (a + b) = t at *
  generalize S (a + b) = s at *
  obtain ⟨x, y⟩ := s
  obtain ⟨m1, m1'⟩ := m1
  obtain ⟨m2, m2'⟩ := m2
  dsimp only at *
  omega

end Go.RX

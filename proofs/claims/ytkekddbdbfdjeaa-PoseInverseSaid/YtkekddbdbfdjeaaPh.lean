/-
  Approximate rotations in whole numbers: the sum of two angles. Nothing of the program stands here but the sine of the first quarter.
-/
import Derived.Test.YtkekddbdbfdjeaaPc
import Derived.Test.YtkekddbdbfdjeaaPu
namespace Go.RX
open Go

theorem chk_spec : ∀ (f k : Nat), chk f k (zN k).1 (zN k).2 = true → (∀ j, k ≤ j → j < k + f → good j (zN j).1 (zN j).2 = true) ∧
    ((zN (k + f)).1 ≤ 1073741824 ∧ K ≤ (zN (k + f)).2 + 1073741824 ∧ (zN (k + f)).2 ≤ K + 1073741824)
  | 0, k, h => by
    simp only [chk, Bool.and_eq_true] at h
    exact ⟨fun j h1 h2 => by omega, Nat.le_of_ble_eq_true h.1.1, Nat.le_of_ble_eq_true h.1.2, Nat.le_of_ble_eq_true h.2⟩
  | f + 1, k, h => by
    simp only [chk, st_eq] at h
    cases hg : good k (zN k).1 (zN k).2 with
    | false => rw [hg] at h; simp at h
    | true =>
      rw [hg] at h
      obtain ⟨a, b⟩ := chk_spec f (k + 1) h
      rw [show k + 1 + f = k + (f + 1) by omega] at b
      refine ⟨fun j h1 h2 => ?_, b⟩
      by_cases e : j = k
      · rw [e]; exact hg
      · exact a j (by omega) (by omega)

theorem good_at {j : Nat} (h : j < 16384) : good j (zN j).1 (zN j).2 = true := (chk_spec 16384 0 chk_all).1 j (by omega) (by omega)
theorem last_at : (zN 16384).1 ≤ 1073741824 ∧ K ≤ (zN 16384).2 + 1073741824 ∧ (zN 16384).2 ≤ K + 1073741824 := by
  have := (chk_spec 16384 0 chk_all).2
  simpa using this

theorem near_at {j : Nat} (h : j ≤ 16384) : near (qN j) (zN j).2 = true ∧ near (qN (16384 - j)) (zN j).1 = true := by
  rcases Nat.lt_or_ge j 16384 with hl | hg
  · have := good_at hl
    simp only [good, Bool.and_eq_true] at this
    exact ⟨this.1.2, this.2⟩
  · have e : j = 16384 := by omega
    subst e
    have hl := last_at
    rw [show 16384 - 16384 = 0 by omega, q0, q1]
    have key : ∀ z : Nat × Nat, (z.1 ≤ 1073741824 ∧ K ≤ z.2 + 1073741824 ∧ z.2 ≤ K + 1073741824) → near (65536, 65536) z.2 = true ∧ near (0, 0) z.1 = true := by
      intro z hz
      unfold near K at *
      simp only [Bool.and_eq_true]
      exact ⟨⟨ble_t (by omega), ble_t (by omega)⟩, ble_t (by omega), ble_t (by omega)⟩
    exact key _ hl

/- THE SAME OVER ALL INTEGERS -/

def zI : Nat → Int × Int
  | 0 => ((K : Int), 0)
  | n + 1 => (((zI n).1 * (c0 : Int) - (zI n).2 * (s0 : Int)) / (K : Int), ((zI n).2 * (c0 : Int) + (zI n).1 * (s0 : Int)) / (K : Int))

theorem zI_eq : ∀ n, n ≤ 16384 → zI n = (((zN n).1 : Int), ((zN n).2 : Int))
  | 0, _ => rfl
  | n + 1, h => by
    have ih := zI_eq n (by omega)
    have hg := good_at (j := n) (by omega)
    simp only [good, Bool.and_eq_true] at hg
    have hle := Nat.le_of_ble_eq_true hg.1.1
    simp only [zI, zN, ih]
    refine Prod.ext ?_ ?_
    · dsimp only
      rw [Int.natCast_ediv, Int.ofNat_sub hle]; rfl
    · dsimp only
      rfl

theorem near_int {q : Nat × Nat} {v : Nat} (h : near q v = true) : (q.1 : Int) * 17592186044416 ≤ (v : Int) + 274877906944 ∧ (v : Int) ≤ (q.2 : Int) * 17592186044416 + 274877906944 := by
  simp only [near, Bool.and_eq_true] at h
  have h1 := Nat.le_of_ble_eq_true h.1
  have h2 := Nat.le_of_ble_eq_true h.2
  omega

/- LENGTHS -/

def nb (x y A : Int) : Prop := x * x + y * y ≤ A * A ∧ 0 ≤ A

theorem sq_le {t s : Int} (h : t * t ≤ s * s) (hs : 0 ≤ s) : t ≤ s := by
  rcases Int.lt_or_le s t with hl | hg
  · have h1 : s * s ≤ s * t := Int.mul_le_mul_of_nonneg_left (by omega) hs
    have h2 : s * t < t * t := Int.mul_lt_mul_of_pos_right hl (by omega)
    omega
  · exact hg

theorem sq_nonneg (x : Int) : 0 ≤ x * x := by
  rcases Int.le_total 0 x with h | h
  · exact Int.mul_nonneg h h
  · exact Int.mul_nonneg_of_nonpos_of_nonpos h h

theorem nb_mul {x y u v A B : Int} (h : nb x y A) (k : nb u v B) : nb (x * u - y * v) (x * v + y * u) (A * B) := by
  refine ⟨?_, Int.mul_nonneg h.2 k.2⟩
  have e : (x * u - y * v) * (x * u - y * v) + (x * v + y * u) * (x * v + y * u) = (x * x + y * y) * (u * u + v * v) := by grind
  have e2 : A * B * (A * B) = (A * A) * (B * B) := by grind
  rw [e, e2]
  exact Int.mul_le_mul h.1 k.1 (Int.add_nonneg (sq_nonneg u) (sq_nonneg v)) (sq_nonneg A)

theorem nb_add {x y u v A B : Int} (h : nb x y A) (k : nb u v B) : nb (x + u) (y + v) (A + B) := by
  refine ⟨?_, by have := h.2; have := k.2; omega⟩
  have hc : x * u + y * v ≤ A * B := by
    refine sq_le ?_ (Int.mul_nonneg h.2 k.2)
    have e : (x * u + y * v) * (x * u + y * v) + (x * v - y * u) * (x * v - y * u) = (x * x + y * y) * (u * u + v * v) := by grind
    have e2 : A * B * (A * B) = (A * A) * (B * B) := by grind
    have := sq_nonneg (x * v - y * u)
    have := Int.mul_le_mul h.1 k.1 (Int.add_nonneg (sq_nonneg u) (sq_nonneg v)) (sq_nonneg A)
    rw [e2]; omega
  have e : (x + u) * (x + u) + (y + v) * (y + v) = (x * x + y * y) + (u * u + v * v) + 2 * (x * u + y * v) := by grind
  have e2 : (A + B) * (A + B) = A * A + B * B + 2 * (A * B) := by grind
  have h1 := h.1
  have k1 := k.1
  rw [e, e2]; omega

theorem nb_neg {x y A : Int} (h : nb x y A) : nb (-x) (-y) A := ⟨by have := h.1; rw [Int.neg_mul_neg, Int.neg_mul_neg]; exact this, h.2⟩
theorem nb_mono {x y A B : Int} (h : nb x y A) (hAB : A ≤ B) : nb x y B :=
  ⟨Int.le_trans h.1 (Int.mul_le_mul hAB hAB h.2 (by have := h.2; omega)), by have := h.2; omega⟩
theorem nb_fst {x y A : Int} (h : nb x y A) : -A ≤ x ∧ x ≤ A := by
  have hy := sq_nonneg y
  have h1 := h.1
  have a := sq_le (t := x) (s := A) (by omega) h.2
  have b := sq_le (t := -x) (s := A) (by rw [Int.neg_mul_neg]; omega) h.2
  omega
theorem nb_swap {x y A : Int} (h : nb x y A) : nb y x A := ⟨by have := h.1; omega, h.2⟩
theorem nb_snd {x y A : Int} (h : nb x y A) : -A ≤ y ∧ y ≤ A := nb_fst (nb_swap h)

theorem nb_div {k x y A : Int} (hk : 0 < k) (hA : 0 ≤ A) (h : nb (k * x) (k * y) (k * A)) : nb x y A := by
  refine ⟨?_, hA⟩
  have e : k * x * (k * x) + k * y * (k * y) = (k * k) * (x * x + y * y) := by grind
  have e2 : k * A * (k * A) = (k * k) * (A * A) := by grind
  have h1 := h.1
  rw [e, e2] at h1
  exact Int.le_of_mul_le_mul_left h1 (Int.mul_pos hk hk)


theorem w_bd : nb 1152921499308143464 110534964706100 1152921504606846976 := ⟨by decide, by decide⟩

/-- What rounding leaves out. -/
def dI (n : Nat) : Int × Int := (((zI n).1 * 1152921499308143464 - (zI n).2 * 110534964706100) % 1152921504606846976, ((zI n).2 * 1152921499308143464 + (zI n).1 * 110534964706100) % 1152921504606846976)

theorem zI_step (n : Nat) : 1152921504606846976 * (zI (n + 1)).1 = (zI n).1 * 1152921499308143464 - (zI n).2 * 110534964706100 - (dI n).1 ∧ 1152921504606846976 * (zI (n + 1)).2 = (zI n).2 * 1152921499308143464 + (zI n).1 * 110534964706100 - (dI n).2 := by
  have h1 := Int.mul_ediv_add_emod ((zI n).1 * 1152921499308143464 - (zI n).2 * 110534964706100) 1152921504606846976
  have h2 := Int.mul_ediv_add_emod ((zI n).2 * 1152921499308143464 + (zI n).1 * 110534964706100) 1152921504606846976
  have e1 : (zI (n + 1)).1 = ((zI n).1 * 1152921499308143464 - (zI n).2 * 110534964706100) / 1152921504606846976 := rfl
  have e2 : (zI (n + 1)).2 = ((zI n).2 * 1152921499308143464 + (zI n).1 * 110534964706100) / 1152921504606846976 := rfl
  rw [e1, e2]
  simp only [dI]
  constructor <;> omega

theorem dI_bd (n : Nat) : nb (dI n).1 (dI n).2 (2 * 1152921504606846976) := by
  have h1 : 0 ≤ (dI n).1 ∧ (dI n).1 < 1152921504606846976 := ⟨Int.emod_nonneg _ (by decide), Int.emod_lt_of_pos _ (by decide)⟩
  have h2 : 0 ≤ (dI n).2 ∧ (dI n).2 < 1152921504606846976 := ⟨Int.emod_nonneg _ (by decide), Int.emod_lt_of_pos _ (by decide)⟩
  refine ⟨?_, by decide⟩
  have a := Int.mul_le_mul (a := (dI n).1) (b := (dI n).1) (c := 1152921504606846976) (d := 1152921504606846976) (by omega) (by omega) h1.1 (by decide)
  have b := Int.mul_le_mul (a := (dI n).2) (b := (dI n).2) (c := 1152921504606846976) (d := 1152921504606846976) (by omega) (by omega) h2.1 (by decide)
  have c : (2 * 1152921504606846976 : Int) * (2 * 1152921504606846976) = 4 * (1152921504606846976 * 1152921504606846976) := by decide
  have d : (0 : Int) ≤ 1152921504606846976 * 1152921504606846976 := by decide
  rw [c]; omega

theorem zI_bd : ∀ n : Nat, nb (zI n).1 (zI n).2 (1152921504606846976 + 2 * n)
  | 0 => ⟨by decide, by decide⟩
  | n + 1 => by
    have ih := zI_bd n
    refine nb_div (k := 1152921504606846976) (by decide) (by omega) ?_
    obtain ⟨e1, e2⟩ := zI_step n
    rw [e1, e2]
    have h := nb_add (nb_mul ih w_bd) (nb_neg (dI_bd n))
    have f1 : (zI n).1 * 1152921499308143464 - (zI n).2 * 110534964706100 - (dI n).1 = (zI n).1 * 1152921499308143464 - (zI n).2 * 110534964706100 + -(dI n).1 := by omega
    have f2 : (zI n).2 * 1152921499308143464 + (zI n).1 * 110534964706100 - (dI n).2 = (zI n).1 * 110534964706100 + (zI n).2 * 1152921499308143464 + -(dI n).2 := by omega
    rw [f1, f2]
    exact nb_mono h (by omega)

/-- How far the product is from the value at the sum. -/
def eI (a b : Nat) : Int × Int := ((zI a).1 * (zI b).1 - (zI a).2 * (zI b).2 - 1152921504606846976 * (zI (a + b)).1, (zI a).1 * (zI b).2 + (zI a).2 * (zI b).1 - 1152921504606846976 * (zI (a + b)).2)

theorem eI_bd (a : Nat) (ha : a ≤ 16384) : ∀ b : Nat, nb (eI a b).1 (eI a b).2 (6 * 1152921504606846976 * b)
  | 0 => by
    have : eI a 0 = (0, 0) := by
      unfold eI
      have z0 : zI 0 = (1152921504606846976, 0) := rfl
      rw [z0]
      refine Prod.ext ?_ ?_ <;> simp only [Nat.add_zero] <;> grind
    rw [this]; exact ⟨by simp, by simp⟩
  | b + 1 => by
    have ih := eI_bd a ha b
    refine nb_div (k := 1152921504606846976) (by decide) (by omega) ?_
    obtain ⟨e1, e2⟩ := zI_step b
    obtain ⟨f1, f2⟩ := zI_step (a + b)
    have g1 : 1152921504606846976 * (eI a (b + 1)).1 = ((eI a b).1 * 1152921499308143464 - (eI a b).2 * 110534964706100) + (-((zI a).1 * (dI b).1 - (zI a).2 * (dI b).2)) + (1152921504606846976 * (dI (a + b)).1) := by
      simp only [eI]
      rw [show a + (b + 1) = a + b + 1 by omega]
      grind
    have g2 : 1152921504606846976 * (eI a (b + 1)).2 = ((eI a b).1 * 110534964706100 + (eI a b).2 * 1152921499308143464) + (-((zI a).1 * (dI b).2 + (zI a).2 * (dI b).1)) + (1152921504606846976 * (dI (a + b)).2) := by
      simp only [eI]
      rw [show a + (b + 1) = a + b + 1 by omega]
      grind
    rw [g1, g2]
    have h1 := nb_mul ih w_bd
    have hz : nb (zI a).1 (zI a).2 (2 * 1152921504606846976) := nb_mono (zI_bd a) (by omega)
    have h2 := nb_neg (nb_mul hz (dI_bd b))
    have hk : nb 1152921504606846976 0 1152921504606846976 := ⟨by decide, by decide⟩
    have h3 := nb_mul hk (dI_bd (a + b))
    have h3' : nb (1152921504606846976 * (dI (a + b)).1) (1152921504606846976 * (dI (a + b)).2) (1152921504606846976 * (2 * 1152921504606846976)) := by
      simpa using h3
    refine nb_mono (nb_add (nb_add h1 h2) h3') ?_
    omega

end Go.RX

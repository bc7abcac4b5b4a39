/-
  Parts of arguments give parts of results: law of the monotone matrices.
-/
import Derived.Test.YtkekddbdbfdjeaaMb
namespace Go.RX
open Go

theorem wtn_iff {x y : Int × Int} : wtn x y = true ↔ vld x = true ∧ vld y = true ∧ y.1 ≤ x.1 ∧ x.2 ≤ y.2 := by
  unfold wtn
  simp only [Bool.and_eq_true, decide_eq_true_eq]
  exact ⟨fun ⟨⟨a, b⟩, c⟩ => ⟨a, b, c⟩, fun ⟨a, b, c⟩ => ⟨⟨a, b⟩, c⟩⟩

theorem vld_mk {x : Int × Int} (h1 : -2147483648 ≤ x.1) (h2 : x.1 ≤ x.2) (h3 : x.2 ≤ 2147483648) : vld x = true := by simp only [vld, decide_eq_true_eq]; exact ⟨h1, h2, h3⟩

theorem lim_bd (x : Int) : -2147483648 ≤ lim x ∧ lim x ≤ 2147483648 := by unfold lim; omega
theorem lim_mono {x y : Int} (h : x ≤ y) : lim x ≤ lim y := by unfold lim; omega

theorem wtn_lim {a b c d : Int} (h1 : c ≤ a) (h2 : a ≤ b) (h3 : b ≤ d) : wtn (lim a, lim b) (lim c, lim d) = true := by
  have := lim_bd a
  have := lim_bd b
  have := lim_bd c
  have := lim_bd d
  have := lim_mono h1
  have := lim_mono h2
  have := lim_mono h3
  exact wtn_iff.2 ⟨vld_mk (by omega) (by dsimp only; omega) (by omega), vld_mk (by omega) (by dsimp only; omega) (by omega), by dsimp only; omega, by dsimp only; omega⟩

theorem add_mono {x x' y y' : Int × Int} (hx : wtn x x' = true) (hy : wtn y y' = true) : wtn (addI x y) (addI x' y') = true := by
  obtain ⟨v1, v2, a1, a2⟩ := wtn_iff.1 hx
  obtain ⟨w1, w2, b1, b2⟩ := wtn_iff.1 hy
  have c1 := vld_bd v1
  have c2 := vld_bd w1
  unfold addI
  rw [v1, v2, w1, w2]
  exact wtn_lim (by omega) (by omega) (by omega)
theorem sub_mono {x x' y y' : Int × Int} (hx : wtn x x' = true) (hy : wtn y y' = true) : wtn (subI x y) (subI x' y') = true := by
  obtain ⟨v1, v2, a1, a2⟩ := wtn_iff.1 hx
  obtain ⟨w1, w2, b1, b2⟩ := wtn_iff.1 hy
  have c1 := vld_bd v1
  have c2 := vld_bd w1
  unfold subI
  rw [v1, v2, w1, w2]
  exact wtn_lim (by omega) (by omega) (by omega)

theorem mul_box {x y p q r t lo hi : Int} (h1 : p ≤ x) (h2 : x ≤ q) (h3 : r ≤ y) (h4 : y ≤ t)
    (l1 : lo ≤ p * r) (l2 : lo ≤ p * t) (l3 : lo ≤ q * r) (l4 : lo ≤ q * t) (u1 : p * r ≤ hi) (u2 : p * t ≤ hi) (u3 : q * r ≤ hi) (u4 : q * t ≤ hi) : lo ≤ x * y ∧ x * y ≤ hi := by
  have side : ∀ z : Int, (p * z ≤ x * z ∧ x * z ≤ q * z) ∨ (q * z ≤ x * z ∧ x * z ≤ p * z) := by
    intro z
    rcases Int.le_total 0 z with hz | hz
    · exact .inl ⟨Int.mul_le_mul_of_nonneg_right h1 hz, Int.mul_le_mul_of_nonneg_right h2 hz⟩
    · exact .inr ⟨Int.mul_le_mul_of_nonpos_right h2 hz, Int.mul_le_mul_of_nonpos_right h1 hz⟩
  have sr := side r
  have su := side t
  rcases Int.le_total 0 x with hx | hx
  · have a := Int.mul_le_mul_of_nonneg_left h3 hx
    have b := Int.mul_le_mul_of_nonneg_left h4 hx
    omega
  · have a := Int.mul_le_mul_of_nonpos_left hx h3
    have b := Int.mul_le_mul_of_nonpos_left hx h4
    omega

/-- The corners of a box hold all its products. -/
theorem corners {x y : Int × Int} {u v : Int} (h1 : x.1 ≤ u) (h2 : u ≤ x.2) (h3 : y.1 ≤ v) (h4 : v ≤ y.2) :
    mn4 (x.1 * y.1) (x.1 * y.2) (x.2 * y.1) (x.2 * y.2) ≤ u * v ∧ u * v ≤ mx4 (x.1 * y.1) (x.1 * y.2) (x.2 * y.1) (x.2 * y.2) := by
  refine mul_box h1 h2 h3 h4 ?_ ?_ ?_ ?_ ?_ ?_ ?_ ?_ <;> first | (unfold mn4; omega) | (unfold mx4; omega)

theorem mul_mono {x x' y y' : Int × Int} (hx : wtn x x' = true) (hy : wtn y y' = true) : wtn (mulI x y) (mulI x' y') = true := by
  obtain ⟨v1, v2, a1, a2⟩ := wtn_iff.1 hx
  obtain ⟨w1, w2, b1, b2⟩ := wtn_iff.1 hy
  have c1 := vld_bd v1
  have c2 := vld_bd w1
  have k1 := corners (x := x') (y := y') (u := x.1) (v := y.1) (by omega) (by omega) (by omega) (by omega)
  have k2 := corners (x := x') (y := y') (u := x.1) (v := y.2) (by omega) (by omega) (by omega) (by omega)
  have k3 := corners (x := x') (y := y') (u := x.2) (v := y.1) (by omega) (by omega) (by omega) (by omega)
  have k4 := corners (x := x') (y := y') (u := x.2) (v := y.2) (by omega) (by omega) (by omega) (by omega)
  unfold mulI
  rw [v1, v2, w1, w2]
  simp only [Bool.and_true, cond_true]
  generalize mn4 (x'.1 * y'.1) (x'.1 * y'.2) (x'.2 * y'.1) (x'.2 * y'.2) = lo at *
  generalize mx4 (x'.1 * y'.1) (x'.1 * y'.2) (x'.2 * y'.1) (x'.2 * y'.2) = hi at *
  generalize x.1 * y.1 = p at *
  generalize x.1 * y.2 = q at *
  generalize x.2 * y.1 = r at *
  generalize x.2 * y.2 = s at *
  refine wtn_lim ?_ ?_ ?_ <;> (try unfold mn4) <;> (try unfold mx4) <;> omega

theorem cl_mono {x y : Int × Int} (h : wtn x y = true) : wtn (cl x) (cl y) = true := by
  obtain ⟨v1, v2, a1, a2⟩ := wtn_iff.1 h
  have c1 := vld_bd v1
  unfold cl cl1
  exact wtn_iff.2 ⟨vld_mk (by dsimp only; omega) (by dsimp only; omega) (by dsimp only; omega), vld_mk (by dsimp only; omega) (by dsimp only; omega) (by dsimp only; omega), by dsimp only; omega, by dsimp only; omega⟩

theorem neg_mono {x y : Int × Int} (h : wtn x y = true) : wtn (nega x) (nega y) = true := by
  obtain ⟨v1, v2, a1, a2⟩ := wtn_iff.1 h
  have c1 := vld_bd v1
  have c2 := vld_bd v2
  unfold nega
  rw [v1, v2]
  exact wtn_iff.2 ⟨vld_mk (by dsimp only [cond_true]; omega) (by dsimp only [cond_true]; omega) (by dsimp only [cond_true]; omega), vld_mk (by dsimp only [cond_true]; omega) (by dsimp only [cond_true]; omega) (by dsimp only [cond_true]; omega), by dsimp only [cond_true]; omega, by dsimp only [cond_true]; omega⟩

theorem wtnV_iff {u v : V3} : wtnV u v = true ↔ wtn u.1 v.1 = true ∧ wtn u.2.1 v.2.1 = true ∧ wtn u.2.2 v.2.2 = true := by
  unfold wtnV; simp only [Bool.and_eq_true]
theorem wtnM_iff {a b : M3} : wtnM a b = true ↔ wtnV a.1 b.1 = true ∧ wtnV a.2.1 b.2.1 = true ∧ wtnV a.2.2 b.2.2 = true := by
  unfold wtnM; simp only [Bool.and_eq_true]

theorem dot_mono {x x' y y' : V3} (hx : wtnV x x' = true) (hy : wtnV y y' = true) : wtn (dotI x y) (dotI x' y') = true := by
  obtain ⟨a1, a2, a3⟩ := wtnV_iff.1 hx
  obtain ⟨b1, b2, b3⟩ := wtnV_iff.1 hy
  exact add_mono (add_mono (mul_mono a1 b1) (mul_mono a2 b2)) (mul_mono a3 b3)
theorem apply_mono {m m' : M3} {v v' : V3} (hm : wtnM m m' = true) (hv : wtnV v v' = true) : wtnV (applyM m v) (applyM m' v') = true := by
  obtain ⟨a1, a2, a3⟩ := wtnM_iff.1 hm
  exact wtnV_iff.2 ⟨dot_mono a1 hv, dot_mono a2 hv, dot_mono a3 hv⟩
theorem trn_mono {m m' : M3} (hm : wtnM m m' = true) : wtnM (trn m) (trn m') = true := by
  obtain ⟨a1, a2, a3⟩ := wtnM_iff.1 hm
  obtain ⟨b1, b2, b3⟩ := wtnV_iff.1 a1
  obtain ⟨c1, c2, c3⟩ := wtnV_iff.1 a2
  obtain ⟨d1, d2, d3⟩ := wtnV_iff.1 a3
  exact wtnM_iff.2 ⟨wtnV_iff.2 ⟨b1, c1, d1⟩, wtnV_iff.2 ⟨b2, c2, d2⟩, wtnV_iff.2 ⟨b3, c3, d3⟩⟩
theorem row_mono {x x' : V3} {t t' : M3} (hx : wtnV x x' = true) (ht : wtnM t t' = true) : wtnV (rowM x t) (rowM x' t') = true := by
  obtain ⟨a1, a2, a3⟩ := wtnM_iff.1 ht
  exact wtnV_iff.2 ⟨cl_mono (dot_mono hx a1), cl_mono (dot_mono hx a2), cl_mono (dot_mono hx a3)⟩
theorem comp_mono {a a' b b' : M3} (ha : wtnM a a' = true) (hb : wtnM b b' = true) : wtnM (compM a b) (compM a' b') = true := by
  obtain ⟨a1, a2, a3⟩ := wtnM_iff.1 ha
  have ht := trn_mono hb
  exact wtnM_iff.2 ⟨row_mono a1 ht, row_mono a2 ht, row_mono a3 ht⟩
theorem addV_mono {u u' v v' : V3} (hu : wtnV u u' = true) (hv : wtnV v v' = true) : wtnV (addV u v) (addV u' v') = true := by
  obtain ⟨a1, a2, a3⟩ := wtnV_iff.1 hu
  obtain ⟨b1, b2, b3⟩ := wtnV_iff.1 hv
  exact wtnV_iff.2 ⟨add_mono a1 b1, add_mono a2 b2, add_mono a3 b3⟩
theorem subV_mono {u u' v v' : V3} (hu : wtnV u u' = true) (hv : wtnV v v' = true) : wtnV (subV u v) (subV u' v') = true := by
  obtain ⟨a1, a2, a3⟩ := wtnV_iff.1 hu
  obtain ⟨b1, b2, b3⟩ := wtnV_iff.1 hv
  exact wtnV_iff.2 ⟨sub_mono a1 b1, sub_mono a2 b2, sub_mono a3 b3⟩

theorem wtn_refl {x : Int × Int} (h : vld x = true) : wtn x x = true := wtn_iff.2 ⟨h, h, Int.le_refl _, Int.le_refl _⟩
theorem wtn_zero : wtn (0, 0) (0, 0) = true := by decide
theorem wtn_one : wtn (65536, 65536) (65536, 65536) = true := by decide
theorem vld_ov (k : Int) (a : Int × Int) : vld (ov k a) = true := by
  have := ov_bd k a
  exact vld_mk (by omega) (by omega) (by omega)
theorem ov_mono {k : Int} {a b : Int × Int} (hb : wtn b a = true) : wtn (ov k b) (ov k a) = true := by
  obtain ⟨v1, v2, a1, a2⟩ := wtn_iff.1 hb
  obtain ⟨n1, n2⟩ := ov_nested (k := k) v2 v1 a1 a2
  exact wtn_iff.2 ⟨vld_ov _ _, vld_ov _ _, n1, n2⟩

theorem turn_mono {k : Int} {a b : Int × Int} (hb : wtn b a = true) : wtnM (turnM k b) (turnM k a) = true := by
  obtain ⟨v1, v2, _⟩ := wtn_iff.1 hb
  have c := ov_mono (k := 16384) hb
  have s := ov_mono (k := 0) hb
  have n := neg_mono s
  have z := wtn_zero
  have o := wtn_one
  unfold turnM
  rw [v1, v2]
  simp only [cond_true]
  split
  · exact wtnM_iff.2 ⟨wtnV_iff.2 ⟨o, z, z⟩, wtnV_iff.2 ⟨z, c, n⟩, wtnV_iff.2 ⟨z, s, c⟩⟩
  split
  · exact wtnM_iff.2 ⟨wtnV_iff.2 ⟨c, z, s⟩, wtnV_iff.2 ⟨z, o, z⟩, wtnV_iff.2 ⟨n, z, c⟩⟩
  split
  · exact wtnM_iff.2 ⟨wtnV_iff.2 ⟨c, n, z⟩, wtnV_iff.2 ⟨s, c, z⟩, wtnV_iff.2 ⟨z, z, o⟩⟩
  · exact wtnM_iff.2 ⟨wtnV_iff.2 ⟨z, z, z⟩, wtnV_iff.2 ⟨z, z, z⟩, wtnV_iff.2 ⟨z, z, z⟩⟩

theorem turn_refl (k : Int) (a : Int × Int) : wtnM (turnM k a) (turnM k a) = true := by
  cases h : vld a with
  | true => exact turn_mono (wtn_refl h)
  | false =>
    unfold turnM
    rw [h]
    have z := wtn_zero
    exact wtnM_iff.2 ⟨wtnV_iff.2 ⟨z, z, z⟩, wtnV_iff.2 ⟨z, z, z⟩, wtnV_iff.2 ⟨z, z, z⟩⟩

end Go.RX

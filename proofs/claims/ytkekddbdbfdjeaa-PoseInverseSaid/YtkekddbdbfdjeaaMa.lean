/-
  The program's intervals, vectors and matrices are the reference's.
-/
import Derived.Test.YtkekddbdbfdjeaaFB
import Derived.Test.YtkekddbdbfdjeaaPg
namespace Go.RX
open Go

def lim (x : Int) : Int := max (-2147483648) (min x 2147483648)

theorem clampF_eq (x : Int) : fixed_Clamp x = lim x := by
  unfold fixed_Clamp t_fixed_Clamp lim
  simp only [Tr.val]
  by_cases h1 : -2147483648 > x <;> by_cases h2 : 2147483648 < x <;> simp only [h1, h2, if_true, if_false] <;> (repeat' split) <;> omega

theorem clampR_eq (x : Int) : armplanref1_Clamp x = lim x := by
  unfold armplanref1_Clamp t_armplanref1_Clamp lim
  simp only [Tr.val]
  by_cases h2 : 2147483648 < x <;> simp only [h2, if_true, if_false] <;> (repeat' split) <;> omega

theorem limitF_eq (x y : Int) : interval_limit x y = (lim x, lim y) := by
  unfold interval_limit t_interval_limit
  simp only [Tr.val, clampF_eq]
theorem limitR_eq (x y : Int) : armplanref1_limited x y = (lim x, lim y) := by
  unfold armplanref1_limited t_armplanref1_limited
  simp only [Tr.val, clampR_eq]

theorem ofF_eq (x : Int) : interval_Of x = (lim x, lim x) := by
  unfold interval_Of t_interval_Of
  simp only [Tr.val, limitF_eq]
theorem ofR_eq (x : Int) : armplanref1_Of x = (lim x, lim x) := by
  unfold armplanref1_Of t_armplanref1_Of
  simp only [Tr.val, clampR_eq]

theorem valF (x : Int × Int) : interval_Valid x = vld x := valid_eq
theorem valR (x : Int × Int) : armplanref1_Valid x = vld x := Valid_eq
theorem both_eq (x y : Int × Int) : interval_both x y = (vld x && vld y) := by
  unfold interval_both t_interval_both
  simp only [Tr.val, valF]
  cases vld x <;> rfl

/- What the operations come to. -/
def nega (x : Int × Int) : Int × Int := bif vld x then (-x.2, -x.1) else (0, 0)
def addI (x y : Int × Int) : Int × Int := bif vld x && vld y then (lim (x.1 + y.1), lim (x.2 + y.2)) else (0, 0)
def subI (x y : Int × Int) : Int × Int := bif vld x && vld y then (lim (x.1 - y.2), lim (x.2 - y.1)) else (0, 0)
def mn4 (p q r s : Int) : Int := min (min p q) (min r s)
def mx4 (p q r s : Int) : Int := max (max p q) (max r s)
def mulI (x y : Int × Int) : Int × Int := bif vld x && vld y then
  (lim (mn4 (x.1 * y.1) (x.1 * y.2) (x.2 * y.1) (x.2 * y.2) / 65536), lim (-(-(mx4 (x.1 * y.1) (x.1 * y.2) (x.2 * y.1) (x.2 * y.2)) / 65536))) else (0, 0)

theorem vld_bd {x : Int × Int} (h : vld x = true) : -2147483648 ≤ x.1 ∧ x.1 ≤ x.2 ∧ x.2 ≤ 2147483648 := by simpa [vld] using h

theorem negF (x : Int × Int) : interval_Neg x = nega x := by
  cases h : vld x with
  | true => rw [neg_eq (vld_bd h)]; unfold nega ngI; rw [h]; rfl
  | false => unfold interval_Neg t_interval_Neg nega; simp only [Tr.val, valF, h]; rfl
theorem negR (x : Int × Int) : armplanref1_Neg x = nega x := by
  cases h : vld x with
  | true => rw [Neg_eq (vld_bd h)]; unfold nega ngI; rw [h]; rfl
  | false => unfold armplanref1_Neg t_armplanref1_Neg nega; simp only [Tr.val, valR, h]; rfl

theorem addF (x y : Int × Int) : interval_Add x y = addI x y := by
  unfold interval_Add t_interval_Add addI
  simp only [Tr.val, both_eq]
  cases hx : vld x with
  | false => rfl
  | true =>
    cases hy : vld y with
    | false => rfl
    | true =>
      have b1 := vld_bd hx
      have b2 := vld_bd hy
      simp only [Bool.and_true, Bool.not_true, cond_false, cond_true]
      rw [wrap64 (by omega) (by omega), wrap64 (by omega) (by omega), limitF_eq]
theorem addR (x y : Int × Int) : armplanref1_Add x y = addI x y := by
  unfold armplanref1_Add t_armplanref1_Add addI
  simp only [Tr.val, valR]
  cases hx : vld x with
  | false => rfl
  | true =>
    cases hy : vld y with
    | false => rfl
    | true =>
      have b1 := vld_bd hx
      have b2 := vld_bd hy
      simp only [Bool.and_true, Bool.not_true, cond_false, cond_true]
      rw [wrap64 (by omega) (by omega), wrap64 (by omega) (by omega), limitR_eq]

theorem shr16 (x : Int) : shrI .i64 x 16 = x / 65536 := by
  unfold shrI
  have : (2 : Int) ^ (Nat.min (16 : Int).toNat IntKind.i64.bits) = 65536 := by decide +kernel
  rw [this]
  exact Int.fdiv_eq_ediv_of_nonneg _ (by omega)

theorem down16 (x : Int) : fixed_ShiftDown x 16 = x / 65536 := by
  unfold fixed_ShiftDown t_fixed_ShiftDown
  show shrI .i64 x 16 = _
  exact shr16 x

theorem up16 {x : Int} (h1 : -4611686018427387904 ≤ x) (h2 : x ≤ 4611686018427387904) : fixed_ShiftUp x 16 = -(-x / 65536) := by
  unfold fixed_ShiftUp t_fixed_ShiftUp
  have hs : shlI .i64 (fixed_ShiftDown x 16) 16 = x / 65536 * 65536 := by
    unfold shlI
    have : (2 : Int) ^ (Nat.min (16 : Int).toNat IntKind.i64.bits) = 65536 := by decide +kernel
    rw [down16, this]
    rw [wrap64 (by omega) (by omega)]
  have hd : dom_fixed_ShiftDown x 16 = true := rfl
  simp only [Tr.val, hd, cond_true, hs]
  rw [down16]
  show (bif !decide (x / 65536 * 65536 = x) then IntKind.wrap .i64 (x / 65536 + 1) else x / 65536) = _
  by_cases h : x / 65536 * 65536 = x
  · rw [decide_eq_true h]; simp only [Bool.not_true, cond_false]; omega
  · rw [decide_eq_false h]; simp only [Bool.not_false, cond_true]
    rw [wrap64 (by omega) (by omega)]; omega

theorem mul_bd2 {x y : Int} (h1 : -2147483648 ≤ x) (h2 : x ≤ 2147483648) (k1 : -2147483648 ≤ y) (k2 : y ≤ 2147483648) : -4611686018427387904 ≤ x * y ∧ x * y ≤ 4611686018427387904 := by
  have a1 := Int.mul_nonneg (a := 2147483648 - x) (b := 2147483648 - y) (by omega) (by omega)
  have a2 := Int.mul_nonneg (a := 2147483648 + x) (b := 2147483648 + y) (by omega) (by omega)
  have a3 := Int.mul_nonneg (a := 2147483648 - x) (b := 2147483648 + y) (by omega) (by omega)
  have a4 := Int.mul_nonneg (a := 2147483648 + x) (b := 2147483648 - y) (by omega) (by omega)
  rw [Int.sub_mul, Int.mul_sub, Int.mul_sub] at a1
  rw [Int.add_mul, Int.mul_add, Int.mul_add] at a2
  rw [Int.sub_mul, Int.mul_add, Int.mul_add] at a3
  rw [Int.add_mul, Int.mul_sub, Int.mul_sub] at a4
  omega

theorem prods {x y : Int × Int} (hx : vld x = true) (hy : vld y = true) : (-4611686018427387904 ≤ x.1 * y.1 ∧ x.1 * y.1 ≤ 4611686018427387904) ∧ (-4611686018427387904 ≤ x.1 * y.2 ∧ x.1 * y.2 ≤ 4611686018427387904) ∧
    (-4611686018427387904 ≤ x.2 * y.1 ∧ x.2 * y.1 ≤ 4611686018427387904) ∧ (-4611686018427387904 ≤ x.2 * y.2 ∧ x.2 * y.2 ≤ 4611686018427387904) := by
  have b1 := vld_bd hx
  have b2 := vld_bd hy
  exact ⟨mul_bd2 (by omega) (by omega) (by omega) (by omega), mul_bd2 (by omega) (by omega) (by omega) (by omega), mul_bd2 (by omega) (by omega) (by omega) (by omega), mul_bd2 (by omega) (by omega) (by omega) (by omega)⟩

theorem mulF (x y : Int × Int) : interval_Mul x y = mulI x y := by
  unfold interval_Mul t_interval_Mul mulI
  simp only [Tr.val, both_eq]
  cases hx : vld x with
  | false => rfl
  | true =>
    cases hy : vld y with
    | false => rfl
    | true =>
      obtain ⟨b1, b2, b3, b4⟩ := prods hx hy
      simp only [Bool.and_true, Bool.not_true, cond_false, cond_true]
      generalize x.1 * y.1 = p at *
      generalize x.1 * y.2 = q at *
      generalize x.2 * y.1 = r at *
      generalize x.2 * y.2 = s at *
      rw [wrap64 (x := p) (by omega) (by omega), wrap64 (x := q) (by omega) (by omega), wrap64 (x := r) (by omega) (by omega), wrap64 (x := s) (by omega) (by omega)]
      have e1 : (if p < p then p else p) = p := by split <;> rfl
      have e2 : (if p > p then p else p) = p := by split <;> rfl
      rw [e1]
      have e3 : (if s < (if r < (if q < p then q else p) then r else (if q < p then q else p)) then s else (if r < (if q < p then q else p) then r else (if q < p then q else p))) = mn4 p q r s := by
        unfold mn4; (repeat' split) <;> omega
      have e4 : (if s > (if r > (if q > p then q else p) then r else (if q > p then q else p)) then s else (if r > (if q > p then q else p) then r else (if q > p then q else p))) = mx4 p q r s := by
        unfold mx4; (repeat' split) <;> omega
      rw [e3, e4]
      unfold interval_outward t_interval_outward
      have e5 : -4611686018427387904 ≤ mx4 p q r s ∧ mx4 p q r s ≤ 4611686018427387904 := by unfold mx4; omega
      simp only [Tr.val, down16, up16 e5.1 e5.2, limitF_eq]

theorem mulR (x y : Int × Int) : armplanref1_Mul x y = mulI x y := by
  unfold armplanref1_Mul t_armplanref1_Mul mulI
  simp only [Tr.val, valR]
  cases hx : vld x with
  | false => rfl
  | true =>
    cases hy : vld y with
    | false => rfl
    | true =>
      obtain ⟨b1, b2, b3, b4⟩ := prods hx hy
      simp only [Bool.and_true, Bool.not_true, cond_false, cond_true]
      generalize x.1 * y.1 = p at *
      generalize x.1 * y.2 = q at *
      generalize x.2 * y.1 = r at *
      generalize x.2 * y.2 = s at *
      rw [wrap64 (x := p) (by omega) (by omega), wrap64 (x := q) (by omega) (by omega), wrap64 (x := r) (by omega) (by omega), wrap64 (x := s) (by omega) (by omega)]
      have e3 : (if s < (if r < (if q < p then q else p) then r else (if q < p then q else p)) then s else (if r < (if q < p then q else p) then r else (if q < p then q else p))) = mn4 p q r s := by
        unfold mn4; (repeat' split) <;> omega
      have e4 : (if s > (if r > (if q > p then q else p) then r else (if q > p then q else p)) then s else (if r > (if q > p then q else p) then r else (if q > p then q else p))) = mx4 p q r s := by
        unfold mx4; (repeat' split) <;> omega
      rw [e3, e4]
      have e5 : -4611686018427387904 ≤ mx4 p q r s ∧ mx4 p q r s ≤ 4611686018427387904 := by unfold mx4; omega
      have e6 : -4611686018427387904 ≤ mn4 p q r s ∧ mn4 p q r s ≤ 4611686018427387904 := by unfold mn4; omega
      rw [Floor_eq (by omega) e6.1 e6.2, Ceil_eq (by omega) e5.1 e5.2, limitR_eq]

def wtn (x y : Int × Int) : Bool := vld x && vld y && decide (y.1 ≤ x.1 ∧ x.2 ≤ y.2)
theorem withinF (x y : Int × Int) : interval_Within x y = wtn x y := by
  unfold interval_Within t_interval_Within wtn
  simp only [Tr.val, both_eq]
  cases vld x <;> cases vld y <;> by_cases h1 : y.1 ≤ x.1 <;> by_cases h2 : x.2 ≤ y.2 <;> simp [h1, h2]
theorem withinR (x y : Int × Int) : armplanref1_Within x y = wtn x y := by
  rw [Within_eq, valR, valR]; rfl

/- VECTORS AND MATRICES -/

abbrev V3 := (Int × Int) × ((Int × Int) × (Int × Int))
abbrev M3 := V3 × (V3 × V3)

def zeroI : Int × Int := (0, 0)
/-- The rotation about an axis. -/
def turnM (k : Int) (a : Int × Int) : M3 :=
  bif vld a then
    (if k = 0 then (((65536, 65536), ((0, 0), (0, 0))), (((0, 0), (ov 16384 a, nega (ov 0 a))), ((0, 0), (ov 0 a, ov 16384 a))))
     else if k = 1 then ((ov 16384 a, ((0, 0), ov 0 a)), (((0, 0), ((65536, 65536), (0, 0))), (nega (ov 0 a), ((0, 0), ov 16384 a))))
     else if k = 2 then ((ov 16384 a, (nega (ov 0 a), (0, 0))), ((ov 0 a, (ov 16384 a, (0, 0))), ((0, 0), ((0, 0), (65536, 65536)))))
     else (((0, 0), ((0, 0), (0, 0))), (((0, 0), ((0, 0), (0, 0))), ((0, 0), ((0, 0), (0, 0))))))
  else (((0, 0), ((0, 0), (0, 0))), (((0, 0), ((0, 0), (0, 0))), ((0, 0), ((0, 0), (0, 0)))))

theorem one_eq : matrix_one = (65536, 65536) := by
  unfold matrix_one t_matrix_one
  simp only [Tr.val, ofF_eq]; rfl

theorem turnR (k : Int) (a : Int × Int) : armplanref1_Turn k a = turnM k a := by
  unfold armplanref1_Turn t_armplanref1_Turn turnM
  simp only [Tr.val, valR, ofR_eq, SinOver_eq, CosOver_eq, negR]
  cases vld a with
  | false => rfl
  | true =>
    simp only [Bool.not_true, cond_false, cond_true]
    by_cases h0 : k = 0
    · rw [if_pos h0, decide_eq_true h0]; rfl
    · rw [if_neg h0, decide_eq_false h0]
      by_cases h1 : k = 1
      · rw [if_pos h1, decide_eq_true h1]; rfl
      · rw [if_neg h1, decide_eq_false h1]
        by_cases h2 : k = 2
        · rw [if_pos h2, decide_eq_true h2]; rfl
        · rw [if_neg h2, decide_eq_false h2]; rfl

theorem turnF (k : Int) (a : Int × Int) : matrix_Turn k a = turnM k a := by
  unfold matrix_Turn turnM
  by_cases h0 : k = 0
  · subst h0
    simp only [if_true]
    unfold t_matrix_Turn_0
    simp only [Tr.val, valF, one_eq, sinOver_eq, cosOver_eq, negF]
    cases vld a <;> rfl
  · simp only [h0, if_false]
    by_cases h1 : k = 1
    · subst h1
      simp only [if_true]
      unfold t_matrix_Turn_1
      simp only [Tr.val, valF, one_eq, sinOver_eq, cosOver_eq, negF]
      cases vld a <;> rfl
    · simp only [h1, if_false]
      by_cases h2 : k = 2
      · subst h2
        simp only [if_true]
        unfold t_matrix_Turn_2
        simp only [Tr.val, valF, one_eq, sinOver_eq, cosOver_eq, negF]
        cases vld a <;> rfl
      · simp only [h2, if_false]
        unfold t_matrix_Turn_x
        by_cases h3 : k < 0
        · simp only [decide_eq_true h3, Tr.val, cond_true]; cases vld a <;> rfl
        · have h4 : 2 < k := by omega
          simp only [decide_eq_false h3, decide_eq_true h4, Tr.val, cond_true, cond_false]; cases vld a <;> rfl

theorem awake4 : armplanlaw4_awake = true := by kernel_rfl

end Go.RX

/-
  Approximate rotations in whole numbers: the sum of two angles. Nothing of the program stands here but the sine of the first quarter.
-/
import Derived.Test.YtkekddbdbfdjeaaGreatG6
import Derived.Test.YtkekddbdbfdjeaaGreatPu
import Derived.Test.YtkekddbdbfdjeaaGreatG3
import Derived.Test.YtkekddbdbfdjeaaGreatNr
namespace Go.RX
open Go

theorem sq_le {t s : Int} (h : t * t ≤ s * s) (hs : 0 ≤ s) : t ≤ s := by
  rcases Int.lt_or_le s t with hl | hg
  · have h1 : s * s ≤ s * t := Int.mul_le_mul_of_nonneg_left (by omega) hs
    have h2 : s * t < t * t := Int.mul_lt_mul_of_pos_right hl (by omega)
    omega
  · exact hg

end Go.RX

/-
  The sines of sums: law of the addition.
-/
namespace Go.RX
open Go

theorem mul_bd {x y A B : Int} (h1 : -A ≤ x) (h2 : x ≤ A) (k1 : -B ≤ y) (k2 : y ≤ B) : -(A * B) ≤ x * y ∧ x * y ≤ A * B := by
  have a1 := Int.mul_nonneg (a := A - x) (b := B - y) (by omega) (by omega)
  have a2 := Int.mul_nonneg (a := A + x) (b := B + y) (by omega) (by omega)
  have a3 := Int.mul_nonneg (a := A - x) (b := B + y) (by omega) (by omega)
  have a4 := Int.mul_nonneg (a := A + x) (b := B - y) (by omega) (by omega)
  have e1 : (A - x) * (B - y) = A * B - A * y - x * B + x * y := by grind
  have e2 : (A + x) * (B + y) = A * B + A * y + x * B + x * y := by grind
  have e3 : (A - x) * (B + y) = A * B + A * y - x * B - x * y := by grind
  have e4 : (A + x) * (B - y) = A * B - A * y + x * B - x * y := by grind
  omega

end Go.RX

/-
  The program's intervals, vectors and matrices are the reference's.
-/
namespace Go.RX
open Go

def lim (x : Int) : Int := max (-2147483648) (min x 2147483648)

theorem clampF_eq (x : Int) : fixed_Clamp x = lim x := by
  unfold fixed_Clamp t_fixed_Clamp lim
  simp only [Tr.val]
  by_cases h1 : -2147483648 > x <;> by_cases h2 : 2147483648 < x <;> simp only [h1, h2, if_true, if_false] <;> (repeat' split) <;> omega

theorem clampR_eq (x : Int) : armplanref1_Clamp x = lim x := by
  unfold armplanref1_Clamp t_armplanref1_Clamp lim
  simp only [Tr.val]
  by_cases h2 : 2147483648 < x <;> simp only [h2, if_true, if_false] <;> (repeat' split) <;> omega

theorem limitF_eq (x y : Int) : interval_limit x y = (lim x, lim y) := by
  unfold interval_limit t_interval_limit
  simp only [Tr.val, clampF_eq]
theorem limitR_eq (x y : Int) : armplanref1_limited x y = (lim x, lim y) := by
  unfold armplanref1_limited t_armplanref1_limited
  simp only [Tr.val, clampR_eq]

theorem ofF_eq (x : Int) : interval_Of x = (lim x, lim x) := by
  unfold interval_Of t_interval_Of
  simp only [Tr.val, limitF_eq]
theorem ofR_eq (x : Int) : armplanref1_Of x = (lim x, lim x) := by
  unfold armplanref1_Of t_armplanref1_Of
  simp only [Tr.val, clampR_eq]

theorem valF (x : Int × Int) : interval_Valid x = vld x := valid_eq
theorem valR (x : Int × Int) : armplanref1_Valid x = vld x := Valid_eq
theorem both_eq (x y : Int × Int) : interval_both x y = (vld x && vld y) := by
  unfold interval_both t_interval_both
  simp only [Tr.val, valF]
  cases vld x <;> rfl

/- What the operations come to. -/
def nega (x : Int × Int) : Int × Int := bif vld x then (-x.2, -x.1) else (0, 0)
def addI (x y : Int × Int) : Int × Int := bif vld x && vld y then (lim (x.1 + y.1), lim (x.2 + y.2)) else (0, 0)
def subI (x y : Int × Int) : Int × Int := bif vld x && vld y then (lim (x.1 - y.2), lim (x.2 - y.1)) else (0, 0)
def mn4 (p q r s : Int) : Int := min (min p q) (min r s)
def mx4 (p q r s : Int) : Int := max (max p q) (max r s)
def mulI (x y : Int × Int) : Int × Int := bif vld x && vld y then
  (lim (mn4 (x.1 * y.1) (x.1 * y.2) (x.2 * y.1) (x.2 * y.2) / 65536), lim (-(-(mx4 (x.1 * y.1) (x.1 * y.2) (x.2 * y.1) (x.2 * y.2)) / 65536))) else (0, 0)

theorem vld_bd {x : Int × Int} (h : vld x = true) : -2147483648 ≤ x.1 ∧ x.1 ≤ x.2 ∧ x.2 ≤ 2147483648 := by simpa [vld] using h

theorem negF (x : Int × Int) : interval_Neg x = nega x := by
  cases h : vld x with
  | true => rw [neg_eq (vld_bd h)]; unfold nega ngI; rw [h]; rfl
  | false => unfold interval_Neg t_interval_Neg nega; simp only [Tr.val, valF, h]; rfl
theorem negR (x : Int × Int) : armplanref1_Neg x = nega x := by
  cases h : vld x with
  | true => rw [Neg_eq (vld_bd h)]; unfold nega ngI; rw [h]; rfl
  | false => unfold armplanref1_Neg t_armplanref1_Neg nega; simp only [Tr.val, valR, h]; rfl

theorem addF (x y : Int × Int) : interval_Add x y = addI x y := by
  unfold interval_Add t_interval_Add addI
  simp only [Tr.val, both_eq]
  cases hx : vld x with
  | false => rfl
  | true =>
    cases hy : vld y with
    | false => rfl
    | true =>
      have b1 := vld_bd hx
      have b2 := vld_bd hy
      simp only [Bool.and_true, Bool.not_true, cond_false, cond_true]
      rw [wrap64 (by omega) (by omega), wrap64 (by omega) (by omega), limitF_eq]
theorem addR (x y : Int × Int) : armplanref1_Add x y = addI x y := by
  unfold armplanref1_Add t_armplanref1_Add addI
  simp only [Tr.val, valR]
  cases hx : vld x with
  | false => rfl
  | true =>
    cases hy : vld y with
    | false => rfl
    | true =>
      have b1 := vld_bd hx
      have b2 := vld_bd hy
      simp only [Bool.and_true, Bool.not_true, cond_false, cond_true]
      rw [wrap64 (by omega) (by omega), wrap64 (by omega) (by omega), limitR_eq]

theorem shr16 (x : Int) : shrI .i64 x 16 = x / 65536 := by
  unfold shrI
  have : (2 : Int) ^ (Nat.min (16 : Int).toNat IntKind.i64.bits) = 65536 := by decide +kernel
  rw [this]
  exact Int.fdiv_eq_ediv_of_nonneg _ (by omega)

theorem down16 (x : Int) : fixed_ShiftDown x 16 = x / 65536 := by
  unfold fixed_ShiftDown t_fixed_ShiftDown
  show shrI .i64 x 16 = _
  exact shr16 x

theorem up16 {x : Int} (h1 : -4611686018427387904 ≤ x) (h2 : x ≤ 4611686018427387904) : fixed_ShiftUp x 16 = -(-x / 65536) := by
  unfold fixed_ShiftUp t_fixed_ShiftUp
  have hs : shlI .i64 (fixed_ShiftDown x 16) 16 = x / 65536 * 65536 := by
    unfold shlI
    have : (2 : Int) ^ (Nat.min (16 : Int).toNat IntKind.i64.bits) = 65536 := by decide +kernel
    rw [down16, this]
    rw [wrap64 (by omega) (by omega)]
  have hd : dom_fixed_ShiftDown x 16 = true := rfl
  simp only [Tr.val, hd, cond_true, hs]
  rw [down16]
  show (bif !decide (x / 65536 * 65536 = x) then IntKind.wrap .i64 (x / 65536 + 1) else x / 65536) = _
  by_cases h : x / 65536 * 65536 = x
  · rw [decide_eq_true h]; simp only [Bool.not_true, cond_false]; omega
  · rw [decide_eq_false h]; simp only [Bool.not_false, cond_true]
    rw [wrap64 (by omega) (by omega)]; omega

theorem mul_bd2 {x y : Int} (h1 : -2147483648 ≤ x) (h2 : x ≤ 2147483648) (k1 : -2147483648 ≤ y) (k2 : y ≤ 2147483648) : -4611686018427387904 ≤ x * y ∧ x * y ≤ 4611686018427387904 := by
  have a1 := Int.mul_nonneg (a := 2147483648 - x) (b := 2147483648 - y) (by omega) (by omega)
  have a2 := Int.mul_nonneg (a := 2147483648 + x) (b := 2147483648 + y) (by omega) (by omega)
  have a3 := Int.mul_nonneg (a := 2147483648 - x) (b := 2147483648 + y) (by omega) (by omega)
  have a4 := Int.mul_nonneg (a := 2147483648 + x) (b := 2147483648 - y) (by omega) (by omega)
  rw [Int.sub_mul, Int.mul_sub, Int.mul_sub] at a1
  rw [Int.add_mul, Int.mul_add, Int.mul_add] at a2
  rw [Int.sub_mul, Int.mul_add, Int.mul_add] at a3
  rw [Int.add_mul, Int.mul_sub, Int.mul_sub] at a4
  omega

theorem prods {x y : Int × Int} (hx : vld x = true) (hy : vld y = true) : (-4611686018427387904 ≤ x.1 * y.1 ∧ x.1 * y.1 ≤ 4611686018427387904) ∧ (-4611686018427387904 ≤ x.1 * y.2 ∧ x.1 * y.2 ≤ 4611686018427387904) ∧
    (-4611686018427387904 ≤ x.2 * y.1 ∧ x.2 * y.1 ≤ 4611686018427387904) ∧ (-4611686018427387904 ≤ x.2 * y.2 ∧ x.2 * y.2 ≤ 4611686018427387904) := by
  have b1 := vld_bd hx
  have b2 := vld_bd hy
  exact ⟨mul_bd2 (by omega) (by omega) (by omega) (by omega), mul_bd2 (by omega) (by omega) (by omega) (by omega), mul_bd2 (by omega) (by omega) (by omega) (by omega), mul_bd2 (by omega) (by omega) (by omega) (by omega)⟩

theorem mulF (x y : Int × Int) : interval_Mul x y = mulI x y := by
  unfold interval_Mul t_interval_Mul mulI
  simp only [Tr.val, both_eq]
  cases hx : vld x with
  | false => rfl
  | true =>
    cases hy : vld y with
    | false => rfl
    | true =>
      obtain ⟨b1, b2, b3, b4⟩ := prods hx hy
      simp only [Bool.and_true, Bool.not_true, cond_false, cond_true]
      generalize x.1 * y.1 = p at *
      generalize x.1 * y.2 = q at *
      generalize x.2 * y.1 = r at *
      generalize x.2 * y.2 = s at *
      rw [wrap64 (x := p) (by omega) (by omega), wrap64 (x := q) (by omega) (by omega), wrap64 (x := r) (by omega) (by omega), wrap64 (x := s) (by omega) (by omega)]
      have e1 : (if p < p then p else p) = p := by split <;> rfl
      have e2 : (if p > p then p else p) = p := by split <;> rfl
      rw [e1]
      have e3 : (if s < (if r < (if q < p then q else p) then r else (if q < p then q else p)) then s else (if r < (if q < p then q else p) then r else (if q < p then q else p))) = mn4 p q r s := by
        unfold mn4; (repeat' split) <;> omega
      have e4 : (if s > (if r > (if q > p then q else p) then r else (if q > p then q else p)) then s else (if r > (if q > p then q else p) then r else (if q > p then q else p))) = mx4 p q r s := by
        unfold mx4; (repeat' split) <;> omega
      rw [e3, e4]
      unfold interval_outward t_interval_outward
      have e5 : -4611686018427387904 ≤ mx4 p q r s ∧ mx4 p q r s ≤ 4611686018427387904 := by unfold mx4; omega
      simp only [Tr.val, down16, up16 e5.1 e5.2, limitF_eq]

theorem mulR (x y : Int × Int) : armplanref1_Mul x y = mulI x y := by
  unfold armplanref1_Mul t_armplanref1_Mul mulI
  simp only [Tr.val, valR]
  cases hx : vld x with
  | false => rfl
  | true =>
    cases hy : vld y with
    | false => rfl
    | true =>
      obtain ⟨b1, b2, b3, b4⟩ := prods hx hy
      simp only [Bool.and_true, Bool.not_true, cond_false, cond_true]
      generalize x.1 * y.1 = p at *
      generalize x.1 * y.2 = q at *
      generalize x.2 * y.1 = r at *
      generalize x.2 * y.2 = s at *
      rw [wrap64 (x := p) (by omega) (by omega), wrap64 (x := q) (by omega) (by omega), wrap64 (x := r) (by omega) (by omega), wrap64 (x := s) (by omega) (by omega)]
      have e3 : (if s < (if r < (if q < p then q else p) then r else (if q < p then q else p)) then s else (if r < (if q < p then q else p) then r else (if q < p then q else p))) = mn4 p q r s := by
        unfold mn4; (repeat' split) <;> omega
      have e4 : (if s > (if r > (if q > p then q else p) then r else (if q > p then q else p)) then s else (if r > (if q > p then q else p) then r else (if q > p then q else p))) = mx4 p q r s := by
        unfold mx4; (repeat' split) <;> omega
      rw [e3, e4]
      have e5 : -4611686018427387904 ≤ mx4 p q r s ∧ mx4 p q r s ≤ 4611686018427387904 := by unfold mx4; omega
      have e6 : -4611686018427387904 ≤ mn4 p q r s ∧ mn4 p q r s ≤ 4611686018427387904 := by unfold mn4; omega
      rw [Floor_eq (by omega) e6.1 e6.2, Ceil_eq (by omega) e5.1 e5.2, limitR_eq]

def wtn (x y : Int × Int) : Bool := vld x && vld y && decide (y.1 ≤ x.1 ∧ x.2 ≤ y.2)
theorem withinR (x y : Int × Int) : armplanref1_Within x y = wtn x y := by
  rw [Within_eq, valR, valR]; rfl

/- VECTORS AND MATRICES -/

abbrev V3 := (Int × Int) × ((Int × Int) × (Int × Int))
abbrev M3 := V3 × (V3 × V3)

/-- The rotation about an axis. -/
def turnM (k : Int) (a : Int × Int) : M3 :=
  bif vld a then
    (if k = 0 then (((65536, 65536), ((0, 0), (0, 0))), (((0, 0), (ov 16384 a, nega (ov 0 a))), ((0, 0), (ov 0 a, ov 16384 a))))
     else if k = 1 then ((ov 16384 a, ((0, 0), ov 0 a)), (((0, 0), ((65536, 65536), (0, 0))), (nega (ov 0 a), ((0, 0), ov 16384 a))))
     else if k = 2 then ((ov 16384 a, (nega (ov 0 a), (0, 0))), ((ov 0 a, (ov 16384 a, (0, 0))), ((0, 0), ((0, 0), (65536, 65536)))))
     else (((0, 0), ((0, 0), (0, 0))), (((0, 0), ((0, 0), (0, 0))), ((0, 0), ((0, 0), (0, 0))))))
  else (((0, 0), ((0, 0), (0, 0))), (((0, 0), ((0, 0), (0, 0))), ((0, 0), ((0, 0), (0, 0)))))

theorem one_eq : matrix_one = (65536, 65536) := by
  unfold matrix_one t_matrix_one
  simp only [Tr.val, ofF_eq]; rfl

theorem turnR (k : Int) (a : Int × Int) : armplanref1_Turn k a = turnM k a := by
  unfold armplanref1_Turn t_armplanref1_Turn turnM
  simp only [Tr.val, valR, ofR_eq, SinOver_eq, CosOver_eq, negR]
  cases vld a with
  | false => rfl
  | true =>
    simp only [Bool.not_true, cond_false, cond_true]
    by_cases h0 : k = 0
    · rw [if_pos h0, decide_eq_true h0]; rfl
    · rw [if_neg h0, decide_eq_false h0]
      by_cases h1 : k = 1
      · rw [if_pos h1, decide_eq_true h1]; rfl
      · rw [if_neg h1, decide_eq_false h1]
        by_cases h2 : k = 2
        · rw [if_pos h2, decide_eq_true h2]; rfl
        · rw [if_neg h2, decide_eq_false h2]; rfl

theorem turnF (k : Int) (a : Int × Int) : matrix_Turn k a = turnM k a := by
  unfold matrix_Turn turnM
  by_cases h0 : k = 0
  · subst h0
    simp only [if_true]
    unfold t_matrix_Turn_0
    simp only [Tr.val, valF, one_eq, sinOver_eq, cosOver_eq, negF]
    cases vld a <;> rfl
  · simp only [h0, if_false]
    by_cases h1 : k = 1
    · subst h1
      simp only [if_true]
      unfold t_matrix_Turn_1
      simp only [Tr.val, valF, one_eq, sinOver_eq, cosOver_eq, negF]
      cases vld a <;> rfl
    · simp only [h1, if_false]
      by_cases h2 : k = 2
      · subst h2
        simp only [if_true]
        unfold t_matrix_Turn_2
        simp only [Tr.val, valF, one_eq, sinOver_eq, cosOver_eq, negF]
        cases vld a <;> rfl
      · simp only [h2, if_false]
        unfold t_matrix_Turn_x
        by_cases h3 : k < 0
        · simp only [decide_eq_true h3, Tr.val, cond_true]; cases vld a <;> rfl
        · have h4 : 2 < k := by omega
          simp only [decide_eq_false h3, decide_eq_true h4, Tr.val, cond_true, cond_false]; cases vld a <;> rfl

end Go.RX

/-
  Laws of the matrices: what is applied and composed; the sources of numbers.
-/
namespace Go.RX
open Go

def dotI (x y : V3) : Int × Int := addI (addI (mulI x.1 y.1) (mulI x.2.1 y.2.1)) (mulI x.2.2 y.2.2)
def applyM (m : M3) (v : V3) : V3 := (dotI m.1 v, (dotI m.2.1 v, dotI m.2.2 v))
def trn (m : M3) : M3 := ((m.1.1, (m.2.1.1, m.2.2.1)), ((m.1.2.1, (m.2.1.2.1, m.2.2.2.1)), (m.1.2.2, (m.2.1.2.2, m.2.2.2.2))))
def cl1 (x : Int) : Int := max (-65536) (min x 65536)
def cl (x : Int × Int) : Int × Int := (cl1 x.1, cl1 x.2)
def rowM (x : V3) (t : M3) : V3 := (cl (dotI x t.1), (cl (dotI x t.2.1), cl (dotI x t.2.2)))
def compM (a b : M3) : M3 := (rowM a.1 (trn b), (rowM a.2.1 (trn b), rowM a.2.2 (trn b)))
def addV (u v : V3) : V3 := (addI u.1 v.1, (addI u.2.1 v.2.1, addI u.2.2 v.2.2))
def subV (u v : V3) : V3 := (subI u.1 v.1, (subI u.2.1 v.2.1, subI u.2.2 v.2.2))
def pointV (p : Int × (Int × Int)) : V3 := ((lim p.1, lim p.1), ((lim p.2.1, lim p.2.1), (lim p.2.2, lim p.2.2)))
def wtnV (u v : V3) : Bool := wtn u.1 v.1 && (wtn u.2.1 v.2.1 && wtn u.2.2 v.2.2)
def wtnM (a b : M3) : Bool := wtnV a.1 b.1 && (wtnV a.2.1 b.2.1 && wtnV a.2.2 b.2.2)
def unitM : M3 := (((65536, 65536), ((0, 0), (0, 0))), (((0, 0), ((65536, 65536), (0, 0))), ((0, 0), ((0, 0), (65536, 65536)))))

theorem sumF (x y : V3) : matrix_sum x y = dotI x y := by
  unfold matrix_sum t_matrix_sum dotI
  simp only [Tr.val, mulF, addF]
theorem applyF (m : M3) (v : V3) : matrix_Apply m v = applyM m v := by
  unfold matrix_Apply t_matrix_Apply applyM
  simp only [Tr.val, sumF]
theorem applyR (m : M3) (v : V3) : armplanref1_ApplyMat m v = applyM m v := by
  unfold armplanref1_ApplyMat t_armplanref1_ApplyMat applyM dotI
  simp only [Tr.val, mulR, addR]
theorem addVF (u v : V3) : matrix_Add u v = addV u v := by
  unfold matrix_Add t_matrix_Add addV
  simp only [Tr.val, addF]
theorem addVR (u v : V3) : armplanref1_AddVec u v = addV u v := by
  unfold armplanref1_AddVec t_armplanref1_AddVec addV
  simp only [Tr.val, addR]
theorem subIR (x y : Int × Int) : armplanref1_Sub x y = subI x y := by
  unfold armplanref1_Sub t_armplanref1_Sub subI
  simp only [Tr.val, valR]
  cases hx : vld x with
  | false => rfl
  | true =>
    cases hy : vld y with
    | false => rfl
    | true =>
      have b1 := vld_bd hx
      have b2 := vld_bd hy
      simp only [Bool.and_true, Bool.not_true, cond_false, cond_true]
      rw [wrap64 (by omega) (by omega), wrap64 (by omega) (by omega), limitR_eq]
theorem subVR (u v : V3) : armplanref1_SubVec u v = subV u v := by
  unfold armplanref1_SubVec t_armplanref1_SubVec subV
  simp only [Tr.val, subIR]
theorem pointF (p : Int × (Int × Int)) : matrix_Point p = pointV p := by
  unfold matrix_Point t_matrix_Point pointV
  simp only [Tr.val, ofF_eq]
theorem pointR (p : Int × (Int × Int)) : armplanref1_Point p = pointV p := by
  unfold armplanref1_Point t_armplanref1_Point pointV
  simp only [Tr.val, ofR_eq]
theorem withinVR (u v : V3) : armplanref1_WithinVec u v = wtnV u v := by
  unfold armplanref1_WithinVec t_armplanref1_WithinVec wtnV
  simp only [Tr.val, withinR]
  cases wtn u.1 v.1 <;> cases wtn u.2.1 v.2.1 <;> cases wtn u.2.2 v.2.2 <;> rfl

theorem trnF (m : M3) : matrix_Transpose m = trn m := rfl
theorem limF (x : Int × Int) : matrix_limit x = cl x := by
  unfold matrix_limit t_matrix_limit cl
  simp only [Tr.val]
  refine Prod.ext ?_ ?_ <;> dsimp only <;> unfold cl1 <;> (repeat' split) <;> omega
theorem cl_if (x : Int) : (if (if 65536 < x then 65536 else x) > (-65536) then (if 65536 < x then 65536 else x) else (-65536)) = cl1 x := by
  unfold cl1; (repeat' split) <;> omega

theorem compF (a b : M3) : matrix_Compose a b = compM a b := by
  unfold matrix_Compose t_matrix_Compose compM rowM
  simp only [Tr.val, sumF, limF, trnF]
theorem compR (a b : M3) : armplanref1_ComposeMat a b = compM a b := by
  unfold armplanref1_ComposeMat t_armplanref1_ComposeMat compM rowM dotI trn cl
  simp only [Tr.val, mulR, addR, cl_if]
theorem unitF : matrix_Identity = unitM := by
  unfold matrix_Identity t_matrix_Identity unitM
  simp only [Tr.val, one_eq]
theorem unitR : armplanref1_Unit = unitM := by
  unfold armplanref1_Unit t_armplanref1_Unit unitM
  simp only [Tr.val, ofR_eq]; rfl
theorem withinMR (a b : M3) : armplanref1_WithinMat a b = wtnM a b := by
  unfold armplanref1_WithinMat t_armplanref1_WithinMat wtnM
  simp only [Tr.val, withinVR]
  cases wtnV a.1 b.1 <;> cases wtnV a.2.1 b.2.1 <;> cases wtnV a.2.2 b.2.2 <;> rfl

/- SOURCES -/

/-- A source in use. -/
def srcOk (s : List Int × Int) : Prop := 0 ≤ s.2 ∧ s.1.length ≤ maxLen

theorem src0 {l : List Int} (h : l.length ≤ maxLen) : srcOk (l, 0) := ⟨Int.le_refl _, h⟩

theorem next_ok {s : List Int × Int} (h : srcOk s) {k : Int} (hk : 0 < k) (hk2 : k ≤ 4611686018427387904) : dom_armplanmake_Source_Next s k = true ∧ srcOk (armplanmake_Source_Next s k).2 ∧ 0 ≤ (armplanmake_Source_Next s k).1 ∧ (armplanmake_Source_Next s k).1 < k := by
  obtain ⟨h1, h2⟩ := h
  unfold maxLen at h2
  obtain ⟨l, i⟩ := s
  dsimp only at h1 h2
  unfold dom_armplanmake_Source_Next armplanmake_Source_Next t_armplanmake_Source_Next
  by_cases he : (l.length : Int) ≤ i
  · simp only [decide_eq_true he, Tr.dom, Tr.ok, Tr.val, Bool.and_false, Bool.true_and, cond_false, cond_true]
    exact ⟨by first | trivial | rfl, ⟨h1, by unfold maxLen; exact h2⟩, Int.le_refl _, hk⟩
  · have hd := dom_round (n := List.getD l i.toNat (Ty.dflt (.int .i64))) (k := k) (by omega)
    obtain ⟨r1, r2⟩ := round_eq (n := List.getD l i.toNat (Ty.dflt (.int .i64))) (k := k) hk hk2
    have e1 : IntKind.wrap .i64 (i + 1) = i + 1 := wrap64 (by omega) (by omega)
    have e2 : IntKind.wrap .i64 (i + 1 - 1) = i := by rw [wrap64 (by omega) (by omega)]; omega
    simp only [decide_eq_false he, Tr.dom, Tr.ok, Tr.val, Bool.and_false, cond_false, e1, e2]
    rw [hd, decide_eq_true (show 0 ≤ i from h1), decide_eq_true (show i < ((l.length : Nat) : Int) by omega)]
    exact ⟨by first | trivial | rfl, ⟨show 0 ≤ i + 1 by omega, by unfold maxLen; exact h2⟩, r1, r2⟩

theorem signed_ok {s : List Int × Int} (h : srcOk s) {k : Int} (hk : 0 < k) (hk2 : k ≤ 1099511627776) : dom_armplanmake_Source_Signed s k = true ∧ srcOk (armplanmake_Source_Signed s k).2 ∧ -k ≤ (armplanmake_Source_Signed s k).1 ∧ (armplanmake_Source_Signed s k).1 ≤ k := by
  have e1 : IntKind.wrap .i64 (2 * k) = 2 * k := wrap64 (by omega) (by omega)
  have e2 : IntKind.wrap .i64 (2 * k + 1) = 2 * k + 1 := wrap64 (by omega) (by omega)
  obtain ⟨d, o, b1, b2⟩ := next_ok h (k := 2 * k + 1) (by omega) (by omega)
  unfold dom_armplanmake_Source_Signed armplanmake_Source_Signed t_armplanmake_Source_Signed
  simp only [e1, e2, d, Tr.dom, Tr.ok, Tr.val, Bool.and_false, cond_false, cond_true]
  rw [wrap64 (by omega) (by omega)]
  exact ⟨by first | trivial | rfl, o, by omega, by omega⟩

end Go.RX

/-
  Parts of arguments give parts of results: law of the monotone matrices.
-/
namespace Go.RX
open Go

theorem wtn_iff {x y : Int × Int} : wtn x y = true ↔ vld x = true ∧ vld y = true ∧ y.1 ≤ x.1 ∧ x.2 ≤ y.2 := by
  unfold wtn
  simp only [Bool.and_eq_true, decide_eq_true_eq]
  exact ⟨fun ⟨⟨a, b⟩, c⟩ => ⟨a, b, c⟩, fun ⟨a, b, c⟩ => ⟨⟨a, b⟩, c⟩⟩

theorem vld_mk {x : Int × Int} (h1 : -2147483648 ≤ x.1) (h2 : x.1 ≤ x.2) (h3 : x.2 ≤ 2147483648) : vld x = true := by simp only [vld, decide_eq_true_eq]; exact ⟨h1, h2, h3⟩

theorem lim_bd (x : Int) : -2147483648 ≤ lim x ∧ lim x ≤ 2147483648 := by unfold lim; omega
theorem lim_mono {x y : Int} (h : x ≤ y) : lim x ≤ lim y := by unfold lim; omega

theorem wtn_lim {a b c d : Int} (h1 : c ≤ a) (h2 : a ≤ b) (h3 : b ≤ d) : wtn (lim a, lim b) (lim c, lim d) = true := by
  have := lim_bd a
  have := lim_bd b
  have := lim_bd c
  have := lim_bd d
  have := lim_mono h1
  have := lim_mono h2
  have := lim_mono h3
  exact wtn_iff.2 ⟨vld_mk (by omega) (by dsimp only; omega) (by omega), vld_mk (by omega) (by dsimp only; omega) (by omega), by dsimp only; omega, by dsimp only; omega⟩

theorem add_mono {x x' y y' : Int × Int} (hx : wtn x x' = true) (hy : wtn y y' = true) : wtn (addI x y) (addI x' y') = true := by
  obtain ⟨v1, v2, a1, a2⟩ := wtn_iff.1 hx
  obtain ⟨w1, w2, b1, b2⟩ := wtn_iff.1 hy
  have c1 := vld_bd v1
  have c2 := vld_bd w1
  unfold addI
  rw [v1, v2, w1, w2]
  exact wtn_lim (by omega) (by omega) (by omega)
theorem mul_box {x y p q r t lo hi : Int} (h1 : p ≤ x) (h2 : x ≤ q) (h3 : r ≤ y) (h4 : y ≤ t)
    (l1 : lo ≤ p * r) (l2 : lo ≤ p * t) (l3 : lo ≤ q * r) (l4 : lo ≤ q * t) (u1 : p * r ≤ hi) (u2 : p * t ≤ hi) (u3 : q * r ≤ hi) (u4 : q * t ≤ hi) : lo ≤ x * y ∧ x * y ≤ hi := by
  have side : ∀ z : Int, (p * z ≤ x * z ∧ x * z ≤ q * z) ∨ (q * z ≤ x * z ∧ x * z ≤ p * z) := by
    intro z
    rcases Int.le_total 0 z with hz | hz
    · exact .inl ⟨Int.mul_le_mul_of_nonneg_right h1 hz, Int.mul_le_mul_of_nonneg_right h2 hz⟩
    · exact .inr ⟨Int.mul_le_mul_of_nonpos_right h2 hz, Int.mul_le_mul_of_nonpos_right h1 hz⟩
  have sr := side r
  have su := side t
  rcases Int.le_total 0 x with hx | hx
  · have a := Int.mul_le_mul_of_nonneg_left h3 hx
    have b := Int.mul_le_mul_of_nonneg_left h4 hx
    omega
  · have a := Int.mul_le_mul_of_nonpos_left hx h3
    have b := Int.mul_le_mul_of_nonpos_left hx h4
    omega

/-- The corners of a box hold all its products. -/
theorem corners {x y : Int × Int} {u v : Int} (h1 : x.1 ≤ u) (h2 : u ≤ x.2) (h3 : y.1 ≤ v) (h4 : v ≤ y.2) :
    mn4 (x.1 * y.1) (x.1 * y.2) (x.2 * y.1) (x.2 * y.2) ≤ u * v ∧ u * v ≤ mx4 (x.1 * y.1) (x.1 * y.2) (x.2 * y.1) (x.2 * y.2) := by
  refine mul_box h1 h2 h3 h4 ?_ ?_ ?_ ?_ ?_ ?_ ?_ ?_ <;> first | (unfold mn4; omega) | (unfold mx4; omega)

theorem mul_mono {x x' y y' : Int × Int} (hx : wtn x x' = true) (hy : wtn y y' = true) : wtn (mulI x y) (mulI x' y') = true := by
  obtain ⟨v1, v2, a1, a2⟩ := wtn_iff.1 hx
  obtain ⟨w1, w2, b1, b2⟩ := wtn_iff.1 hy
  have c1 := vld_bd v1
  have c2 := vld_bd w1
  have k1 := corners (x := x') (y := y') (u := x.1) (v := y.1) (by omega) (by omega) (by omega) (by omega)
  have k2 := corners (x := x') (y := y') (u := x.1) (v := y.2) (by omega) (by omega) (by omega) (by omega)
  have k3 := corners (x := x') (y := y') (u := x.2) (v := y.1) (by omega) (by omega) (by omega) (by omega)
  have k4 := corners (x := x') (y := y') (u := x.2) (v := y.2) (by omega) (by omega) (by omega) (by omega)
  unfold mulI
  rw [v1, v2, w1, w2]
  simp only [Bool.and_true, cond_true]
  generalize mn4 (x'.1 * y'.1) (x'.1 * y'.2) (x'.2 * y'.1) (x'.2 * y'.2) = lo at *
  generalize mx4 (x'.1 * y'.1) (x'.1 * y'.2) (x'.2 * y'.1) (x'.2 * y'.2) = hi at *
  generalize x.1 * y.1 = p at *
  generalize x.1 * y.2 = q at *
  generalize x.2 * y.1 = r at *
  generalize x.2 * y.2 = s at *
  refine wtn_lim ?_ ?_ ?_ <;> (try unfold mn4) <;> (try unfold mx4) <;> omega

theorem cl_mono {x y : Int × Int} (h : wtn x y = true) : wtn (cl x) (cl y) = true := by
  obtain ⟨v1, v2, a1, a2⟩ := wtn_iff.1 h
  have c1 := vld_bd v1
  unfold cl cl1
  exact wtn_iff.2 ⟨vld_mk (by dsimp only; omega) (by dsimp only; omega) (by dsimp only; omega), vld_mk (by dsimp only; omega) (by dsimp only; omega) (by dsimp only; omega), by dsimp only; omega, by dsimp only; omega⟩

theorem neg_mono {x y : Int × Int} (h : wtn x y = true) : wtn (nega x) (nega y) = true := by
  obtain ⟨v1, v2, a1, a2⟩ := wtn_iff.1 h
  have c1 := vld_bd v1
  have c2 := vld_bd v2
  unfold nega
  rw [v1, v2]
  exact wtn_iff.2 ⟨vld_mk (by dsimp only [cond_true]; omega) (by dsimp only [cond_true]; omega) (by dsimp only [cond_true]; omega), vld_mk (by dsimp only [cond_true]; omega) (by dsimp only [cond_true]; omega) (by dsimp only [cond_true]; omega), by dsimp only [cond_true]; omega, by dsimp only [cond_true]; omega⟩

theorem wtnV_iff {u v : V3} : wtnV u v = true ↔ wtn u.1 v.1 = true ∧ wtn u.2.1 v.2.1 = true ∧ wtn u.2.2 v.2.2 = true := by
  unfold wtnV; simp only [Bool.and_eq_true]
theorem wtnM_iff {a b : M3} : wtnM a b = true ↔ wtnV a.1 b.1 = true ∧ wtnV a.2.1 b.2.1 = true ∧ wtnV a.2.2 b.2.2 = true := by
  unfold wtnM; simp only [Bool.and_eq_true]

theorem dot_mono {x x' y y' : V3} (hx : wtnV x x' = true) (hy : wtnV y y' = true) : wtn (dotI x y) (dotI x' y') = true := by
  obtain ⟨a1, a2, a3⟩ := wtnV_iff.1 hx
  obtain ⟨b1, b2, b3⟩ := wtnV_iff.1 hy
  exact add_mono (add_mono (mul_mono a1 b1) (mul_mono a2 b2)) (mul_mono a3 b3)
theorem apply_mono {m m' : M3} {v v' : V3} (hm : wtnM m m' = true) (hv : wtnV v v' = true) : wtnV (applyM m v) (applyM m' v') = true := by
  obtain ⟨a1, a2, a3⟩ := wtnM_iff.1 hm
  exact wtnV_iff.2 ⟨dot_mono a1 hv, dot_mono a2 hv, dot_mono a3 hv⟩
theorem trn_mono {m m' : M3} (hm : wtnM m m' = true) : wtnM (trn m) (trn m') = true := by
  obtain ⟨a1, a2, a3⟩ := wtnM_iff.1 hm
  obtain ⟨b1, b2, b3⟩ := wtnV_iff.1 a1
  obtain ⟨c1, c2, c3⟩ := wtnV_iff.1 a2
  obtain ⟨d1, d2, d3⟩ := wtnV_iff.1 a3
  exact wtnM_iff.2 ⟨wtnV_iff.2 ⟨b1, c1, d1⟩, wtnV_iff.2 ⟨b2, c2, d2⟩, wtnV_iff.2 ⟨b3, c3, d3⟩⟩
theorem row_mono {x x' : V3} {t t' : M3} (hx : wtnV x x' = true) (ht : wtnM t t' = true) : wtnV (rowM x t) (rowM x' t') = true := by
  obtain ⟨a1, a2, a3⟩ := wtnM_iff.1 ht
  exact wtnV_iff.2 ⟨cl_mono (dot_mono hx a1), cl_mono (dot_mono hx a2), cl_mono (dot_mono hx a3)⟩
theorem comp_mono {a a' b b' : M3} (ha : wtnM a a' = true) (hb : wtnM b b' = true) : wtnM (compM a b) (compM a' b') = true := by
  obtain ⟨a1, a2, a3⟩ := wtnM_iff.1 ha
  have ht := trn_mono hb
  exact wtnM_iff.2 ⟨row_mono a1 ht, row_mono a2 ht, row_mono a3 ht⟩
theorem addV_mono {u u' v v' : V3} (hu : wtnV u u' = true) (hv : wtnV v v' = true) : wtnV (addV u v) (addV u' v') = true := by
  obtain ⟨a1, a2, a3⟩ := wtnV_iff.1 hu
  obtain ⟨b1, b2, b3⟩ := wtnV_iff.1 hv
  exact wtnV_iff.2 ⟨add_mono a1 b1, add_mono a2 b2, add_mono a3 b3⟩
theorem wtn_refl {x : Int × Int} (h : vld x = true) : wtn x x = true := wtn_iff.2 ⟨h, h, Int.le_refl _, Int.le_refl _⟩
theorem wtn_zero : wtn (0, 0) (0, 0) = true := by decide
theorem wtn_one : wtn (65536, 65536) (65536, 65536) = true := by decide
theorem vld_ov (k : Int) (a : Int × Int) : vld (ov k a) = true := by
  have := ov_bd k a
  exact vld_mk (by omega) (by omega) (by omega)
theorem ov_mono {k : Int} {a b : Int × Int} (hb : wtn b a = true) : wtn (ov k b) (ov k a) = true := by
  obtain ⟨v1, v2, a1, a2⟩ := wtn_iff.1 hb
  obtain ⟨n1, n2⟩ := ov_nested (k := k) v2 v1 a1 a2
  exact wtn_iff.2 ⟨vld_ov _ _, vld_ov _ _, n1, n2⟩

theorem turn_mono {k : Int} {a b : Int × Int} (hb : wtn b a = true) : wtnM (turnM k b) (turnM k a) = true := by
  obtain ⟨v1, v2, _⟩ := wtn_iff.1 hb
  have c := ov_mono (k := 16384) hb
  have s := ov_mono (k := 0) hb
  have n := neg_mono s
  have z := wtn_zero
  have o := wtn_one
  unfold turnM
  rw [v1, v2]
  simp only [cond_true]
  split
  · exact wtnM_iff.2 ⟨wtnV_iff.2 ⟨o, z, z⟩, wtnV_iff.2 ⟨z, c, n⟩, wtnV_iff.2 ⟨z, s, c⟩⟩
  split
  · exact wtnM_iff.2 ⟨wtnV_iff.2 ⟨c, z, s⟩, wtnV_iff.2 ⟨z, o, z⟩, wtnV_iff.2 ⟨n, z, c⟩⟩
  split
  · exact wtnM_iff.2 ⟨wtnV_iff.2 ⟨c, n, z⟩, wtnV_iff.2 ⟨s, c, z⟩, wtnV_iff.2 ⟨z, z, o⟩⟩
  · exact wtnM_iff.2 ⟨wtnV_iff.2 ⟨z, z, z⟩, wtnV_iff.2 ⟨z, z, z⟩, wtnV_iff.2 ⟨z, z, z⟩⟩

end Go.RX

/-
  Laws of the matrices: parts, quarters, sums of angles.
-/
namespace Go.RX
open Go

theorem part_wtn {a : Int × Int} (hv : vld a = true) (m n : Int) : dom_armplanmake_Part a m n = true ∧ wtn (armplanmake_Part a m n) a = true := by
  obtain ⟨d, h1, h2, h3⟩ := part_ok hv m n
  have b := vld_bd hv
  exact ⟨d, wtn_iff.2 ⟨vld_mk (by omega) (by omega) (by omega), hv, h1, h3⟩⟩

/- QUARTERS -/

def q3 (k : Int) : M3 := if k = 0 then (((65536, 65536), ((0, 0), (0, 0))), (((0, 0), ((0, 0), (-65536, -65536))), ((0, 0), ((65536, 65536), (0, 0)))))
  else if k = 1 then (((0, 0), ((0, 0), (65536, 65536))), (((0, 0), ((65536, 65536), (0, 0))), ((-65536, -65536), ((0, 0), (0, 0)))))
  else (((0, 0), ((-65536, -65536), (0, 0))), (((65536, 65536), ((0, 0), (0, 0))), ((0, 0), ((0, 0), (65536, 65536)))))
def h3 (k : Int) : M3 := if k = 0 then (((65536, 65536), ((0, 0), (0, 0))), (((0, 0), ((-65536, -65536), (0, 0))), ((0, 0), ((0, 0), (-65536, -65536)))))
  else if k = 1 then (((-65536, -65536), ((0, 0), (0, 0))), (((0, 0), ((65536, 65536), (0, 0))), ((0, 0), ((0, 0), (-65536, -65536)))))
  else (((-65536, -65536), ((0, 0), (0, 0))), (((0, 0), ((-65536, -65536), (0, 0))), ((0, 0), ((0, 0), (65536, 65536)))))

theorem lim_in {t : Int} (h1 : -2147483648 ≤ t) (h2 : t ≤ 2147483648) : lim t = t := by unfold lim; omega
end Go.RX

/-
  Laws of the matrices: exact rational rotations inside the intervals; lengths, orthogonality.
-/
namespace Go.RX
open Go

/-- The interval x holds n / d, and this is at most A. -/
def In (x : Int × Int) (n d A : Int) : Prop := vld x = true ∧ 0 < d ∧ x.1 * d ≤ n ∧ n ≤ x.2 * d ∧ -(A * d) ≤ n ∧ n ≤ A * d

theorem in_lim {lo hi n d A : Int} (hd : 0 < d) (h1 : lo * d ≤ n) (h2 : n ≤ hi * d) (hA : A ≤ 2147483648) (b1 : -(A * d) ≤ n) (b2 : n ≤ A * d) : In (lim lo, lim hi) n d A := by
  have hA0 : 0 ≤ A := by
    rcases Int.lt_or_le A 0 with h | h
    · have : A * d < 0 := Int.mul_neg_of_neg_of_pos h hd
      omega
    · exact h
  have e1 : (2147483648 : Int) * d ≥ A * d := Int.mul_le_mul_of_nonneg_right hA (by omega)
  have hle : lo ≤ hi := by
    have : lo * d ≤ hi * d := by omega
    exact Int.le_of_mul_le_mul_right this hd
  have l1 := lim_bd lo
  have l2 := lim_bd hi
  refine ⟨vld_mk l1.1 (lim_mono hle) l2.2, hd, ?_, ?_, b1, b2⟩
  · dsimp only
    unfold lim
    rcases Int.le_total lo 2147483648 with h | h
    · rw [Int.min_eq_left h]
      rcases Int.le_total (-2147483648) lo with k | k
      · rw [Int.max_eq_right k]; exact h1
      · rw [Int.max_eq_left k]; omega
    · have : 2147483648 * d ≤ lo * d := Int.mul_le_mul_of_nonneg_right h (by omega)
      rw [Int.min_eq_right h, Int.max_eq_right (by decide)]; omega
  · dsimp only
    unfold lim
    rcases Int.le_total hi 2147483648 with h | h
    · rw [Int.min_eq_left h]
      rcases Int.le_total (-2147483648) hi with k | k
      · rw [Int.max_eq_right k]; exact h2
      · have : hi * d ≤ -2147483648 * d := Int.mul_le_mul_of_nonneg_right k (by omega)
        rw [Int.max_eq_left k]; omega
    · rw [Int.min_eq_right h, Int.max_eq_right (by decide)]; omega

theorem in_add {x y : Int × Int} {n m d A B : Int} (hx : In x n d A) (hy : In y m d B) (hAB : A + B ≤ 2147483648) : In (addI x y) (n + m) d (A + B) := by
  obtain ⟨v1, hd, h1, h2, h3, h4⟩ := hx
  obtain ⟨v2, _, k1, k2, k3, k4⟩ := hy
  unfold addI
  rw [v1, v2]
  exact in_lim hd (by rw [Int.add_mul]; omega) (by rw [Int.add_mul]; omega) hAB (by rw [Int.add_mul]; omega) (by rw [Int.add_mul]; omega)

theorem in_mul {x y : Int × Int} {n m d e A B C : Int} (hx : In x n d A) (hy : In y m e B) (hA : 0 ≤ A) (hB : 0 ≤ B) (hC : A * B ≤ 65536 * C) (hC2 : C ≤ 2147483648) : In (mulI x y) (n * m) (65536 * (d * e)) C := by
  obtain ⟨v1, hd, h1, h2, h3, h4⟩ := hx
  obtain ⟨v2, he, k1, k2, k3, k4⟩ := hy
  have hde : 0 < d * e := Int.mul_pos hd he
  have sc : ∀ p q : Int, p * d * (q * e) = p * q * (d * e) := by intro p q; grind
  have up : ∀ p q : Int, p ≤ q → p * (d * e) ≤ q * (d * e) := fun p q h => Int.mul_le_mul_of_nonneg_right h (by omega)
  have hb := mul_box (x := n) (y := m) (p := x.1 * d) (q := x.2 * d) (r := y.1 * e) (t := y.2 * e)
    (lo := mn4 (x.1 * y.1) (x.1 * y.2) (x.2 * y.1) (x.2 * y.2) * (d * e)) (hi := mx4 (x.1 * y.1) (x.1 * y.2) (x.2 * y.1) (x.2 * y.2) * (d * e)) h1 h2 k1 k2
    (by rw [sc]; exact up _ _ (by unfold mn4; omega)) (by rw [sc]; exact up _ _ (by unfold mn4; omega)) (by rw [sc]; exact up _ _ (by unfold mn4; omega)) (by rw [sc]; exact up _ _ (by unfold mn4; omega))
    (by rw [sc]; exact up _ _ (by unfold mx4; omega)) (by rw [sc]; exact up _ _ (by unfold mx4; omega)) (by rw [sc]; exact up _ _ (by unfold mx4; omega)) (by rw [sc]; exact up _ _ (by unfold mx4; omega))
  have ha := mul_bd (x := n) (y := m) (A := A * d) (B := B * e) h3 h4 k3 k4
  rw [sc] at ha
  have hc := up _ _ hC
  unfold mulI
  rw [v1, v2]
  simp only [Bool.and_true, cond_true]
  generalize mn4 (x.1 * y.1) (x.1 * y.2) (x.2 * y.1) (x.2 * y.2) = lo at *
  generalize mx4 (x.1 * y.1) (x.1 * y.2) (x.2 * y.1) (x.2 * y.2) = hi at *
  generalize n * m = z at *
  have f1 := up (lo / 65536 * 65536) lo (by omega)
  have f2 := up hi (-(-hi / 65536) * 65536) (by omega)
  refine in_lim (by omega) ?_ ?_ hC2 ?_ ?_
  · rw [← Int.mul_assoc]; omega
  · rw [← Int.mul_assoc]; omega
  · rw [← Int.mul_assoc, Int.mul_comm C]; omega
  · rw [← Int.mul_assoc, Int.mul_comm C]; omega

theorem in_scale {x : Int × Int} {n d A k : Int} (hk : 0 < k) (h : In x (k * n) (k * d) A) : In x n d A := by
  obtain ⟨v, hd, h1, h2, h3, h4⟩ := h
  have c : ∀ a : Int, a * (k * d) = k * (a * d) := by intro a; grind
  rw [c] at h1 h2 h3 h4
  rw [← Int.mul_neg] at h3
  exact ⟨v, Int.pos_of_mul_pos_right hd hk, Int.le_of_mul_le_mul_left h1 hk, Int.le_of_mul_le_mul_left h2 hk, Int.le_of_mul_le_mul_left h3 hk, Int.le_of_mul_le_mul_left h4 hk⟩

theorem in_eq {x : Int × Int} {n m d e A : Int} (h : In x n d A) (hn : n = m) (hd : d = e) : In x m e A := by rw [← hn, ← hd]; exact h
theorem in_weak {x : Int × Int} {n d A B : Int} (h : In x n d A) (hAB : A ≤ B) : In x n d B := by
  obtain ⟨v, hd, h1, h2, h3, h4⟩ := h
  have := Int.mul_le_mul_of_nonneg_right hAB (Int.le_of_lt hd)
  exact ⟨v, hd, h1, h2, by omega, by omega⟩
theorem in_bd {x : Int × Int} {n d A B : Int} (h : In x n d A) (h1 : -(B * d) ≤ n) (h2 : n ≤ B * d) : In x n d B := ⟨h.1, h.2.1, h.2.2.1, h.2.2.2.1, h1, h2⟩

theorem in_cl {x : Int × Int} {n d : Int} (h : In x n d 65536) : In (cl x) n d 65536 := by
  obtain ⟨v, hd, h1, h2, h3, h4⟩ := h
  have hv := vld_bd v
  unfold cl cl1
  refine ⟨vld_mk (by dsimp only; omega) (by dsimp only; omega) (by dsimp only; omega), hd, ?_, ?_, h3, h4⟩
  · dsimp only
    rcases Int.le_total x.1 65536 with h | h
    · rw [Int.min_eq_left h]
      rcases Int.le_total (-65536) x.1 with k | k
      · rw [Int.max_eq_right k]; exact h1
      · rw [Int.max_eq_left k]; omega
    · have : 65536 * d ≤ x.1 * d := Int.mul_le_mul_of_nonneg_right h (by omega)
      rw [Int.min_eq_right h, Int.max_eq_right (by decide)]; omega
  · dsimp only
    rcases Int.le_total x.2 65536 with h | h
    · rw [Int.min_eq_left h]
      rcases Int.le_total (-65536) x.2 with k | k
      · rw [Int.max_eq_right k]; exact h2
      · have : x.2 * d ≤ -65536 * d := Int.mul_le_mul_of_nonneg_right k (by omega)
        rw [Int.max_eq_left k]; omega
    · rw [Int.min_eq_right h, Int.max_eq_right (by decide)]; omega

theorem in_neg {x : Int × Int} {n d A : Int} (h : In x n d A) : In (nega x) (-n) d A := by
  obtain ⟨v, hd, h1, h2, h3, h4⟩ := h
  have hv := vld_bd v
  unfold nega
  rw [v]
  exact ⟨vld_mk (by dsimp only [cond_true]; omega) (by dsimp only [cond_true]; omega) (by dsimp only [cond_true]; omega), hd, by dsimp only [cond_true]; rw [Int.neg_mul]; omega, by dsimp only [cond_true]; rw [Int.neg_mul]; omega, by omega, by omega⟩

theorem in_pt {t d A : Int} (hd : 0 < d) (hA : A ≤ 2147483648) (h1 : -A ≤ t) (h2 : t ≤ A) : In (t, t) (t * d) d A := by
  have a := Int.mul_le_mul_of_nonneg_right h1 (Int.le_of_lt hd)
  have b := Int.mul_le_mul_of_nonneg_right h2 (Int.le_of_lt hd)
  rw [Int.neg_mul] at a
  exact ⟨vld_mk (by dsimp only; omega) (Int.le_refl _) (by dsimp only; omega), hd, Int.le_refl _, Int.le_refl _, a, b⟩

/- EXACT ROTATIONS -/

abbrev E3 := Int × (Int × Int)
abbrev X3 := E3 × (E3 × E3)
def dotE (x y : E3) : Int := x.1 * y.1 + x.2.1 * y.2.1 + x.2.2 * y.2.2
def trE (m : X3) : X3 := ((m.1.1, (m.2.1.1, m.2.2.1)), ((m.1.2.1, (m.2.1.2.1, m.2.2.2.1)), (m.1.2.2, (m.2.1.2.2, m.2.2.2.2))))
def apE (m : X3) (v : E3) : E3 := (dotE m.1 v, (dotE m.2.1 v, dotE m.2.2 v))
def muE (a b : X3) : X3 := (apE (trE b) a.1, (apE (trE b) a.2.1, apE (trE b) a.2.2))
def inV (v : V3) (e : E3) (d A : Int) : Prop := In v.1 e.1 d A ∧ In v.2.1 e.2.1 d A ∧ In v.2.2 e.2.2 d A
def inM (m : M3) (e : X3) (d A : Int) : Prop := inV m.1 e.1 d A ∧ inV m.2.1 e.2.1 d A ∧ inV m.2.2 e.2.2 d A
/-- Rows of length d that stand upright on each other. -/
def orth (e : X3) (d : Int) : Prop := dotE e.1 e.1 = d * d ∧ dotE e.2.1 e.2.1 = d * d ∧ dotE e.2.2 e.2.2 = d * d ∧ dotE e.1 e.2.1 = 0 ∧ dotE e.1 e.2.2 = 0 ∧ dotE e.2.1 e.2.2 = 0
def rotE (e : X3) (d : Int) : Prop := orth e d ∧ orth (trE e) d

theorem dotE_comm (x y : E3) : dotE x y = dotE y x := by unfold dotE; rw [Int.mul_comm x.1, Int.mul_comm x.2.1, Int.mul_comm x.2.2]

theorem in_dot {x y : V3} {e f : E3} {d d' A B C : Int} (hx : inV x e d A) (hy : inV y f d' B) (hA : 0 ≤ A) (hB : 0 ≤ B) (hC : A * B ≤ 65536 * C) (hC2 : C + C + C ≤ 2147483648) (hC0 : 0 ≤ C) :
    In (dotI x y) (dotE e f) (65536 * (d * d')) (C + C + C) :=
  in_add (in_add (in_mul hx.1 hy.1 hA hB hC (by omega)) (in_mul hx.2.1 hy.2.1 hA hB hC (by omega)) (by omega)) (in_mul hx.2.2 hy.2.2 hA hB hC (by omega)) hC2

/-- Combinations of rows that stand upright on each other. -/
theorem comb (e : X3) {d : Int} (h : orth e d) (x y : E3) : dotE (apE (trE e) x) (apE (trE e) y) = d * d * dotE x y := by
  obtain ⟨h1, h2, h3, h4, h5, h6⟩ := h
  have : dotE (apE (trE e) x) (apE (trE e) y) = x.1 * y.1 * dotE e.1 e.1 + x.2.1 * y.2.1 * dotE e.2.1 e.2.1 + x.2.2 * y.2.2 * dotE e.2.2 e.2.2 + (x.1 * y.2.1 + x.2.1 * y.1) * dotE e.1 e.2.1
      + (x.1 * y.2.2 + x.2.2 * y.1) * dotE e.1 e.2.2 + (x.2.1 * y.2.2 + x.2.2 * y.2.1) * dotE e.2.1 e.2.2 := by
    obtain ⟨⟨a, b, c⟩, ⟨p, q, r⟩, ⟨u, v, w⟩⟩ := e
    obtain ⟨x1, x2, x3⟩ := x
    obtain ⟨y1, y2, y3⟩ := y
    simp only [dotE, apE, trE]
    grind
  rw [this, h1, h2, h3, h4, h5, h6]
  unfold dotE
  grind

theorem trE_mu (a b : X3) : trE (muE a b) = muE (trE b) (trE a) := by
  obtain ⟨⟨a1, a2, a3⟩, ⟨a4, a5, a6⟩, ⟨a7, a8, a9⟩⟩ := a
  obtain ⟨⟨b1, b2, b3⟩, ⟨b4, b5, b6⟩, ⟨b7, b8, b9⟩⟩ := b
  simp only [trE, muE, apE, dotE, Prod.mk.injEq]
  grind

theorem orth_mu {a b : X3} {d e : Int} (ha : orth a d) (hb : orth b e) : orth (muE a b) (d * e) := by
  obtain ⟨h1, h2, h3, h4, h5, h6⟩ := ha
  have s : d * e * (d * e) = e * e * (d * d) := by grind
  unfold orth muE
  simp only [comb b hb, h1, h2, h3, h4, h5, h6, s, Int.mul_zero, and_self]

theorem rot_mu {a b : X3} {d e : Int} (ha : rotE a d) (hb : rotE b e) : rotE (muE a b) (d * e) := by
  refine ⟨orth_mu ha.1 hb.1, ?_⟩
  rw [trE_mu, Int.mul_comm]
  exact orth_mu hb.2 ha.2

theorem sq_at {x d : Int} (h : x * x ≤ d * d) (hd : 0 ≤ d) : -d ≤ x ∧ x ≤ d := by
  have a := sq_le h hd
  have b := sq_le (t := -x) (by rw [Int.neg_mul_neg]; exact h) hd
  omega
theorem sq_nn (x : Int) : 0 ≤ x * x := by
  rcases Int.le_total 0 x with h | h
  · exact Int.mul_nonneg h h
  · have := Int.mul_nonneg (a := -x) (b := -x) (by omega) (by omega)
    rwa [Int.neg_mul_neg] at this
theorem row_bd {x : E3} {d : Int} (h : dotE x x = d * d) (hd : 0 ≤ d) : (-d ≤ x.1 ∧ x.1 ≤ d) ∧ (-d ≤ x.2.1 ∧ x.2.1 ≤ d) ∧ (-d ≤ x.2.2 ∧ x.2.2 ≤ d) := by
  have a := sq_nn x.1
  have b := sq_nn x.2.1
  have c := sq_nn x.2.2
  unfold dotE at h
  exact ⟨sq_at (by omega) hd, sq_at (by omega) hd, sq_at (by omega) hd⟩

def sc (k : Int) (e : E3) : E3 := (k * e.1, (k * e.2.1, k * e.2.2))
def scM (k : Int) (e : X3) : X3 := (sc k e.1, (sc k e.2.1, sc k e.2.2))
theorem dot_sc (k l : Int) (x y : E3) : dotE (sc k x) (sc l y) = k * l * dotE x y := by unfold dotE sc; grind

/-- A matrix of intervals with a rotation in it. -/
def Rt (m : M3) (e : X3) (d : Int) : Prop := 0 < d ∧ rotE e d ∧ inM m (scM 65536 e) d 65536

theorem tr_in {m : M3} {e : X3} {d A : Int} (h : inM m e d A) : inM (trn m) (trE e) d A :=
  ⟨⟨h.1.1, h.2.1.1, h.2.2.1⟩, ⟨h.1.2.1, h.2.1.2.1, h.2.2.2.1⟩, ⟨h.1.2.2, h.2.1.2.2, h.2.2.2.2⟩⟩
theorem in_unit {x y : V3} {e f : E3} {d d' : Int} (hx : inV x (sc 65536 e) d 65536) (hy : inV y (sc 65536 f) d' 65536) : In (dotI x y) (65536 * dotE e f) (d * d') 196608 := by
  have h := in_dot hx hy (C := 65536) (by decide) (by decide) (by decide) (by decide) (by decide)
  rw [dot_sc] at h
  refine in_scale (k := 65536) (by decide) (in_eq h ?_ rfl)
  rw [Int.mul_assoc]

theorem row_in {x : V3} {t : M3} {e : E3} {f : X3} {d d' : Int} (hx : inV x (sc 65536 e) d 65536) (ht : inM t (scM 65536 f) d' 65536) (hd : 0 ≤ d * d') (hr : dotE (apE f e) (apE f e) = d * d' * (d * d')) :
    inV (rowM x t) (sc 65536 (apE f e)) (d * d') 65536 := by
  obtain ⟨b1, b2, b3⟩ := row_bd hr hd
  have h1 := in_unit hx ht.1
  have h2 := in_unit hx ht.2.1
  have h3 := in_unit hx ht.2.2
  rw [dotE_comm] at h1 h2 h3
  have g : ∀ {z n : Int}, -n ≤ z ∧ z ≤ n → -(65536 * n) ≤ 65536 * z ∧ 65536 * z ≤ 65536 * n := fun h => by omega
  exact ⟨in_cl (in_bd h1 (g b1).1 (g b1).2), in_cl (in_bd h2 (g b2).1 (g b2).2), in_cl (in_bd h3 (g b3).1 (g b3).2)⟩

theorem rt_comp {a b : M3} {e f : X3} {d d' : Int} (ha : Rt a e d) (hb : Rt b f d') : Rt (compM a b) (muE e f) (d * d') := by
  obtain ⟨hd, re, ia⟩ := ha
  obtain ⟨hd', rf, ib⟩ := hb
  have hp := Int.mul_pos hd hd'
  have hr := rot_mu re rf
  have ht : inM (trn b) (scM 65536 (trE f)) d' 65536 := tr_in ib
  exact ⟨hp, hr, row_in ia.1 ht (Int.le_of_lt hp) hr.1.1, row_in ia.2.1 ht (Int.le_of_lt hp) hr.1.2.1, row_in ia.2.2 ht (Int.le_of_lt hp) hr.1.2.2.1⟩

/- A ROTATION ABOUT AN AXIS -/

theorem exact0 (r : Nat) (hr : r ≤ 16384) : ∃ c s d : Int, 0 < d ∧ c * c + s * s = d * d ∧ In (pos (qN r)) (65536 * s) d 65536 ∧ In (pos (qN (16384 - r))) (65536 * c) d 65536 := by
  rcases Nat.lt_or_ge r 16384 with h | h
  · obtain ⟨n, hn⟩ := rat_ex h
    unfold ratAt holdsN at hn
    simp only [Bool.and_eq_true, Nat.ble_eq] at hn
    obtain ⟨⟨h0, h1, h2⟩, h3, h4⟩ := hn
    have b1 := pos_bd hr
    have b2 := pos_bd (r := 16384 - r) (by omega)
    have hk : 0 < K := by decide
    have hdn : 0 < K * K + n * n := by have := Nat.mul_pos hk hk; omega
    have hnk : n * n ≤ K * K := Nat.mul_le_mul h0 h0
    have hd : (0 : Int) < ((K * K + n * n : Nat) : Int) := by omega
    have e1 : ((K * K - n * n : Nat) : Int) = (K : Int) * K - (n : Int) * n := by rw [Int.ofNat_sub hnk]; rfl
    refine ⟨((K * K - n * n : Nat) : Int), ((2 * n * K : Nat) : Int), ((K * K + n * n : Nat) : Int), hd, ?_, ?_, ?_⟩
    · rw [e1]
      push_cast
      generalize (K : Int) = k
      generalize (n : Int) = m
      grind
    · have a1 : (qN r).1 * (K * K + n * n) ≤ 65536 * (2 * n * K) := by rw [Nat.mul_comm 65536]; exact h1
      have a2 : 65536 * (2 * n * K) ≤ (qN r).2 * (K * K + n * n) := by rw [Nat.mul_comm 65536]; exact h2
      have a3 : (qN r).2 * (K * K + n * n) ≤ 65536 * (K * K + n * n) := Nat.mul_le_mul_right _ (q_bd hr).2.1
      refine ⟨vld_mk (by omega) b1.2.1 (by omega), hd, ?_, ?_, ?_, ?_⟩
      · exact Int.ofNat_le.2 a1
      · exact Int.ofNat_le.2 a2
      · have : (0 : Int) ≤ 65536 * ((2 * n * K : Nat) : Int) := by omega
        have : (0 : Int) ≤ 65536 * ((K * K + n * n : Nat) : Int) := by omega
        omega
      · exact Int.ofNat_le.2 (Nat.le_trans a2 a3)
    · have a1 : (qN (16384 - r)).1 * (K * K + n * n) ≤ 65536 * (K * K - n * n) := by rw [Nat.mul_comm 65536]; exact h3
      have a2 : 65536 * (K * K - n * n) ≤ (qN (16384 - r)).2 * (K * K + n * n) := by rw [Nat.mul_comm 65536]; exact h4
      have a3 : (qN (16384 - r)).2 * (K * K + n * n) ≤ 65536 * (K * K + n * n) := Nat.mul_le_mul_right _ (q_bd (r := 16384 - r) (by omega)).2.1
      refine ⟨vld_mk (by omega) b2.2.1 (by omega), hd, ?_, ?_, ?_, ?_⟩
      · exact Int.ofNat_le.2 a1
      · exact Int.ofNat_le.2 a2
      · have : (0 : Int) ≤ 65536 * ((K * K - n * n : Nat) : Int) := by omega
        have : (0 : Int) ≤ 65536 * ((K * K + n * n : Nat) : Int) := by omega
        omega
      · exact Int.ofNat_le.2 (Nat.le_trans a2 a3)
  · have : r = 16384 := by omega
    subst this
    have e1 : pos (qN 16384) = (65536, 65536) := by kernel_rfl
    have e2 : pos (qN (16384 - 16384)) = (0, 0) := by kernel_rfl
    rw [e1, e2]
    exact ⟨0, 1, 1, by decide, by decide, ⟨by decide, by decide, by decide, by decide, by decide, by decide⟩, ⟨by decide, by decide, by decide, by decide, by decide, by decide⟩⟩

theorem in_ng {x : Int × Int} {n d A : Int} (h : In x n d A) : In (ngI x) (-n) d A := by
  have := in_neg h
  unfold nega at this
  rw [h.1] at this
  exact this

theorem exactS (a : Int) : ∃ c s d : Int, 0 < d ∧ c * c + s * s = d * d ∧ In (S a) (65536 * s) d 65536 ∧ In (S (a + 16384)) (65536 * c) d 65536 := by
  obtain ⟨r, hr, h1, h2⟩ := S_quarter a
  obtain ⟨c, s, d, hd, hc, i1, i2⟩ := exact0 r hr
  rcases h1 with h1 | h1 <;> rcases h2 with h2 | h2 <;> rw [h1, h2]
  · exact ⟨c, s, d, hd, hc, i1, i2⟩
  · exact ⟨-c, s, d, hd, by rw [Int.neg_mul_neg]; exact hc, i1, by rw [Int.mul_neg]; exact in_ng i2⟩
  · exact ⟨c, -s, d, hd, by rw [Int.neg_mul_neg]; exact hc, by rw [Int.mul_neg]; exact in_ng i1, i2⟩
  · exact ⟨-c, -s, d, hd, by rw [Int.neg_mul_neg, Int.neg_mul_neg]; exact hc, by rw [Int.mul_neg]; exact in_ng i1, by rw [Int.mul_neg]; exact in_ng i2⟩

theorem in_wide {x y : Int × Int} {n d A : Int} (h : In x n d A) (v : vld y = true) (h1 : y.1 ≤ x.1) (h2 : x.2 ≤ y.2) : In y n d A := by
  obtain ⟨_, hd, k1, k2, k3, k4⟩ := h
  have a := Int.mul_le_mul_of_nonneg_right h1 (Int.le_of_lt hd)
  have b := Int.mul_le_mul_of_nonneg_right h2 (Int.le_of_lt hd)
  exact ⟨v, hd, by omega, by omega, k3, k4⟩

def axE (k c s d : Int) : X3 := if k = 0 then ((d, (0, 0)), ((0, (c, -s)), (0, (s, c)))) else if k = 1 then ((c, (0, s)), ((0, (d, 0)), (-s, (0, c)))) else ((c, (-s, 0)), ((s, (c, 0)), (0, (0, d))))

theorem rot_ax {k c s d : Int} (h : c * c + s * s = d * d) : rotE (axE k c s d) d := by
  unfold axE
  split
  · unfold rotE orth trE dotE; dsimp only; refine ⟨⟨?_, ?_, ?_, ?_, ?_, ?_⟩, ⟨?_, ?_, ?_, ?_, ?_, ?_⟩⟩ <;> grind
  · split
    · unfold rotE orth trE dotE; dsimp only; refine ⟨⟨?_, ?_, ?_, ?_, ?_, ?_⟩, ⟨?_, ?_, ?_, ?_, ?_, ?_⟩⟩ <;> grind
    · unfold rotE orth trE dotE; dsimp only; refine ⟨⟨?_, ?_, ?_, ?_, ?_, ?_⟩, ⟨?_, ?_, ?_, ?_, ?_, ?_⟩⟩ <;> grind

theorem rt_turn {k x : Int} (k1 : 0 ≤ k) (k2 : k < 3) (h1 : -2147483648 ≤ x) (h2 : x ≤ 2147483648) : ∃ e d, Rt (turnM k (x, x)) e d := by
  obtain ⟨c, s, d, hd, hc, is, ic⟩ := exactS x
  have hv : vld (x, x) = true := vld_mk h1 (Int.le_refl _) h2
  have ws := ov_contains (k := 0) hv (n := x) (Int.le_refl _) (Int.le_refl _)
  have wc := ov_contains (k := 16384) hv (n := x) (Int.le_refl _) (Int.le_refl _)
  rw [Int.add_zero] at ws
  have Is := in_wide is (vld_ov 0 (x, x)) ws.1 ws.2
  have Ic := in_wide ic (vld_ov 16384 (x, x)) wc.1 wc.2
  have In' := in_neg Is
  have i1 : In (65536, 65536) (65536 * d) d 65536 := in_pt hd (by decide) (by decide) (by decide)
  have i0 : In (0, 0) (65536 * 0) d 65536 := in_eq (in_pt (t := 0) hd (by decide) (by decide) (by decide)) (by simp) rfl
  rw [← Int.mul_neg] at In'
  refine ⟨axE k c s d, d, hd, rot_ax hc, ?_⟩
  have : k = 0 ∨ k = 1 ∨ k = 2 := by omega
  unfold turnM
  rw [hv]
  rcases this with rfl | rfl | rfl
  · exact ⟨⟨i1, i0, i0⟩, ⟨i0, Ic, In'⟩, ⟨i0, Is, Ic⟩⟩
  · exact ⟨⟨Ic, i0, Is⟩, ⟨i0, i1, i0⟩, ⟨In', i0, Ic⟩⟩
  · exact ⟨⟨Ic, In', i0⟩, ⟨Is, Ic, i0⟩, ⟨i0, i0, i1⟩⟩

/- LENGTHS -/

def sqI (x : Int × Int) : Int × Int := bif vld x then
  (lim ((bif decide (x.1 ≤ 0) && decide (0 ≤ x.2) then 0 else min (x.1 * x.1) (x.2 * x.2)) / 65536), lim (-(-(max (x.1 * x.1) (x.2 * x.2)) / 65536))) else (0, 0)

theorem sqR (x : Int × Int) : armplanref1_Square x = sqI x := by
  unfold armplanref1_Square t_armplanref1_Square sqI
  simp only [Tr.val, valR]
  cases hv : vld x with
  | false => rfl
  | true =>
    have b := vld_bd hv
    have p := mul_bd2 (x := x.1) (y := x.1) (by omega) (by omega) (by omega) (by omega)
    have q := mul_bd2 (x := x.2) (y := x.2) (by omega) (by omega) (by omega) (by omega)
    generalize x.1 * x.1 = s at *
    generalize x.2 * x.2 = t at *
    have e1 : (if t > s then t else s) = max s t := by split <;> omega
    have e2 : (if t < s then t else s) = min s t := by split <;> omega
    simp only [wrap64 (x := s) (by omega) (by omega), wrap64 (x := t) (by omega) (by omega), e1, e2, Bool.not_true, cond_false, cond_true]
    rw [Floor_eq (a := 0) (by omega) (by omega) (by omega), Floor_eq (a := min s t) (by omega) (by omega) (by omega), Ceil_eq (by omega) (by omega) (by omega), limitR_eq, limitR_eq]
    cases decide (x.1 ≤ 0) <;> cases decide (0 ≤ x.2) <;> rfl

theorem in_sq {x : Int × Int} {n d A C : Int} (hx : In x n d A) (hA : 0 ≤ A) (hC : A * A ≤ 65536 * C) (hC2 : C ≤ 2147483648) : In (sqI x) (n * n) (65536 * (d * d)) C := by
  obtain ⟨v1, hd, h1, h2, h3, h4⟩ := hx
  have hde : 0 < d * d := Int.mul_pos hd hd
  have up : ∀ p q : Int, p ≤ q → p * (d * d) ≤ q * (d * d) := fun p q h => Int.mul_le_mul_of_nonneg_right h (by omega)
  have s3 : ∀ p : Int, p * d * (p * d) = p * p * (d * d) := by intro p; grind
  have ha := mul_bd (x := n) (y := n) (A := A * d) (B := A * d) h3 h4 h3 h4
  rw [s3] at ha
  have hc := up _ _ hC
  have hn := sq_nn n
  have lo : (bif decide (x.1 ≤ 0) && decide (0 ≤ x.2) then 0 else min (x.1 * x.1) (x.2 * x.2)) * (d * d) ≤ n * n := by
    by_cases c1 : x.1 ≤ 0
    · by_cases c2 : 0 ≤ x.2
      · simp only [decide_eq_true c1, decide_eq_true c2, Bool.and_self, cond_true, Int.zero_mul]; exact hn
      · have := up (min (x.1 * x.1) (x.2 * x.2)) (x.2 * x.2) (by omega)
        have g : x.2 * d ≤ 0 := Int.mul_nonpos_of_nonpos_of_nonneg (by omega) (by omega)
        have k := Int.mul_le_mul (a := -(x.2 * d)) (b := -(x.2 * d)) (c := -n) (d := -n) (by omega) (by omega) (by omega) (by omega)
        rw [Int.neg_mul_neg, Int.neg_mul_neg, s3] at k
        simp only [decide_eq_false c2, Bool.and_false, cond_false]; omega
    · have := up (min (x.1 * x.1) (x.2 * x.2)) (x.1 * x.1) (by omega)
      have g : 0 ≤ x.1 * d := Int.mul_nonneg (by omega) (by omega)
      have k := Int.mul_le_mul (a := x.1 * d) (b := x.1 * d) (c := n) (d := n) (by omega) (by omega) (by omega) (by omega)
      rw [s3] at k
      simp only [decide_eq_false c1, Bool.false_and, cond_false]; omega
  have hi : n * n ≤ max (x.1 * x.1) (x.2 * x.2) * (d * d) := by
    rcases Int.le_total 0 n with c | c
    · have := up (x.2 * x.2) (max (x.1 * x.1) (x.2 * x.2)) (by omega)
      have k := Int.mul_le_mul (a := n) (b := n) (c := x.2 * d) (d := x.2 * d) h2 h2 c (by omega)
      rw [s3] at k; omega
    · have := up (x.1 * x.1) (max (x.1 * x.1) (x.2 * x.2)) (by omega)
      have k := Int.mul_le_mul (a := -n) (b := -n) (c := -(x.1 * d)) (d := -(x.1 * d)) (by omega) (by omega) (by omega) (by omega)
      rw [Int.neg_mul_neg, Int.neg_mul_neg, s3] at k; omega
  unfold sqI
  rw [v1]
  simp only [cond_true]
  generalize (bif decide (x.1 ≤ 0) && decide (0 ≤ x.2) then 0 else min (x.1 * x.1) (x.2 * x.2)) = l at *
  generalize max (x.1 * x.1) (x.2 * x.2) = u at *
  generalize n * n = z at *
  have f1 := up (l / 65536 * 65536) l (by omega)
  have f2 := up u (-(-u / 65536) * 65536) (by omega)
  refine in_lim (by omega) ?_ ?_ hC2 ?_ ?_
  · rw [← Int.mul_assoc]; omega
  · rw [← Int.mul_assoc]; omega
  · rw [← Int.mul_assoc, Int.mul_comm C]; omega
  · rw [← Int.mul_assoc, Int.mul_comm C]; omega

def sqV (v : V3) : Int × Int := addI (addI (sqI v.1) (sqI v.2.1)) (sqI v.2.2)
theorem in_sqV {v : V3} {e : E3} {d A C : Int} (h : inV v e d A) (hA : 0 ≤ A) (hC : A * A ≤ 65536 * C) (hC2 : C + C + C ≤ 2147483648) (hC0 : 0 ≤ C) : In (sqV v) (dotE e e) (65536 * (d * d)) (C + C + C) :=
  in_add (in_add (in_sq h.1 hA hC (by omega)) (in_sq h.2.1 hA hC (by omega)) (by omega)) (in_sq h.2.2 hA hC (by omega)) hC2

/-- Two intervals with a common number. -/
theorem in_meet {x y : Int × Int} {n d A B : Int} (hx : In x n d A) (hy : In y n d B) : (armplanref1_Meet x y).2 = true := by
  obtain ⟨v1, hd, h1, h2, _⟩ := hx
  obtain ⟨v2, _, k1, k2, _⟩ := hy
  have b1 := vld_bd v1
  have b2 := vld_bd v2
  have g1 : x.1 ≤ y.2 := Int.le_of_mul_le_mul_right (Int.le_trans h1 k2) hd
  have g2 : y.1 ≤ x.2 := Int.le_of_mul_le_mul_right (Int.le_trans k1 h2) hd
  unfold armplanref1_Meet t_armplanref1_Meet
  have e1 : (if y.1 > x.1 then y.1 else x.1) = max x.1 y.1 := by split <;> omega
  have e2 : (if y.2 < x.2 then y.2 else x.2) = min x.2 y.2 := by split <;> omega
  simp only [Tr.val, valR, v1, v2, Bool.not_true, cond_false, e1, e2]
  rw [decide_eq_false (by omega)]; rfl

end Go.RX

/-
  Laws of the poses: what is composed and applied; motions out of a source.
-/
namespace Go.RX
open Go

abbrev P4 := M3 × V3
def compP (p q : P4) : P4 := (compM p.1 q.1, addV p.2 (applyM p.1 q.2))
def apP (p : P4) (v : V3) : V3 := addV p.2 (applyM p.1 v)
def wtnP (p q : P4) : Bool := wtnM p.1 q.1 && wtnV p.2 q.2
def zeroV : V3 := ((0, 0), ((0, 0), (0, 0)))

theorem compPF (p q : P4) : pose_Compose p q = compP p q := by
  unfold pose_Compose t_pose_Compose compP
  simp only [Tr.val, compF, applyF, addVF]
theorem compPR (p q : P4) : armplanref1_Compose p q = compP p q := by
  unfold armplanref1_Compose t_armplanref1_Compose compP
  simp only [Tr.val, compR, applyR, addVR]
theorem apPF (p : P4) (v : V3) : pose_Apply p v = apP p v := by
  unfold pose_Apply t_pose_Apply apP
  simp only [Tr.val, applyF, addVF]
theorem apPR (p : P4) (v : V3) : armplanref1_Apply p v = apP p v := by
  unfold armplanref1_Apply t_armplanref1_Apply apP
  simp only [Tr.val, applyR, addVR]
theorem wtnPR (p q : P4) : armplanref1_WithinPose p q = wtnP p q := by
  unfold armplanref1_WithinPose t_armplanref1_WithinPose wtnP
  simp only [Tr.val, withinMR, withinVR]
  cases wtnM p.1 q.1 <;> rfl
theorem shiftF (v : V3) : pose_Shift v = (unitM, v) := by
  unfold pose_Shift t_pose_Shift
  simp only [Tr.val, unitF]
theorem shiftR (v : V3) : armplanref1_Shift v = (unitM, v) := by
  unfold armplanref1_Shift t_armplanref1_Shift
  simp only [Tr.val, unitR]
theorem turnPF (k : Int) (a : Int × Int) : pose_Turn k a = (turnM k a, zeroV) := by
  unfold pose_Turn t_pose_Turn
  simp only [Tr.val, turnF]; rfl
theorem turnPR (k : Int) (a : Int × Int) : armplanref1_TurnPose k a = (turnM k a, zeroV) := by
  unfold armplanref1_TurnPose t_armplanref1_TurnPose
  simp only [Tr.val, Go.RX.turnR]; rfl
theorem restF : pose_Identity = (unitM, zeroV) := by
  unfold pose_Identity t_pose_Identity
  simp only [Tr.val, unitF]; rfl
theorem restR : armplanref1_Rest = (unitM, zeroV) := by
  unfold armplanref1_Rest t_armplanref1_Rest
  simp only [Tr.val, unitR]; rfl
theorem vld_add (x y : Int × Int) : vld (addI x y) = true := by
  unfold addI
  cases hx : vld x with
  | false => rfl
  | true =>
    cases hy : vld y with
    | false => rfl
    | true =>
      have b := vld_bd hx
      have c := vld_bd hy
      have l1 := lim_bd (x.1 + y.1)
      have l2 := lim_bd (x.2 + y.2)
      exact vld_mk l1.1 (lim_mono (by omega)) l2.2
def smI (x : Int × Int) : Prop := -65536 ≤ x.1 ∧ x.1 ≤ x.2 ∧ x.2 ≤ 65536
def smV (v : V3) : Prop := smI v.1 ∧ smI v.2.1 ∧ smI v.2.2
def smM (m : M3) : Prop := smV m.1 ∧ smV m.2.1 ∧ smV m.2.2
def vV (v : V3) : Prop := vld v.1 = true ∧ vld v.2.1 = true ∧ vld v.2.2 = true
def vM (m : M3) : Prop := vV m.1 ∧ vV m.2.1 ∧ vV m.2.2

theorem sm_vld {x : Int × Int} (h : smI x) : vld x = true := vld_mk (by have := h.1; omega) h.2.1 (by have := h.2.2; omega)
theorem sm_vV {v : V3} (h : smV v) : vV v := ⟨sm_vld h.1, sm_vld h.2.1, sm_vld h.2.2⟩
theorem sm_vM {m : M3} (h : smM m) : vM m := ⟨sm_vV h.1, sm_vV h.2.1, sm_vV h.2.2⟩
theorem sm_cl {x : Int × Int} (h : vld x = true) : smI (cl x) := by
  have := vld_bd h
  unfold cl cl1 smI
  exact ⟨by dsimp only; omega, by dsimp only; omega, by dsimp only; omega⟩
theorem vld_dot (x y : V3) : vld (dotI x y) = true := vld_add _ _
theorem sm_comp (a b : M3) : smM (compM a b) := ⟨⟨sm_cl (vld_dot _ _), sm_cl (vld_dot _ _), sm_cl (vld_dot _ _)⟩, ⟨sm_cl (vld_dot _ _), sm_cl (vld_dot _ _), sm_cl (vld_dot _ _)⟩, ⟨sm_cl (vld_dot _ _), sm_cl (vld_dot _ _), sm_cl (vld_dot _ _)⟩⟩
theorem sm_0 : smI (0, 0) := ⟨by decide, by decide, by decide⟩
theorem sm_1 : smI (65536, 65536) := ⟨by decide, by decide, by decide⟩
theorem sm_nega {x : Int × Int} (h : smI x) : smI (nega x) := by
  have v := sm_vld h
  obtain ⟨h1, h2, h3⟩ := h
  unfold nega
  rw [v]
  exact ⟨by dsimp only [cond_true]; omega, by dsimp only [cond_true]; omega, by dsimp only [cond_true]; omega⟩
theorem sm_turn (k : Int) (a : Int × Int) : smM (turnM k a) := by
  have c : smI (ov 16384 a) := ov_bd 16384 a
  have s : smI (ov 0 a) := ov_bd 0 a
  have n := sm_nega s
  have z := sm_0
  have o := sm_1
  unfold turnM
  cases vld a with
  | false => exact ⟨⟨z, z, z⟩, ⟨z, z, z⟩, ⟨z, z, z⟩⟩
  | true =>
    simp only [cond_true]
    split
    · exact ⟨⟨o, z, z⟩, ⟨z, c, n⟩, ⟨z, s, c⟩⟩
    split
    · exact ⟨⟨c, z, s⟩, ⟨z, o, z⟩, ⟨n, z, c⟩⟩
    split
    · exact ⟨⟨c, n, z⟩, ⟨s, c, z⟩, ⟨z, z, o⟩⟩
    · exact ⟨⟨z, z, z⟩, ⟨z, z, z⟩, ⟨z, z, z⟩⟩
theorem sm_unit : smM unitM := ⟨⟨sm_1, sm_0, sm_0⟩, ⟨sm_0, sm_1, sm_0⟩, ⟨sm_0, sm_0, sm_1⟩⟩

/- MOTIONS -/

def ptV (t : E3) : V3 := ((t.1, t.1), ((t.2.1, t.2.1), (t.2.2, t.2.2)))
def bdE (t : E3) (B : Int) : Prop := (-B ≤ t.1 ∧ t.1 ≤ B) ∧ (-B ≤ t.2.1 ∧ t.2.1 ≤ B) ∧ (-B ≤ t.2.2 ∧ t.2.2 ≤ B)
theorem pt_point {t : E3} {B : Int} (h : bdE t B) (hB : B ≤ 2147483648) : pointV t = ptV t := by
  obtain ⟨⟨a, b⟩, ⟨c, d⟩, ⟨e, f⟩⟩ := h
  unfold pointV ptV
  rw [lim_in (by omega) (by omega), lim_in (by omega) (by omega), lim_in (by omega) (by omega)]

theorem rt_unit : Rt unitM ((1, (0, 0)), ((0, (1, 0)), (0, (0, 1)))) 1 := by
  have i1 : In (65536, 65536) (65536 * 1) 1 65536 := in_pt (by decide) (by decide) (by decide) (by decide)
  have i0 : In (0, 0) (65536 * 0) 1 65536 := in_eq (in_pt (t := 0) (d := 1) (by decide) (by decide) (by decide) (by decide)) (by simp) rfl
  exact ⟨by decide, ⟨⟨by decide, by decide, by decide, by decide, by decide, by decide⟩, ⟨by decide, by decide, by decide, by decide, by decide, by decide⟩⟩, ⟨⟨i1, i0, i0⟩, ⟨i0, i1, i0⟩, ⟨i0, i0, i1⟩⟩⟩

end Go.RX

/-
  Laws of the poses: chains, parts, inverses.
-/
namespace Go.RX
open Go

/- EXACT VECTORS -/

def addE (x y : E3) : E3 := (x.1 + y.1, (x.2.1 + y.2.1, x.2.2 + y.2.2))

theorem in_up {x : Int × Int} {n d A k : Int} (hk : 0 < k) (h : In x n d A) : In x (k * n) (k * d) A := by
  obtain ⟨v, hd, h1, h2, h3, h4⟩ := h
  have c : ∀ a : Int, a * (k * d) = k * (a * d) := by intro a; grind
  have m : ∀ {a b : Int}, a ≤ b → k * a ≤ k * b := fun h => Int.mul_le_mul_of_nonneg_left h (Int.le_of_lt hk)
  exact ⟨v, Int.mul_pos hk hd, by rw [c]; exact m h1, by rw [c]; exact m h2, by rw [c, ← Int.mul_neg]; exact m h3, by rw [c]; exact m h4⟩
theorem inV_up {v : V3} {e : E3} {d A k : Int} (hk : 0 < k) (h : inV v e d A) : inV v (sc k e) (k * d) A := ⟨in_up hk h.1, in_up hk h.2.1, in_up hk h.2.2⟩
theorem inV_eq {v : V3} {e f : E3} {d d' A : Int} (h : inV v e d A) (he : e = f) (hd : d = d') : inV v f d' A := by rw [← he, ← hd]; exact h
theorem inV_add {u v : V3} {e f : E3} {d A B : Int} (hu : inV u e d A) (hv : inV v f d B) (hAB : A + B ≤ 2147483648) : inV (addV u v) (addE e f) d (A + B) :=
  ⟨in_add hu.1 hv.1 hAB, in_add hu.2.1 hv.2.1 hAB, in_add hu.2.2 hv.2.2 hAB⟩
theorem inV_pt {t : E3} {B d : Int} (h : bdE t B) (hB : B ≤ 2147483648) (hd : 0 < d) : inV (ptV t) (sc d t) d B :=
  ⟨in_eq (in_pt hd hB h.1.1 h.1.2) (Int.mul_comm _ _) rfl, in_eq (in_pt hd hB h.2.1.1 h.2.1.2) (Int.mul_comm _ _) rfl, in_eq (in_pt hd hB h.2.2.1 h.2.2.2) (Int.mul_comm _ _) rfl⟩

/-- A rotation applied to what lies in a vector. -/
theorem inV_ap {m : M3} {v : V3} {e : X3} {f : E3} {d d' B : Int} (hm : inM m (scM 65536 e) d 65536) (hv : inV v f d' B) (hB : 0 ≤ B) (hB2 : B + B + B ≤ 2147483648) : inV (applyM m v) (apE e f) (d * d') (B + B + B) := by
  have one : ∀ {x : V3} {g : E3}, inV x (sc 65536 g) d 65536 → In (dotI x v) (dotE g f) (d * d') (B + B + B) := by
    intro x g hx
    have h := in_dot hx hv (C := B) (by decide) hB (Int.le_refl _) hB2 hB
    refine in_scale (k := 65536) (by decide) (in_eq h ?_ rfl)
    unfold dotE sc; grind
  exact ⟨one hm.1, one hm.2.1, one hm.2.2⟩

theorem wtnP_iff {p q : P4} : wtnP p q = true ↔ wtnM p.1 q.1 = true ∧ wtnV p.2 q.2 = true := by unfold wtnP; simp only [Bool.and_eq_true]
theorem compP_mono {p p' q q' : P4} (hp : wtnP p p' = true) (hq : wtnP q q' = true) : wtnP (compP p q) (compP p' q') = true := by
  obtain ⟨a, b⟩ := wtnP_iff.1 hp
  obtain ⟨c, d⟩ := wtnP_iff.1 hq
  exact wtnP_iff.2 ⟨comp_mono a c, addV_mono b (apply_mono a d)⟩
theorem apP_mono {p q : P4} {u v : V3} (h : wtnP p q = true) (hv : wtnV u v = true) : wtnV (apP p u) (apP q v) = true := by
  obtain ⟨a, b⟩ := wtnP_iff.1 h
  exact addV_mono b (apply_mono a hv)
end Go.RX

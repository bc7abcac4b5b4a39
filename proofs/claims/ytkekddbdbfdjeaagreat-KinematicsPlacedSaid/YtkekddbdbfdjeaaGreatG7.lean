/-
  Approximate rotations in whole numbers: the sum of two angles. Nothing of the program stands here but the sine of the first quarter.
-/
import Derived.Test.YtkekddbdbfdjeaaGreatG6
import Derived.Test.YtkekddbdbfdjeaaGreatPu
import Derived.Test.YtkekddbdbfdjeaaGreatG3
import Derived.Test.YtkekddbdbfdjeaaGreatNr
namespace Go.RX
open Go

end Go.RX

/-
  The sines of sums: law of the addition.
-/
namespace Go.RX
open Go

end Go.RX

/-
  The program's intervals, vectors and matrices are the reference's.
-/
namespace Go.RX
open Go

def lim (x : Int) : Int := max (-2147483648) (min x 2147483648)

theorem clampF_eq (x : Int) : fixed_Clamp x = lim x := by
  unfold fixed_Clamp t_fixed_Clamp lim
  simp only [Tr.val]
  by_cases h1 : -2147483648 > x <;> by_cases h2 : 2147483648 < x <;> simp only [h1, h2, if_true, if_false] <;> (repeat' split) <;> omega

theorem clampR_eq (x : Int) : armplanref1_Clamp x = lim x := by
  unfold armplanref1_Clamp t_armplanref1_Clamp lim
  simp only [Tr.val]
  by_cases h2 : 2147483648 < x <;> simp only [h2, if_true, if_false] <;> (repeat' split) <;> omega

theorem limitF_eq (x y : Int) : interval_limit x y = (lim x, lim y) := by
  unfold interval_limit t_interval_limit
  simp only [Tr.val, clampF_eq]
theorem limitR_eq (x y : Int) : armplanref1_limited x y = (lim x, lim y) := by
  unfold armplanref1_limited t_armplanref1_limited
  simp only [Tr.val, clampR_eq]

theorem ofF_eq (x : Int) : interval_Of x = (lim x, lim x) := by
  unfold interval_Of t_interval_Of
  simp only [Tr.val, limitF_eq]
theorem ofR_eq (x : Int) : armplanref1_Of x = (lim x, lim x) := by
  unfold armplanref1_Of t_armplanref1_Of
  simp only [Tr.val, clampR_eq]

theorem valF (x : Int × Int) : interval_Valid x = vld x := valid_eq
theorem valR (x : Int × Int) : armplanref1_Valid x = vld x := Valid_eq
theorem both_eq (x y : Int × Int) : interval_both x y = (vld x && vld y) := by
  unfold interval_both t_interval_both
  simp only [Tr.val, valF]
  cases vld x <;> rfl

/- What the operations come to. -/
def nega (x : Int × Int) : Int × Int := bif vld x then (-x.2, -x.1) else (0, 0)
def addI (x y : Int × Int) : Int × Int := bif vld x && vld y then (lim (x.1 + y.1), lim (x.2 + y.2)) else (0, 0)
def mn4 (p q r s : Int) : Int := min (min p q) (min r s)
def mx4 (p q r s : Int) : Int := max (max p q) (max r s)
def mulI (x y : Int × Int) : Int × Int := bif vld x && vld y then
  (lim (mn4 (x.1 * y.1) (x.1 * y.2) (x.2 * y.1) (x.2 * y.2) / 65536), lim (-(-(mx4 (x.1 * y.1) (x.1 * y.2) (x.2 * y.1) (x.2 * y.2)) / 65536))) else (0, 0)

theorem vld_bd {x : Int × Int} (h : vld x = true) : -2147483648 ≤ x.1 ∧ x.1 ≤ x.2 ∧ x.2 ≤ 2147483648 := by simpa [vld] using h

theorem negF (x : Int × Int) : interval_Neg x = nega x := by
  cases h : vld x with
  | true => rw [neg_eq (vld_bd h)]; unfold nega ngI; rw [h]; rfl
  | false => unfold interval_Neg t_interval_Neg nega; simp only [Tr.val, valF, h]; rfl
theorem negR (x : Int × Int) : armplanref1_Neg x = nega x := by
  cases h : vld x with
  | true => rw [Neg_eq (vld_bd h)]; unfold nega ngI; rw [h]; rfl
  | false => unfold armplanref1_Neg t_armplanref1_Neg nega; simp only [Tr.val, valR, h]; rfl

theorem addF (x y : Int × Int) : interval_Add x y = addI x y := by
  unfold interval_Add t_interval_Add addI
  simp only [Tr.val, both_eq]
  cases hx : vld x with
  | false => rfl
  | true =>
    cases hy : vld y with
    | false => rfl
    | true =>
      have b1 := vld_bd hx
      have b2 := vld_bd hy
      simp only [Bool.and_true, Bool.not_true, cond_false, cond_true]
      rw [wrap64 (by omega) (by omega), wrap64 (by omega) (by omega), limitF_eq]
theorem addR (x y : Int × Int) : armplanref1_Add x y = addI x y := by
  unfold armplanref1_Add t_armplanref1_Add addI
  simp only [Tr.val, valR]
  cases hx : vld x with
  | false => rfl
  | true =>
    cases hy : vld y with
    | false => rfl
    | true =>
      have b1 := vld_bd hx
      have b2 := vld_bd hy
      simp only [Bool.and_true, Bool.not_true, cond_false, cond_true]
      rw [wrap64 (by omega) (by omega), wrap64 (by omega) (by omega), limitR_eq]

theorem shr16 (x : Int) : shrI .i64 x 16 = x / 65536 := by
  unfold shrI
  have : (2 : Int) ^ (Nat.min (16 : Int).toNat IntKind.i64.bits) = 65536 := by decide +kernel
  rw [this]
  exact Int.fdiv_eq_ediv_of_nonneg _ (by omega)

theorem down16 (x : Int) : fixed_ShiftDown x 16 = x / 65536 := by
  unfold fixed_ShiftDown t_fixed_ShiftDown
  show shrI .i64 x 16 = _
  exact shr16 x

theorem up16 {x : Int} (h1 : -4611686018427387904 ≤ x) (h2 : x ≤ 4611686018427387904) : fixed_ShiftUp x 16 = -(-x / 65536) := by
  unfold fixed_ShiftUp t_fixed_ShiftUp
  have hs : shlI .i64 (fixed_ShiftDown x 16) 16 = x / 65536 * 65536 := by
    unfold shlI
    have : (2 : Int) ^ (Nat.min (16 : Int).toNat IntKind.i64.bits) = 65536 := by decide +kernel
    rw [down16, this]
    rw [wrap64 (by omega) (by omega)]
  have hd : dom_fixed_ShiftDown x 16 = true := rfl
  simp only [Tr.val, hd, cond_true, hs]
  rw [down16]
  show (bif !decide (x / 65536 * 65536 = x) then IntKind.wrap .i64 (x / 65536 + 1) else x / 65536) = _
  by_cases h : x / 65536 * 65536 = x
  · rw [decide_eq_true h]; simp only [Bool.not_true, cond_false]; omega
  · rw [decide_eq_false h]; simp only [Bool.not_false, cond_true]
    rw [wrap64 (by omega) (by omega)]; omega

theorem mul_bd2 {x y : Int} (h1 : -2147483648 ≤ x) (h2 : x ≤ 2147483648) (k1 : -2147483648 ≤ y) (k2 : y ≤ 2147483648) : -4611686018427387904 ≤ x * y ∧ x * y ≤ 4611686018427387904 := by
  have a1 := Int.mul_nonneg (a := 2147483648 - x) (b := 2147483648 - y) (by omega) (by omega)
  have a2 := Int.mul_nonneg (a := 2147483648 + x) (b := 2147483648 + y) (by omega) (by omega)
  have a3 := Int.mul_nonneg (a := 2147483648 - x) (b := 2147483648 + y) (by omega) (by omega)
  have a4 := Int.mul_nonneg (a := 2147483648 + x) (b := 2147483648 - y) (by omega) (by omega)
  rw [Int.sub_mul, Int.mul_sub, Int.mul_sub] at a1
  rw [Int.add_mul, Int.mul_add, Int.mul_add] at a2
  rw [Int.sub_mul, Int.mul_add, Int.mul_add] at a3
  rw [Int.add_mul, Int.mul_sub, Int.mul_sub] at a4
  omega

theorem prods {x y : Int × Int} (hx : vld x = true) (hy : vld y = true) : (-4611686018427387904 ≤ x.1 * y.1 ∧ x.1 * y.1 ≤ 4611686018427387904) ∧ (-4611686018427387904 ≤ x.1 * y.2 ∧ x.1 * y.2 ≤ 4611686018427387904) ∧
    (-4611686018427387904 ≤ x.2 * y.1 ∧ x.2 * y.1 ≤ 4611686018427387904) ∧ (-4611686018427387904 ≤ x.2 * y.2 ∧ x.2 * y.2 ≤ 4611686018427387904) := by
  have b1 := vld_bd hx
  have b2 := vld_bd hy
  exact ⟨mul_bd2 (by omega) (by omega) (by omega) (by omega), mul_bd2 (by omega) (by omega) (by omega) (by omega), mul_bd2 (by omega) (by omega) (by omega) (by omega), mul_bd2 (by omega) (by omega) (by omega) (by omega)⟩

theorem mulF (x y : Int × Int) : interval_Mul x y = mulI x y := by
  unfold interval_Mul t_interval_Mul mulI
  simp only [Tr.val, both_eq]
  cases hx : vld x with
  | false => rfl
  | true =>
    cases hy : vld y with
    | false => rfl
    | true =>
      obtain ⟨b1, b2, b3, b4⟩ := prods hx hy
      simp only [Bool.and_true, Bool.not_true, cond_false, cond_true]
      generalize x.1 * y.1 = p at *
      generalize x.1 * y.2 = q at *
      generalize x.2 * y.1 = r at *
      generalize x.2 * y.2 = s at *
      rw [wrap64 (x := p) (by omega) (by omega), wrap64 (x := q) (by omega) (by omega), wrap64 (x := r) (by omega) (by omega), wrap64 (x := s) (by omega) (by omega)]
      have e1 : (if p < p then p else p) = p := by split <;> rfl
      have e2 : (if p > p then p else p) = p := by split <;> rfl
      rw [e1]
      have e3 : (if s < (if r < (if q < p then q else p) then r else (if q < p then q else p)) then s else (if r < (if q < p then q else p) then r else (if q < p then q else p))) = mn4 p q r s := by
        unfold mn4; (repeat' split) <;> omega
      have e4 : (if s > (if r > (if q > p then q else p) then r else (if q > p then q else p)) then s else (if r > (if q > p then q else p) then r else (if q > p then q else p))) = mx4 p q r s := by
        unfold mx4; (repeat' split) <;> omega
      rw [e3, e4]
      unfold interval_outward t_interval_outward
      have e5 : -4611686018427387904 ≤ mx4 p q r s ∧ mx4 p q r s ≤ 4611686018427387904 := by unfold mx4; omega
      simp only [Tr.val, down16, up16 e5.1 e5.2, limitF_eq]

theorem mulR (x y : Int × Int) : armplanref1_Mul x y = mulI x y := by
  unfold armplanref1_Mul t_armplanref1_Mul mulI
  simp only [Tr.val, valR]
  cases hx : vld x with
  | false => rfl
  | true =>
    cases hy : vld y with
    | false => rfl
    | true =>
      obtain ⟨b1, b2, b3, b4⟩ := prods hx hy
      simp only [Bool.and_true, Bool.not_true, cond_false, cond_true]
      generalize x.1 * y.1 = p at *
      generalize x.1 * y.2 = q at *
      generalize x.2 * y.1 = r at *
      generalize x.2 * y.2 = s at *
      rw [wrap64 (x := p) (by omega) (by omega), wrap64 (x := q) (by omega) (by omega), wrap64 (x := r) (by omega) (by omega), wrap64 (x := s) (by omega) (by omega)]
      have e3 : (if s < (if r < (if q < p then q else p) then r else (if q < p then q else p)) then s else (if r < (if q < p then q else p) then r else (if q < p then q else p))) = mn4 p q r s := by
        unfold mn4; (repeat' split) <;> omega
      have e4 : (if s > (if r > (if q > p then q else p) then r else (if q > p then q else p)) then s else (if r > (if q > p then q else p) then r else (if q > p then q else p))) = mx4 p q r s := by
        unfold mx4; (repeat' split) <;> omega
      rw [e3, e4]
      have e5 : -4611686018427387904 ≤ mx4 p q r s ∧ mx4 p q r s ≤ 4611686018427387904 := by unfold mx4; omega
      have e6 : -4611686018427387904 ≤ mn4 p q r s ∧ mn4 p q r s ≤ 4611686018427387904 := by unfold mn4; omega
      rw [Floor_eq (by omega) e6.1 e6.2, Ceil_eq (by omega) e5.1 e5.2, limitR_eq]

def wtn (x y : Int × Int) : Bool := vld x && vld y && decide (y.1 ≤ x.1 ∧ x.2 ≤ y.2)
theorem withinR (x y : Int × Int) : armplanref1_Within x y = wtn x y := by
  rw [Within_eq, valR, valR]; rfl

/- VECTORS AND MATRICES -/

abbrev V3 := (Int × Int) × ((Int × Int) × (Int × Int))
abbrev M3 := V3 × (V3 × V3)

/-- The rotation about an axis. -/
def turnM (k : Int) (a : Int × Int) : M3 :=
  bif vld a then
    (if k = 0 then (((65536, 65536), ((0, 0), (0, 0))), (((0, 0), (ov 16384 a, nega (ov 0 a))), ((0, 0), (ov 0 a, ov 16384 a))))
     else if k = 1 then ((ov 16384 a, ((0, 0), ov 0 a)), (((0, 0), ((65536, 65536), (0, 0))), (nega (ov 0 a), ((0, 0), ov 16384 a))))
     else if k = 2 then ((ov 16384 a, (nega (ov 0 a), (0, 0))), ((ov 0 a, (ov 16384 a, (0, 0))), ((0, 0), ((0, 0), (65536, 65536)))))
     else (((0, 0), ((0, 0), (0, 0))), (((0, 0), ((0, 0), (0, 0))), ((0, 0), ((0, 0), (0, 0))))))
  else (((0, 0), ((0, 0), (0, 0))), (((0, 0), ((0, 0), (0, 0))), ((0, 0), ((0, 0), (0, 0)))))

theorem one_eq : matrix_one = (65536, 65536) := by
  unfold matrix_one t_matrix_one
  simp only [Tr.val, ofF_eq]; rfl

theorem turnR (k : Int) (a : Int × Int) : armplanref1_Turn k a = turnM k a := by
  unfold armplanref1_Turn t_armplanref1_Turn turnM
  simp only [Tr.val, valR, ofR_eq, SinOver_eq, CosOver_eq, negR]
  cases vld a with
  | false => rfl
  | true =>
    simp only [Bool.not_true, cond_false, cond_true]
    by_cases h0 : k = 0
    · rw [if_pos h0, decide_eq_true h0]; rfl
    · rw [if_neg h0, decide_eq_false h0]
      by_cases h1 : k = 1
      · rw [if_pos h1, decide_eq_true h1]; rfl
      · rw [if_neg h1, decide_eq_false h1]
        by_cases h2 : k = 2
        · rw [if_pos h2, decide_eq_true h2]; rfl
        · rw [if_neg h2, decide_eq_false h2]; rfl

theorem turnF (k : Int) (a : Int × Int) : matrix_Turn k a = turnM k a := by
  unfold matrix_Turn turnM
  by_cases h0 : k = 0
  · subst h0
    simp only [if_true]
    unfold t_matrix_Turn_0
    simp only [Tr.val, valF, one_eq, sinOver_eq, cosOver_eq, negF]
    cases vld a <;> rfl
  · simp only [h0, if_false]
    by_cases h1 : k = 1
    · subst h1
      simp only [if_true]
      unfold t_matrix_Turn_1
      simp only [Tr.val, valF, one_eq, sinOver_eq, cosOver_eq, negF]
      cases vld a <;> rfl
    · simp only [h1, if_false]
      by_cases h2 : k = 2
      · subst h2
        simp only [if_true]
        unfold t_matrix_Turn_2
        simp only [Tr.val, valF, one_eq, sinOver_eq, cosOver_eq, negF]
        cases vld a <;> rfl
      · simp only [h2, if_false]
        unfold t_matrix_Turn_x
        by_cases h3 : k < 0
        · simp only [decide_eq_true h3, Tr.val, cond_true]; cases vld a <;> rfl
        · have h4 : 2 < k := by omega
          simp only [decide_eq_false h3, decide_eq_true h4, Tr.val, cond_true, cond_false]; cases vld a <;> rfl

end Go.RX

/-
  Laws of the matrices: what is applied and composed; the sources of numbers.
-/
namespace Go.RX
open Go

def dotI (x y : V3) : Int × Int := addI (addI (mulI x.1 y.1) (mulI x.2.1 y.2.1)) (mulI x.2.2 y.2.2)
def applyM (m : M3) (v : V3) : V3 := (dotI m.1 v, (dotI m.2.1 v, dotI m.2.2 v))
def trn (m : M3) : M3 := ((m.1.1, (m.2.1.1, m.2.2.1)), ((m.1.2.1, (m.2.1.2.1, m.2.2.2.1)), (m.1.2.2, (m.2.1.2.2, m.2.2.2.2))))
def cl1 (x : Int) : Int := max (-65536) (min x 65536)
def cl (x : Int × Int) : Int × Int := (cl1 x.1, cl1 x.2)
def rowM (x : V3) (t : M3) : V3 := (cl (dotI x t.1), (cl (dotI x t.2.1), cl (dotI x t.2.2)))
def compM (a b : M3) : M3 := (rowM a.1 (trn b), (rowM a.2.1 (trn b), rowM a.2.2 (trn b)))
def addV (u v : V3) : V3 := (addI u.1 v.1, (addI u.2.1 v.2.1, addI u.2.2 v.2.2))
def pointV (p : Int × (Int × Int)) : V3 := ((lim p.1, lim p.1), ((lim p.2.1, lim p.2.1), (lim p.2.2, lim p.2.2)))
def wtnV (u v : V3) : Bool := wtn u.1 v.1 && (wtn u.2.1 v.2.1 && wtn u.2.2 v.2.2)
def wtnM (a b : M3) : Bool := wtnV a.1 b.1 && (wtnV a.2.1 b.2.1 && wtnV a.2.2 b.2.2)
def unitM : M3 := (((65536, 65536), ((0, 0), (0, 0))), (((0, 0), ((65536, 65536), (0, 0))), ((0, 0), ((0, 0), (65536, 65536)))))

theorem sumF (x y : V3) : matrix_sum x y = dotI x y := by
  unfold matrix_sum t_matrix_sum dotI
  simp only [Tr.val, mulF, addF]
theorem applyF (m : M3) (v : V3) : matrix_Apply m v = applyM m v := by
  unfold matrix_Apply t_matrix_Apply applyM
  simp only [Tr.val, sumF]
theorem applyR (m : M3) (v : V3) : armplanref1_ApplyMat m v = applyM m v := by
  unfold armplanref1_ApplyMat t_armplanref1_ApplyMat applyM dotI
  simp only [Tr.val, mulR, addR]
theorem addVF (u v : V3) : matrix_Add u v = addV u v := by
  unfold matrix_Add t_matrix_Add addV
  simp only [Tr.val, addF]
theorem addVR (u v : V3) : armplanref1_AddVec u v = addV u v := by
  unfold armplanref1_AddVec t_armplanref1_AddVec addV
  simp only [Tr.val, addR]
theorem pointF (p : Int × (Int × Int)) : matrix_Point p = pointV p := by
  unfold matrix_Point t_matrix_Point pointV
  simp only [Tr.val, ofF_eq]
theorem pointR (p : Int × (Int × Int)) : armplanref1_Point p = pointV p := by
  unfold armplanref1_Point t_armplanref1_Point pointV
  simp only [Tr.val, ofR_eq]
theorem withinVR (u v : V3) : armplanref1_WithinVec u v = wtnV u v := by
  unfold armplanref1_WithinVec t_armplanref1_WithinVec wtnV
  simp only [Tr.val, withinR]
  cases wtn u.1 v.1 <;> cases wtn u.2.1 v.2.1 <;> cases wtn u.2.2 v.2.2 <;> rfl

theorem trnF (m : M3) : matrix_Transpose m = trn m := rfl
theorem limF (x : Int × Int) : matrix_limit x = cl x := by
  unfold matrix_limit t_matrix_limit cl
  simp only [Tr.val]
  refine Prod.ext ?_ ?_ <;> dsimp only <;> unfold cl1 <;> (repeat' split) <;> omega
theorem cl_if (x : Int) : (if (if 65536 < x then 65536 else x) > (-65536) then (if 65536 < x then 65536 else x) else (-65536)) = cl1 x := by
  unfold cl1; (repeat' split) <;> omega

theorem compF (a b : M3) : matrix_Compose a b = compM a b := by
  unfold matrix_Compose t_matrix_Compose compM rowM
  simp only [Tr.val, sumF, limF, trnF]
theorem compR (a b : M3) : armplanref1_ComposeMat a b = compM a b := by
  unfold armplanref1_ComposeMat t_armplanref1_ComposeMat compM rowM dotI trn cl
  simp only [Tr.val, mulR, addR, cl_if]
theorem unitF : matrix_Identity = unitM := by
  unfold matrix_Identity t_matrix_Identity unitM
  simp only [Tr.val, one_eq]
theorem unitR : armplanref1_Unit = unitM := by
  unfold armplanref1_Unit t_armplanref1_Unit unitM
  simp only [Tr.val, ofR_eq]; rfl
theorem withinMR (a b : M3) : armplanref1_WithinMat a b = wtnM a b := by
  unfold armplanref1_WithinMat t_armplanref1_WithinMat wtnM
  simp only [Tr.val, withinVR]
  cases wtnV a.1 b.1 <;> cases wtnV a.2.1 b.2.1 <;> cases wtnV a.2.2 b.2.2 <;> rfl

/- SOURCES -/

/-- A source in use. -/
def srcOk (s : List Int × Int) : Prop := 0 ≤ s.2 ∧ s.1.length ≤ maxLen

theorem src0 {l : List Int} (h : l.length ≤ maxLen) : srcOk (l, 0) := ⟨Int.le_refl _, h⟩

theorem next_ok {s : List Int × Int} (h : srcOk s) {k : Int} (hk : 0 < k) (hk2 : k ≤ 4611686018427387904) : dom_armplanmake_Source_Next s k = true ∧ srcOk (armplanmake_Source_Next s k).2 ∧ 0 ≤ (armplanmake_Source_Next s k).1 ∧ (armplanmake_Source_Next s k).1 < k := by
  obtain ⟨h1, h2⟩ := h
  unfold maxLen at h2
  obtain ⟨l, i⟩ := s
  dsimp only at h1 h2
  unfold dom_armplanmake_Source_Next armplanmake_Source_Next t_armplanmake_Source_Next
  by_cases he : (l.length : Int) ≤ i
  · simp only [decide_eq_true he, Tr.dom, Tr.ok, Tr.val, Bool.and_false, Bool.true_and, cond_false, cond_true]
    exact ⟨by first | trivial | rfl, ⟨h1, by unfold maxLen; exact h2⟩, Int.le_refl _, hk⟩
  · have hd := dom_round (n := List.getD l i.toNat (Ty.dflt (.int .i64))) (k := k) (by omega)
    obtain ⟨r1, r2⟩ := round_eq (n := List.getD l i.toNat (Ty.dflt (.int .i64))) (k := k) hk hk2
    have e1 : IntKind.wrap .i64 (i + 1) = i + 1 := wrap64 (by omega) (by omega)
    have e2 : IntKind.wrap .i64 (i + 1 - 1) = i := by rw [wrap64 (by omega) (by omega)]; omega
    simp only [decide_eq_false he, Tr.dom, Tr.ok, Tr.val, Bool.and_false, cond_false, e1, e2]
    rw [hd, decide_eq_true (show 0 ≤ i from h1), decide_eq_true (show i < ((l.length : Nat) : Int) by omega)]
    exact ⟨by first | trivial | rfl, ⟨show 0 ≤ i + 1 by omega, by unfold maxLen; exact h2⟩, r1, r2⟩

theorem signed_ok {s : List Int × Int} (h : srcOk s) {k : Int} (hk : 0 < k) (hk2 : k ≤ 1099511627776) : dom_armplanmake_Source_Signed s k = true ∧ srcOk (armplanmake_Source_Signed s k).2 ∧ -k ≤ (armplanmake_Source_Signed s k).1 ∧ (armplanmake_Source_Signed s k).1 ≤ k := by
  have e1 : IntKind.wrap .i64 (2 * k) = 2 * k := wrap64 (by omega) (by omega)
  have e2 : IntKind.wrap .i64 (2 * k + 1) = 2 * k + 1 := wrap64 (by omega) (by omega)
  obtain ⟨d, o, b1, b2⟩ := next_ok h (k := 2 * k + 1) (by omega) (by omega)
  unfold dom_armplanmake_Source_Signed armplanmake_Source_Signed t_armplanmake_Source_Signed
  simp only [e1, e2, d, Tr.dom, Tr.ok, Tr.val, Bool.and_false, cond_false, cond_true]
  rw [wrap64 (by omega) (by omega)]
  exact ⟨by first | trivial | rfl, o, by omega, by omega⟩

end Go.RX

/-
  Parts of arguments give parts of results: law of the monotone matrices.
-/
namespace Go.RX
open Go

theorem wtn_iff {x y : Int × Int} : wtn x y = true ↔ vld x = true ∧ vld y = true ∧ y.1 ≤ x.1 ∧ x.2 ≤ y.2 := by
  unfold wtn
  simp only [Bool.and_eq_true, decide_eq_true_eq]
  exact ⟨fun ⟨⟨a, b⟩, c⟩ => ⟨a, b, c⟩, fun ⟨a, b, c⟩ => ⟨⟨a, b⟩, c⟩⟩

theorem vld_mk {x : Int × Int} (h1 : -2147483648 ≤ x.1) (h2 : x.1 ≤ x.2) (h3 : x.2 ≤ 2147483648) : vld x = true := by simp only [vld, decide_eq_true_eq]; exact ⟨h1, h2, h3⟩

theorem lim_bd (x : Int) : -2147483648 ≤ lim x ∧ lim x ≤ 2147483648 := by unfold lim; omega
theorem lim_mono {x y : Int} (h : x ≤ y) : lim x ≤ lim y := by unfold lim; omega

theorem wtn_lim {a b c d : Int} (h1 : c ≤ a) (h2 : a ≤ b) (h3 : b ≤ d) : wtn (lim a, lim b) (lim c, lim d) = true := by
  have := lim_bd a
  have := lim_bd b
  have := lim_bd c
  have := lim_bd d
  have := lim_mono h1
  have := lim_mono h2
  have := lim_mono h3
  exact wtn_iff.2 ⟨vld_mk (by omega) (by dsimp only; omega) (by omega), vld_mk (by omega) (by dsimp only; omega) (by omega), by dsimp only; omega, by dsimp only; omega⟩

theorem add_mono {x x' y y' : Int × Int} (hx : wtn x x' = true) (hy : wtn y y' = true) : wtn (addI x y) (addI x' y') = true := by
  obtain ⟨v1, v2, a1, a2⟩ := wtn_iff.1 hx
  obtain ⟨w1, w2, b1, b2⟩ := wtn_iff.1 hy
  have c1 := vld_bd v1
  have c2 := vld_bd w1
  unfold addI
  rw [v1, v2, w1, w2]
  exact wtn_lim (by omega) (by omega) (by omega)
theorem mul_box {x y p q r t lo hi : Int} (h1 : p ≤ x) (h2 : x ≤ q) (h3 : r ≤ y) (h4 : y ≤ t)
    (l1 : lo ≤ p * r) (l2 : lo ≤ p * t) (l3 : lo ≤ q * r) (l4 : lo ≤ q * t) (u1 : p * r ≤ hi) (u2 : p * t ≤ hi) (u3 : q * r ≤ hi) (u4 : q * t ≤ hi) : lo ≤ x * y ∧ x * y ≤ hi := by
  have side : ∀ z : Int, (p * z ≤ x * z ∧ x * z ≤ q * z) ∨ (q * z ≤ x * z ∧ x * z ≤ p * z) := by
    intro z
    rcases Int.le_total 0 z with hz | hz
    · exact .inl ⟨Int.mul_le_mul_of_nonneg_right h1 hz, Int.mul_le_mul_of_nonneg_right h2 hz⟩
    · exact .inr ⟨Int.mul_le_mul_of_nonpos_right h2 hz, Int.mul_le_mul_of_nonpos_right h1 hz⟩
  have sr := side r
  have su := side t
  rcases Int.le_total 0 x with hx | hx
  · have a := Int.mul_le_mul_of_nonneg_left h3 hx
    have b := Int.mul_le_mul_of_nonneg_left h4 hx
    omega
  · have a := Int.mul_le_mul_of_nonpos_left hx h3
    have b := Int.mul_le_mul_of_nonpos_left hx h4
    omega

/-- The corners of a box hold all its products. -/
theorem corners {x y : Int × Int} {u v : Int} (h1 : x.1 ≤ u) (h2 : u ≤ x.2) (h3 : y.1 ≤ v) (h4 : v ≤ y.2) :
    mn4 (x.1 * y.1) (x.1 * y.2) (x.2 * y.1) (x.2 * y.2) ≤ u * v ∧ u * v ≤ mx4 (x.1 * y.1) (x.1 * y.2) (x.2 * y.1) (x.2 * y.2) := by
  refine mul_box h1 h2 h3 h4 ?_ ?_ ?_ ?_ ?_ ?_ ?_ ?_ <;> first | (unfold mn4; omega) | (unfold mx4; omega)

theorem mul_mono {x x' y y' : Int × Int} (hx : wtn x x' = true) (hy : wtn y y' = true) : wtn (mulI x y) (mulI x' y') = true := by
  obtain ⟨v1, v2, a1, a2⟩ := wtn_iff.1 hx
  obtain ⟨w1, w2, b1, b2⟩ := wtn_iff.1 hy
  have c1 := vld_bd v1
  have c2 := vld_bd w1
  have k1 := corners (x := x') (y := y') (u := x.1) (v := y.1) (by omega) (by omega) (by omega) (by omega)
  have k2 := corners (x := x') (y := y') (u := x.1) (v := y.2) (by omega) (by omega) (by omega) (by omega)
  have k3 := corners (x := x') (y := y') (u := x.2) (v := y.1) (by omega) (by omega) (by omega) (by omega)
  have k4 := corners (x := x') (y := y') (u := x.2) (v := y.2) (by omega) (by omega) (by omega) (by omega)
  unfold mulI
  rw [v1, v2, w1, w2]
  simp only [Bool.and_true, cond_true]
  generalize mn4 (x'.1 * y'.1) (x'.1 * y'.2) (x'.2 * y'.1) (x'.2 * y'.2) = lo at *
  generalize mx4 (x'.1 * y'.1) (x'.1 * y'.2) (x'.2 * y'.1) (x'.2 * y'.2) = hi at *
  generalize x.1 * y.1 = p at *
  generalize x.1 * y.2 = q at *
  generalize x.2 * y.1 = r at *
  generalize x.2 * y.2 = s at *
  refine wtn_lim ?_ ?_ ?_ <;> (try unfold mn4) <;> (try unfold mx4) <;> omega

theorem cl_mono {x y : Int × Int} (h : wtn x y = true) : wtn (cl x) (cl y) = true := by
  obtain ⟨v1, v2, a1, a2⟩ := wtn_iff.1 h
  have c1 := vld_bd v1
  unfold cl cl1
  exact wtn_iff.2 ⟨vld_mk (by dsimp only; omega) (by dsimp only; omega) (by dsimp only; omega), vld_mk (by dsimp only; omega) (by dsimp only; omega) (by dsimp only; omega), by dsimp only; omega, by dsimp only; omega⟩

theorem neg_mono {x y : Int × Int} (h : wtn x y = true) : wtn (nega x) (nega y) = true := by
  obtain ⟨v1, v2, a1, a2⟩ := wtn_iff.1 h
  have c1 := vld_bd v1
  have c2 := vld_bd v2
  unfold nega
  rw [v1, v2]
  exact wtn_iff.2 ⟨vld_mk (by dsimp only [cond_true]; omega) (by dsimp only [cond_true]; omega) (by dsimp only [cond_true]; omega), vld_mk (by dsimp only [cond_true]; omega) (by dsimp only [cond_true]; omega) (by dsimp only [cond_true]; omega), by dsimp only [cond_true]; omega, by dsimp only [cond_true]; omega⟩

theorem wtnV_iff {u v : V3} : wtnV u v = true ↔ wtn u.1 v.1 = true ∧ wtn u.2.1 v.2.1 = true ∧ wtn u.2.2 v.2.2 = true := by
  unfold wtnV; simp only [Bool.and_eq_true]
theorem wtnM_iff {a b : M3} : wtnM a b = true ↔ wtnV a.1 b.1 = true ∧ wtnV a.2.1 b.2.1 = true ∧ wtnV a.2.2 b.2.2 = true := by
  unfold wtnM; simp only [Bool.and_eq_true]

theorem dot_mono {x x' y y' : V3} (hx : wtnV x x' = true) (hy : wtnV y y' = true) : wtn (dotI x y) (dotI x' y') = true := by
  obtain ⟨a1, a2, a3⟩ := wtnV_iff.1 hx
  obtain ⟨b1, b2, b3⟩ := wtnV_iff.1 hy
  exact add_mono (add_mono (mul_mono a1 b1) (mul_mono a2 b2)) (mul_mono a3 b3)
theorem apply_mono {m m' : M3} {v v' : V3} (hm : wtnM m m' = true) (hv : wtnV v v' = true) : wtnV (applyM m v) (applyM m' v') = true := by
  obtain ⟨a1, a2, a3⟩ := wtnM_iff.1 hm
  exact wtnV_iff.2 ⟨dot_mono a1 hv, dot_mono a2 hv, dot_mono a3 hv⟩
theorem trn_mono {m m' : M3} (hm : wtnM m m' = true) : wtnM (trn m) (trn m') = true := by
  obtain ⟨a1, a2, a3⟩ := wtnM_iff.1 hm
  obtain ⟨b1, b2, b3⟩ := wtnV_iff.1 a1
  obtain ⟨c1, c2, c3⟩ := wtnV_iff.1 a2
  obtain ⟨d1, d2, d3⟩ := wtnV_iff.1 a3
  exact wtnM_iff.2 ⟨wtnV_iff.2 ⟨b1, c1, d1⟩, wtnV_iff.2 ⟨b2, c2, d2⟩, wtnV_iff.2 ⟨b3, c3, d3⟩⟩
theorem row_mono {x x' : V3} {t t' : M3} (hx : wtnV x x' = true) (ht : wtnM t t' = true) : wtnV (rowM x t) (rowM x' t') = true := by
  obtain ⟨a1, a2, a3⟩ := wtnM_iff.1 ht
  exact wtnV_iff.2 ⟨cl_mono (dot_mono hx a1), cl_mono (dot_mono hx a2), cl_mono (dot_mono hx a3)⟩
theorem comp_mono {a a' b b' : M3} (ha : wtnM a a' = true) (hb : wtnM b b' = true) : wtnM (compM a b) (compM a' b') = true := by
  obtain ⟨a1, a2, a3⟩ := wtnM_iff.1 ha
  have ht := trn_mono hb
  exact wtnM_iff.2 ⟨row_mono a1 ht, row_mono a2 ht, row_mono a3 ht⟩
theorem addV_mono {u u' v v' : V3} (hu : wtnV u u' = true) (hv : wtnV v v' = true) : wtnV (addV u v) (addV u' v') = true := by
  obtain ⟨a1, a2, a3⟩ := wtnV_iff.1 hu
  obtain ⟨b1, b2, b3⟩ := wtnV_iff.1 hv
  exact wtnV_iff.2 ⟨add_mono a1 b1, add_mono a2 b2, add_mono a3 b3⟩
theorem wtn_refl {x : Int × Int} (h : vld x = true) : wtn x x = true := wtn_iff.2 ⟨h, h, Int.le_refl _, Int.le_refl _⟩
theorem wtn_zero : wtn (0, 0) (0, 0) = true := by decide
theorem wtn_one : wtn (65536, 65536) (65536, 65536) = true := by decide
theorem vld_ov (k : Int) (a : Int × Int) : vld (ov k a) = true := by
  have := ov_bd k a
  exact vld_mk (by omega) (by omega) (by omega)
theorem ov_mono {k : Int} {a b : Int × Int} (hb : wtn b a = true) : wtn (ov k b) (ov k a) = true := by
  obtain ⟨v1, v2, a1, a2⟩ := wtn_iff.1 hb
  obtain ⟨n1, n2⟩ := ov_nested (k := k) v2 v1 a1 a2
  exact wtn_iff.2 ⟨vld_ov _ _, vld_ov _ _, n1, n2⟩

theorem turn_mono {k : Int} {a b : Int × Int} (hb : wtn b a = true) : wtnM (turnM k b) (turnM k a) = true := by
  obtain ⟨v1, v2, _⟩ := wtn_iff.1 hb
  have c := ov_mono (k := 16384) hb
  have s := ov_mono (k := 0) hb
  have n := neg_mono s
  have z := wtn_zero
  have o := wtn_one
  unfold turnM
  rw [v1, v2]
  simp only [cond_true]
  split
  · exact wtnM_iff.2 ⟨wtnV_iff.2 ⟨o, z, z⟩, wtnV_iff.2 ⟨z, c, n⟩, wtnV_iff.2 ⟨z, s, c⟩⟩
  split
  · exact wtnM_iff.2 ⟨wtnV_iff.2 ⟨c, z, s⟩, wtnV_iff.2 ⟨z, o, z⟩, wtnV_iff.2 ⟨n, z, c⟩⟩
  split
  · exact wtnM_iff.2 ⟨wtnV_iff.2 ⟨c, n, z⟩, wtnV_iff.2 ⟨s, c, z⟩, wtnV_iff.2 ⟨z, z, o⟩⟩
  · exact wtnM_iff.2 ⟨wtnV_iff.2 ⟨z, z, z⟩, wtnV_iff.2 ⟨z, z, z⟩, wtnV_iff.2 ⟨z, z, z⟩⟩

end Go.RX

/-
  Laws of the matrices: parts, quarters, sums of angles.
-/
namespace Go.RX
open Go

theorem part_wtn {a : Int × Int} (hv : vld a = true) (m n : Int) : dom_armplanmake_Part a m n = true ∧ wtn (armplanmake_Part a m n) a = true := by
  obtain ⟨d, h1, h2, h3⟩ := part_ok hv m n
  have b := vld_bd hv
  exact ⟨d, wtn_iff.2 ⟨vld_mk (by omega) (by omega) (by omega), hv, h1, h3⟩⟩

/- QUARTERS -/

def q3 (k : Int) : M3 := if k = 0 then (((65536, 65536), ((0, 0), (0, 0))), (((0, 0), ((0, 0), (-65536, -65536))), ((0, 0), ((65536, 65536), (0, 0)))))
  else if k = 1 then (((0, 0), ((0, 0), (65536, 65536))), (((0, 0), ((65536, 65536), (0, 0))), ((-65536, -65536), ((0, 0), (0, 0)))))
  else (((0, 0), ((-65536, -65536), (0, 0))), (((65536, 65536), ((0, 0), (0, 0))), ((0, 0), ((0, 0), (65536, 65536)))))
def h3 (k : Int) : M3 := if k = 0 then (((65536, 65536), ((0, 0), (0, 0))), (((0, 0), ((-65536, -65536), (0, 0))), ((0, 0), ((0, 0), (-65536, -65536)))))
  else if k = 1 then (((-65536, -65536), ((0, 0), (0, 0))), (((0, 0), ((65536, 65536), (0, 0))), ((0, 0), ((0, 0), (-65536, -65536)))))
  else (((-65536, -65536), ((0, 0), (0, 0))), (((0, 0), ((-65536, -65536), (0, 0))), ((0, 0), ((0, 0), (65536, 65536)))))

theorem lim_in {t : Int} (h1 : -2147483648 ≤ t) (h2 : t ≤ 2147483648) : lim t = t := by unfold lim; omega
end Go.RX

/-
  Laws of the matrices: exact rational rotations inside the intervals; lengths, orthogonality.
-/
namespace Go.RX
open Go

/- EXACT ROTATIONS -/

abbrev E3 := Int × (Int × Int)
end Go.RX

/-
  Laws of the poses: what is composed and applied; motions out of a source.
-/
namespace Go.RX
open Go

abbrev P4 := M3 × V3
def compP (p q : P4) : P4 := (compM p.1 q.1, addV p.2 (applyM p.1 q.2))
def apP (p : P4) (v : V3) : V3 := addV p.2 (applyM p.1 v)
def wtnP (p q : P4) : Bool := wtnM p.1 q.1 && wtnV p.2 q.2
def zeroV : V3 := ((0, 0), ((0, 0), (0, 0)))

theorem compPF (p q : P4) : pose_Compose p q = compP p q := by
  unfold pose_Compose t_pose_Compose compP
  simp only [Tr.val, compF, applyF, addVF]
theorem compPR (p q : P4) : armplanref1_Compose p q = compP p q := by
  unfold armplanref1_Compose t_armplanref1_Compose compP
  simp only [Tr.val, compR, applyR, addVR]
theorem apPF (p : P4) (v : V3) : pose_Apply p v = apP p v := by
  unfold pose_Apply t_pose_Apply apP
  simp only [Tr.val, applyF, addVF]
theorem apPR (p : P4) (v : V3) : armplanref1_Apply p v = apP p v := by
  unfold armplanref1_Apply t_armplanref1_Apply apP
  simp only [Tr.val, applyR, addVR]
theorem wtnPR (p q : P4) : armplanref1_WithinPose p q = wtnP p q := by
  unfold armplanref1_WithinPose t_armplanref1_WithinPose wtnP
  simp only [Tr.val, withinMR, withinVR]
  cases wtnM p.1 q.1 <;> rfl
theorem shiftF (v : V3) : pose_Shift v = (unitM, v) := by
  unfold pose_Shift t_pose_Shift
  simp only [Tr.val, unitF]
theorem shiftR (v : V3) : armplanref1_Shift v = (unitM, v) := by
  unfold armplanref1_Shift t_armplanref1_Shift
  simp only [Tr.val, unitR]
theorem turnPF (k : Int) (a : Int × Int) : pose_Turn k a = (turnM k a, zeroV) := by
  unfold pose_Turn t_pose_Turn
  simp only [Tr.val, turnF]; rfl
theorem turnPR (k : Int) (a : Int × Int) : armplanref1_TurnPose k a = (turnM k a, zeroV) := by
  unfold armplanref1_TurnPose t_armplanref1_TurnPose
  simp only [Tr.val, Go.RX.turnR]; rfl
theorem restF : pose_Identity = (unitM, zeroV) := by
  unfold pose_Identity t_pose_Identity
  simp only [Tr.val, unitF]; rfl
theorem restR : armplanref1_Rest = (unitM, zeroV) := by
  unfold armplanref1_Rest t_armplanref1_Rest
  simp only [Tr.val, unitR]; rfl
theorem vld_add (x y : Int × Int) : vld (addI x y) = true := by
  unfold addI
  cases hx : vld x with
  | false => rfl
  | true =>
    cases hy : vld y with
    | false => rfl
    | true =>
      have b := vld_bd hx
      have c := vld_bd hy
      have l1 := lim_bd (x.1 + y.1)
      have l2 := lim_bd (x.2 + y.2)
      exact vld_mk l1.1 (lim_mono (by omega)) l2.2
def smI (x : Int × Int) : Prop := -65536 ≤ x.1 ∧ x.1 ≤ x.2 ∧ x.2 ≤ 65536
def smV (v : V3) : Prop := smI v.1 ∧ smI v.2.1 ∧ smI v.2.2
def smM (m : M3) : Prop := smV m.1 ∧ smV m.2.1 ∧ smV m.2.2
def vV (v : V3) : Prop := vld v.1 = true ∧ vld v.2.1 = true ∧ vld v.2.2 = true
def vM (m : M3) : Prop := vV m.1 ∧ vV m.2.1 ∧ vV m.2.2

theorem sm_vld {x : Int × Int} (h : smI x) : vld x = true := vld_mk (by have := h.1; omega) h.2.1 (by have := h.2.2; omega)
theorem sm_vV {v : V3} (h : smV v) : vV v := ⟨sm_vld h.1, sm_vld h.2.1, sm_vld h.2.2⟩
theorem sm_vM {m : M3} (h : smM m) : vM m := ⟨sm_vV h.1, sm_vV h.2.1, sm_vV h.2.2⟩
theorem sm_cl {x : Int × Int} (h : vld x = true) : smI (cl x) := by
  have := vld_bd h
  unfold cl cl1 smI
  exact ⟨by dsimp only; omega, by dsimp only; omega, by dsimp only; omega⟩
theorem vld_dot (x y : V3) : vld (dotI x y) = true := vld_add _ _
theorem sm_comp (a b : M3) : smM (compM a b) := ⟨⟨sm_cl (vld_dot _ _), sm_cl (vld_dot _ _), sm_cl (vld_dot _ _)⟩, ⟨sm_cl (vld_dot _ _), sm_cl (vld_dot _ _), sm_cl (vld_dot _ _)⟩, ⟨sm_cl (vld_dot _ _), sm_cl (vld_dot _ _), sm_cl (vld_dot _ _)⟩⟩
theorem sm_0 : smI (0, 0) := ⟨by decide, by decide, by decide⟩
theorem sm_1 : smI (65536, 65536) := ⟨by decide, by decide, by decide⟩
theorem sm_nega {x : Int × Int} (h : smI x) : smI (nega x) := by
  have v := sm_vld h
  obtain ⟨h1, h2, h3⟩ := h
  unfold nega
  rw [v]
  exact ⟨by dsimp only [cond_true]; omega, by dsimp only [cond_true]; omega, by dsimp only [cond_true]; omega⟩
theorem sm_turn (k : Int) (a : Int × Int) : smM (turnM k a) := by
  have c : smI (ov 16384 a) := ov_bd 16384 a
  have s : smI (ov 0 a) := ov_bd 0 a
  have n := sm_nega s
  have z := sm_0
  have o := sm_1
  unfold turnM
  cases vld a with
  | false => exact ⟨⟨z, z, z⟩, ⟨z, z, z⟩, ⟨z, z, z⟩⟩
  | true =>
    simp only [cond_true]
    split
    · exact ⟨⟨o, z, z⟩, ⟨z, c, n⟩, ⟨z, s, c⟩⟩
    split
    · exact ⟨⟨c, z, s⟩, ⟨z, o, z⟩, ⟨n, z, c⟩⟩
    split
    · exact ⟨⟨c, n, z⟩, ⟨s, c, z⟩, ⟨z, z, o⟩⟩
    · exact ⟨⟨z, z, z⟩, ⟨z, z, z⟩, ⟨z, z, z⟩⟩
theorem sm_unit : smM unitM := ⟨⟨sm_1, sm_0, sm_0⟩, ⟨sm_0, sm_1, sm_0⟩, ⟨sm_0, sm_0, sm_1⟩⟩

/- MOTIONS -/

def ptV (t : E3) : V3 := ((t.1, t.1), ((t.2.1, t.2.1), (t.2.2, t.2.2)))
def bdE (t : E3) (B : Int) : Prop := (-B ≤ t.1 ∧ t.1 ≤ B) ∧ (-B ≤ t.2.1 ∧ t.2.1 ≤ B) ∧ (-B ≤ t.2.2 ∧ t.2.2 ≤ B)
theorem pt_point {t : E3} {B : Int} (h : bdE t B) (hB : B ≤ 2147483648) : pointV t = ptV t := by
  obtain ⟨⟨a, b⟩, ⟨c, d⟩, ⟨e, f⟩⟩ := h
  unfold pointV ptV
  rw [lim_in (by omega) (by omega), lim_in (by omega) (by omega), lim_in (by omega) (by omega)]

end Go.RX

/-
  Laws of the poses: chains, parts, inverses.
-/
namespace Go.RX
open Go

theorem wtnP_iff {p q : P4} : wtnP p q = true ↔ wtnM p.1 q.1 = true ∧ wtnV p.2 q.2 = true := by unfold wtnP; simp only [Bool.and_eq_true]
theorem compP_mono {p p' q q' : P4} (hp : wtnP p p' = true) (hq : wtnP q q' = true) : wtnP (compP p q) (compP p' q') = true := by
  obtain ⟨a, b⟩ := wtnP_iff.1 hp
  obtain ⟨c, d⟩ := wtnP_iff.1 hq
  exact wtnP_iff.2 ⟨comp_mono a c, addV_mono b (apply_mono a d)⟩
theorem apP_mono {p q : P4} {u v : V3} (h : wtnP p q = true) (hv : wtnV u v = true) : wtnV (apP p u) (apP q v) = true := by
  obtain ⟨a, b⟩ := wtnP_iff.1 h
  exact addV_mono b (apply_mono a hv)
end Go.RX

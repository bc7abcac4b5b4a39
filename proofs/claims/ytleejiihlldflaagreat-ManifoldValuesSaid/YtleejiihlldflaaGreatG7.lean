/-
  The program's intervals, vectors and matrices are the reference's.
-/
import Derived.Test.YtleejiihlldflaaGreatG3
import Derived.Test.YtleejiihlldflaaGreatG6
namespace Go.RX
open Go

def lim (x : Int) : Int := max (-2147483648) (min x 2147483648)

theorem clampF_eq (x : Int) : fixed_Clamp x = lim x := by
  unfold fixed_Clamp t_fixed_Clamp lim
  simp only [Tr.val]
  by_cases h1 : -2147483648 > x <;> by_cases h2 : 2147483648 < x <;> simp only [h1, h2, if_true, if_false] <;> (repeat' split) <;> omega

theorem clampR_eq (x : Int) : armplanref1_Clamp x = lim x := by
  unfold armplanref1_Clamp t_armplanref1_Clamp lim
  simp only [Tr.val]
  by_cases h2 : 2147483648 < x <;> simp only [h2, if_true, if_false] <;> (repeat' split) <;> omega

theorem limitF_eq (x y : Int) : interval_limit x y = (lim x, lim y) := by
  unfold interval_limit t_interval_limit
  simp only [Tr.val, clampF_eq]
theorem limitR_eq (x y : Int) : armplanref1_limited x y = (lim x, lim y) := by
  unfold armplanref1_limited t_armplanref1_limited
  simp only [Tr.val, clampR_eq]

theorem ofF_eq (x : Int) : interval_Of x = (lim x, lim x) := by
  unfold interval_Of t_interval_Of
  simp only [Tr.val, limitF_eq]
theorem ofR_eq (x : Int) : armplanref1_Of x = (lim x, lim x) := by
  unfold armplanref1_Of t_armplanref1_Of
  simp only [Tr.val, clampR_eq]

theorem valF (x : Int × Int) : interval_Valid x = vld x := valid_eq
theorem valR (x : Int × Int) : armplanref1_Valid x = vld x := Valid_eq
theorem both_eq (x y : Int × Int) : interval_both x y = (vld x && vld y) := by
  unfold interval_both t_interval_both
  simp only [Tr.val, valF]
  cases vld x <;> rfl

/- What the operations come to. -/
def nega (x : Int × Int) : Int × Int := bif vld x then (-x.2, -x.1) else (0, 0)
def addI (x y : Int × Int) : Int × Int := bif vld x && vld y then (lim (x.1 + y.1), lim (x.2 + y.2)) else (0, 0)
def mn4 (p q r s : Int) : Int := min (min p q) (min r s)
def mx4 (p q r s : Int) : Int := max (max p q) (max r s)
def mulI (x y : Int × Int) : Int × Int := bif vld x && vld y then
  (lim (mn4 (x.1 * y.1) (x.1 * y.2) (x.2 * y.1) (x.2 * y.2) / 65536), lim (-(-(mx4 (x.1 * y.1) (x.1 * y.2) (x.2 * y.1) (x.2 * y.2)) / 65536))) else (0, 0)

theorem vld_bd {x : Int × Int} (h : vld x = true) : -2147483648 ≤ x.1 ∧ x.1 ≤ x.2 ∧ x.2 ≤ 2147483648 := by simpa [vld] using h

theorem negF (x : Int × Int) : interval_Neg x = nega x := by
  cases h : vld x with
  | true => rw [neg_eq (vld_bd h)]; unfold nega ngI; rw [h]; rfl
  | false => unfold interval_Neg t_interval_Neg nega; simp only [Tr.val, valF, h]; rfl
theorem negR (x : Int × Int) : armplanref1_Neg x = nega x := by
  cases h : vld x with
  | true => rw [Neg_eq (vld_bd h)]; unfold nega ngI; rw [h]; rfl
  | false => unfold armplanref1_Neg t_armplanref1_Neg nega; simp only [Tr.val, valR, h]; rfl

theorem addF (x y : Int × Int) : interval_Add x y = addI x y := by
  unfold interval_Add t_interval_Add addI
  simp only [Tr.val, both_eq]
  cases hx : vld x with
  | false => rfl
  | true =>
    cases hy : vld y with
    | false => rfl
    | true =>
      have b1 := vld_bd hx
      have b2 := vld_bd hy
      simp only [Bool.and_true, Bool.not_true, cond_false, cond_true]
      rw [wrap64 (by omega) (by omega), wrap64 (by omega) (by omega), limitF_eq]
theorem addR (x y : Int × Int) : armplanref1_Add x y = addI x y := by
  unfold armplanref1_Add t_armplanref1_Add addI
  simp only [Tr.val, valR]
  cases hx : vld x with
  | false => rfl
  | true =>
    cases hy : vld y with
    | false => rfl
    | true =>
      have b1 := vld_bd hx
      have b2 := vld_bd hy
      simp only [Bool.and_true, Bool.not_true, cond_false, cond_true]
      rw [wrap64 (by omega) (by omega), wrap64 (by omega) (by omega), limitR_eq]

theorem shr16 (x : Int) : shrI .i64 x 16 = x / 65536 := by
  unfold shrI
  have : (2 : Int) ^ (Nat.min (16 : Int).toNat IntKind.i64.bits) = 65536 := by decide +kernel
  rw [this]
  exact Int.fdiv_eq_ediv_of_nonneg _ (by omega)

theorem down16 (x : Int) : fixed_ShiftDown x 16 = x / 65536 := by
  unfold fixed_ShiftDown t_fixed_ShiftDown
  show shrI .i64 x 16 = _
  exact shr16 x

theorem up16 {x : Int} (h1 : -4611686018427387904 ≤ x) (h2 : x ≤ 4611686018427387904) : fixed_ShiftUp x 16 = -(-x / 65536) := by
  unfold fixed_ShiftUp t_fixed_ShiftUp
  have hs : shlI .i64 (fixed_ShiftDown x 16) 16 = x / 65536 * 65536 := by
    unfold shlI
    have : (2 : Int) ^ (Nat.min (16 : Int).toNat IntKind.i64.bits) = 65536 := by decide +kernel
    rw [down16, this]
    rw [wrap64 (by omega) (by omega)]
  have hd : dom_fixed_ShiftDown x 16 = true := rfl
  simp only [Tr.val, hd, cond_true, hs]
  rw [down16]
  show (bif !decide (x / 65536 * 65536 = x) then IntKind.wrap .i64 (x / 65536 + 1) else x / 65536) = _
  by_cases h : x / 65536 * 65536 = x
  · rw [decide_eq_true h]; simp only [Bool.not_true, cond_false]; omega
  · rw [decide_eq_false h]; simp only [Bool.not_false, cond_true]
    rw [wrap64 (by omega) (by omega)]; omega

theorem mul_bd2 {x y : Int} (h1 : -2147483648 ≤ x) (h2 : x ≤ 2147483648) (k1 : -2147483648 ≤ y) (k2 : y ≤ 2147483648) : -4611686018427387904 ≤ x * y ∧ x * y ≤ 4611686018427387904 := by
  have a1 := Int.mul_nonneg (a := 2147483648 - x) (b := 2147483648 - y) (by omega) (by omega)
  have a2 := Int.mul_nonneg (a := 2147483648 + x) (b := 2147483648 + y) (by omega) (by omega)
  have a3 := Int.mul_nonneg (a := 2147483648 - x) (b := 2147483648 + y) (by omega) (by omega)
  have a4 := Int.mul_nonneg (a := 2147483648 + x) (b := 2147483648 - y) (by omega) (by omega)
  rw [Int.sub_mul, Int.mul_sub, Int.mul_sub] at a1
  rw [Int.add_mul, Int.mul_add, Int.mul_add] at a2
  rw [Int.sub_mul, Int.mul_add, Int.mul_add] at a3
  rw [Int.add_mul, Int.mul_sub, Int.mul_sub] at a4
  omega

theorem prods {x y : Int × Int} (hx : vld x = true) (hy : vld y = true) : (-4611686018427387904 ≤ x.1 * y.1 ∧ x.1 * y.1 ≤ 4611686018427387904) ∧ (-4611686018427387904 ≤ x.1 * y.2 ∧ x.1 * y.2 ≤ 4611686018427387904) ∧
    (-4611686018427387904 ≤ x.2 * y.1 ∧ x.2 * y.1 ≤ 4611686018427387904) ∧ (-4611686018427387904 ≤ x.2 * y.2 ∧ x.2 * y.2 ≤ 4611686018427387904) := by
  have b1 := vld_bd hx
  have b2 := vld_bd hy
  exact ⟨mul_bd2 (by omega) (by omega) (by omega) (by omega), mul_bd2 (by omega) (by omega) (by omega) (by omega), mul_bd2 (by omega) (by omega) (by omega) (by omega), mul_bd2 (by omega) (by omega) (by omega) (by omega)⟩

theorem mulF (x y : Int × Int) : interval_Mul x y = mulI x y := by
  unfold interval_Mul t_interval_Mul mulI
  simp only [Tr.val, both_eq]
  cases hx : vld x with
  | false => rfl
  | true =>
    cases hy : vld y with
    | false => rfl
    | true =>
      obtain ⟨b1, b2, b3, b4⟩ := prods hx hy
      simp only [Bool.and_true, Bool.not_true, cond_false, cond_true]
      generalize x.1 * y.1 = p at *
      generalize x.1 * y.2 = q at *
      generalize x.2 * y.1 = r at *
      generalize x.2 * y.2 = s at *
      rw [wrap64 (x := p) (by omega) (by omega), wrap64 (x := q) (by omega) (by omega), wrap64 (x := r) (by omega) (by omega), wrap64 (x := s) (by omega) (by omega)]
      have e1 : (if p < p then p else p) = p := by split <;> rfl
      have e2 : (if p > p then p else p) = p := by split <;> rfl
      rw [e1]
      have e3 : (if s < (if r < (if q < p then q else p) then r else (if q < p then q else p)) then s else (if r < (if q < p then q else p) then r else (if q < p then q else p))) = mn4 p q r s := by
        unfold mn4; (repeat' split) <;> omega
      have e4 : (if s > (if r > (if q > p then q else p) then r else (if q > p then q else p)) then s else (if r > (if q > p then q else p) then r else (if q > p then q else p))) = mx4 p q r s := by
        unfold mx4; (repeat' split) <;> omega
      rw [e3, e4]
      unfold interval_outward t_interval_outward
      have e5 : -4611686018427387904 ≤ mx4 p q r s ∧ mx4 p q r s ≤ 4611686018427387904 := by unfold mx4; omega
      simp only [Tr.val, down16, up16 e5.1 e5.2, limitF_eq]

theorem mulR (x y : Int × Int) : armplanref1_Mul x y = mulI x y := by
  unfold armplanref1_Mul t_armplanref1_Mul mulI
  simp only [Tr.val, valR]
  cases hx : vld x with
  | false => rfl
  | true =>
    cases hy : vld y with
    | false => rfl
    | true =>
      obtain ⟨b1, b2, b3, b4⟩ := prods hx hy
      simp only [Bool.and_true, Bool.not_true, cond_false, cond_true]
      generalize x.1 * y.1 = p at *
      generalize x.1 * y.2 = q at *
      generalize x.2 * y.1 = r at *
      generalize x.2 * y.2 = s at *
      rw [wrap64 (x := p) (by omega) (by omega), wrap64 (x := q) (by omega) (by omega), wrap64 (x := r) (by omega) (by omega), wrap64 (x := s) (by omega) (by omega)]
      have e3 : (if s < (if r < (if q < p then q else p) then r else (if q < p then q else p)) then s else (if r < (if q < p then q else p) then r else (if q < p then q else p))) = mn4 p q r s := by
        unfold mn4; (repeat' split) <;> omega
      have e4 : (if s > (if r > (if q > p then q else p) then r else (if q > p then q else p)) then s else (if r > (if q > p then q else p) then r else (if q > p then q else p))) = mx4 p q r s := by
        unfold mx4; (repeat' split) <;> omega
      rw [e3, e4]
      have e5 : -4611686018427387904 ≤ mx4 p q r s ∧ mx4 p q r s ≤ 4611686018427387904 := by unfold mx4; omega
      have e6 : -4611686018427387904 ≤ mn4 p q r s ∧ mn4 p q r s ≤ 4611686018427387904 := by unfold mn4; omega
      rw [Floor_eq (by omega) e6.1 e6.2, Ceil_eq (by omega) e5.1 e5.2, limitR_eq]

def wtn (x y : Int × Int) : Bool := vld x && vld y && decide (y.1 ≤ x.1 ∧ x.2 ≤ y.2)
theorem withinF (x y : Int × Int) : interval_Within x y = wtn x y := by
  unfold interval_Within t_interval_Within wtn
  simp only [Tr.val, both_eq]
  cases vld x <;> cases vld y <;> by_cases h1 : y.1 ≤ x.1 <;> by_cases h2 : x.2 ≤ y.2 <;> simp [h1, h2]
theorem withinR (x y : Int × Int) : armplanref1_Within x y = wtn x y := by
  rw [Within_eq, valR, valR]; rfl

/- VECTORS AND MATRICES -/

abbrev V3 := (Int × Int) × ((Int × Int) × (Int × Int))
abbrev M3 := V3 × (V3 × V3)

/-- The rotation about an axis. -/
def turnM (k : Int) (a : Int × Int) : M3 :=
  bif vld a then
    (if k = 0 then (((65536, 65536), ((0, 0), (0, 0))), (((0, 0), (ov 16384 a, nega (ov 0 a))), ((0, 0), (ov 0 a, ov 16384 a))))
     else if k = 1 then ((ov 16384 a, ((0, 0), ov 0 a)), (((0, 0), ((65536, 65536), (0, 0))), (nega (ov 0 a), ((0, 0), ov 16384 a))))
     else if k = 2 then ((ov 16384 a, (nega (ov 0 a), (0, 0))), ((ov 0 a, (ov 16384 a, (0, 0))), ((0, 0), ((0, 0), (65536, 65536)))))
     else (((0, 0), ((0, 0), (0, 0))), (((0, 0), ((0, 0), (0, 0))), ((0, 0), ((0, 0), (0, 0))))))
  else (((0, 0), ((0, 0), (0, 0))), (((0, 0), ((0, 0), (0, 0))), ((0, 0), ((0, 0), (0, 0)))))

theorem one_eq : matrix_one = (65536, 65536) := by
  unfold matrix_one t_matrix_one
  simp only [Tr.val, ofF_eq]; rfl

theorem turnR (k : Int) (a : Int × Int) : armplanref1_Turn k a = turnM k a := by
  unfold armplanref1_Turn t_armplanref1_Turn turnM
  simp only [Tr.val, valR, ofR_eq, SinOver_eq, CosOver_eq, negR]
  cases vld a with
  | false => rfl
  | true =>
    simp only [Bool.not_true, cond_false, cond_true]
    by_cases h0 : k = 0
    · rw [if_pos h0, decide_eq_true h0]; rfl
    · rw [if_neg h0, decide_eq_false h0]
      by_cases h1 : k = 1
      · rw [if_pos h1, decide_eq_true h1]; rfl
      · rw [if_neg h1, decide_eq_false h1]
        by_cases h2 : k = 2
        · rw [if_pos h2, decide_eq_true h2]; rfl
        · rw [if_neg h2, decide_eq_false h2]; rfl

theorem turnF (k : Int) (a : Int × Int) : matrix_Turn k a = turnM k a := by
  unfold matrix_Turn turnM
  by_cases h0 : k = 0
  · subst h0
    simp only [if_true]
    unfold t_matrix_Turn_0
    simp only [Tr.val, valF, one_eq, sinOver_eq, cosOver_eq, negF]
    cases vld a <;> rfl
  · simp only [h0, if_false]
    by_cases h1 : k = 1
    · subst h1
      simp only [if_true]
      unfold t_matrix_Turn_1
      simp only [Tr.val, valF, one_eq, sinOver_eq, cosOver_eq, negF]
      cases vld a <;> rfl
    · simp only [h1, if_false]
      by_cases h2 : k = 2
      · subst h2
        simp only [if_true]
        unfold t_matrix_Turn_2
        simp only [Tr.val, valF, one_eq, sinOver_eq, cosOver_eq, negF]
        cases vld a <;> rfl
      · simp only [h2, if_false]
        unfold t_matrix_Turn_x
        by_cases h3 : k < 0
        · simp only [decide_eq_true h3, Tr.val, cond_true]; cases vld a <;> rfl
        · have h4 : 2 < k := by omega
          simp only [decide_eq_false h3, decide_eq_true h4, Tr.val, cond_true, cond_false]; cases vld a <;> rfl

end Go.RX

/-
  Laws of the matrices: what is applied and composed; the sources of numbers.
-/
namespace Go.RX
open Go

def dotI (x y : V3) : Int × Int := addI (addI (mulI x.1 y.1) (mulI x.2.1 y.2.1)) (mulI x.2.2 y.2.2)
def applyM (m : M3) (v : V3) : V3 := (dotI m.1 v, (dotI m.2.1 v, dotI m.2.2 v))
def trn (m : M3) : M3 := ((m.1.1, (m.2.1.1, m.2.2.1)), ((m.1.2.1, (m.2.1.2.1, m.2.2.2.1)), (m.1.2.2, (m.2.1.2.2, m.2.2.2.2))))
def cl1 (x : Int) : Int := max (-65536) (min x 65536)
def cl (x : Int × Int) : Int × Int := (cl1 x.1, cl1 x.2)
def rowM (x : V3) (t : M3) : V3 := (cl (dotI x t.1), (cl (dotI x t.2.1), cl (dotI x t.2.2)))
def compM (a b : M3) : M3 := (rowM a.1 (trn b), (rowM a.2.1 (trn b), rowM a.2.2 (trn b)))
def addV (u v : V3) : V3 := (addI u.1 v.1, (addI u.2.1 v.2.1, addI u.2.2 v.2.2))
def pointV (p : Int × (Int × Int)) : V3 := ((lim p.1, lim p.1), ((lim p.2.1, lim p.2.1), (lim p.2.2, lim p.2.2)))
def unitM : M3 := (((65536, 65536), ((0, 0), (0, 0))), (((0, 0), ((65536, 65536), (0, 0))), ((0, 0), ((0, 0), (65536, 65536)))))

theorem sumF (x y : V3) : matrix_sum x y = dotI x y := by
  unfold matrix_sum t_matrix_sum dotI
  simp only [Tr.val, mulF, addF]
theorem applyF (m : M3) (v : V3) : matrix_Apply m v = applyM m v := by
  unfold matrix_Apply t_matrix_Apply applyM
  simp only [Tr.val, sumF]
theorem applyR (m : M3) (v : V3) : armplanref1_ApplyMat m v = applyM m v := by
  unfold armplanref1_ApplyMat t_armplanref1_ApplyMat applyM dotI
  simp only [Tr.val, mulR, addR]
theorem addVF (u v : V3) : matrix_Add u v = addV u v := by
  unfold matrix_Add t_matrix_Add addV
  simp only [Tr.val, addF]
theorem addVR (u v : V3) : armplanref1_AddVec u v = addV u v := by
  unfold armplanref1_AddVec t_armplanref1_AddVec addV
  simp only [Tr.val, addR]
theorem pointF (p : Int × (Int × Int)) : matrix_Point p = pointV p := by
  unfold matrix_Point t_matrix_Point pointV
  simp only [Tr.val, ofF_eq]
theorem pointR (p : Int × (Int × Int)) : armplanref1_Point p = pointV p := by
  unfold armplanref1_Point t_armplanref1_Point pointV
  simp only [Tr.val, ofR_eq]
theorem trnF (m : M3) : matrix_Transpose m = trn m := rfl
theorem limF (x : Int × Int) : matrix_limit x = cl x := by
  unfold matrix_limit t_matrix_limit cl
  simp only [Tr.val]
  refine Prod.ext ?_ ?_ <;> dsimp only <;> unfold cl1 <;> (repeat' split) <;> omega
theorem cl_if (x : Int) : (if (if 65536 < x then 65536 else x) > (-65536) then (if 65536 < x then 65536 else x) else (-65536)) = cl1 x := by
  unfold cl1; (repeat' split) <;> omega

theorem compF (a b : M3) : matrix_Compose a b = compM a b := by
  unfold matrix_Compose t_matrix_Compose compM rowM
  simp only [Tr.val, sumF, limF, trnF]
theorem compR (a b : M3) : armplanref1_ComposeMat a b = compM a b := by
  unfold armplanref1_ComposeMat t_armplanref1_ComposeMat compM rowM dotI trn cl
  simp only [Tr.val, mulR, addR, cl_if]
theorem unitF : matrix_Identity = unitM := by
  unfold matrix_Identity t_matrix_Identity unitM
  simp only [Tr.val, one_eq]
theorem unitR : armplanref1_Unit = unitM := by
  unfold armplanref1_Unit t_armplanref1_Unit unitM
  simp only [Tr.val, ofR_eq]; rfl
/- SOURCES -/

/-- A source in use. -/
def srcOk (s : List Int × Int) : Prop := 0 ≤ s.2 ∧ s.1.length ≤ maxLen

theorem src0 {l : List Int} (h : l.length ≤ maxLen) : srcOk (l, 0) := ⟨Int.le_refl _, h⟩

theorem next_ok {s : List Int × Int} (h : srcOk s) {k : Int} (hk : 0 < k) (hk2 : k ≤ 4611686018427387904) : dom_armplanmake_Source_Next s k = true ∧ srcOk (armplanmake_Source_Next s k).2 ∧ 0 ≤ (armplanmake_Source_Next s k).1 ∧ (armplanmake_Source_Next s k).1 < k := by
  obtain ⟨h1, h2⟩ := h
  unfold maxLen at h2
  obtain ⟨l, i⟩ := s
  dsimp only at h1 h2
  unfold dom_armplanmake_Source_Next armplanmake_Source_Next t_armplanmake_Source_Next
  by_cases he : (l.length : Int) ≤ i
  · simp only [decide_eq_true he, Tr.dom, Tr.ok, Tr.val, Bool.and_false, Bool.true_and, cond_false, cond_true]
    exact ⟨by first | trivial | rfl, ⟨h1, by unfold maxLen; exact h2⟩, Int.le_refl _, hk⟩
  · have hd := dom_round (n := List.getD l i.toNat (Ty.dflt (.int .i64))) (k := k) (by omega)
    obtain ⟨r1, r2⟩ := round_eq (n := List.getD l i.toNat (Ty.dflt (.int .i64))) (k := k) hk hk2
    have e1 : IntKind.wrap .i64 (i + 1) = i + 1 := wrap64 (by omega) (by omega)
    have e2 : IntKind.wrap .i64 (i + 1 - 1) = i := by rw [wrap64 (by omega) (by omega)]; omega
    simp only [decide_eq_false he, Tr.dom, Tr.ok, Tr.val, Bool.and_false, cond_false, e1, e2]
    rw [hd, decide_eq_true (show 0 ≤ i from h1), decide_eq_true (show i < ((l.length : Nat) : Int) by omega)]
    exact ⟨by first | trivial | rfl, ⟨show 0 ≤ i + 1 by omega, by unfold maxLen; exact h2⟩, r1, r2⟩

theorem signed_ok {s : List Int × Int} (h : srcOk s) {k : Int} (hk : 0 < k) (hk2 : k ≤ 1099511627776) : dom_armplanmake_Source_Signed s k = true ∧ srcOk (armplanmake_Source_Signed s k).2 ∧ -k ≤ (armplanmake_Source_Signed s k).1 ∧ (armplanmake_Source_Signed s k).1 ≤ k := by
  have e1 : IntKind.wrap .i64 (2 * k) = 2 * k := wrap64 (by omega) (by omega)
  have e2 : IntKind.wrap .i64 (2 * k + 1) = 2 * k + 1 := wrap64 (by omega) (by omega)
  obtain ⟨d, o, b1, b2⟩ := next_ok h (k := 2 * k + 1) (by omega) (by omega)
  unfold dom_armplanmake_Source_Signed armplanmake_Source_Signed t_armplanmake_Source_Signed
  simp only [e1, e2, d, Tr.dom, Tr.ok, Tr.val, Bool.and_false, cond_false, cond_true]
  rw [wrap64 (by omega) (by omega)]
  exact ⟨by first | trivial | rfl, o, by omega, by omega⟩

end Go.RX

/-
  Parts of arguments give parts of results: law of the monotone matrices.
-/
namespace Go.RX
open Go

theorem wtn_iff {x y : Int × Int} : wtn x y = true ↔ vld x = true ∧ vld y = true ∧ y.1 ≤ x.1 ∧ x.2 ≤ y.2 := by
  unfold wtn
  simp only [Bool.and_eq_true, decide_eq_true_eq]
  exact ⟨fun ⟨⟨a, b⟩, c⟩ => ⟨a, b, c⟩, fun ⟨a, b, c⟩ => ⟨⟨a, b⟩, c⟩⟩

end Go.RX

/-
  Laws of the matrices: parts, quarters, sums of angles.
-/
namespace Go.RX
open Go

/- QUARTERS -/

def q3 (k : Int) : M3 := if k = 0 then (((65536, 65536), ((0, 0), (0, 0))), (((0, 0), ((0, 0), (-65536, -65536))), ((0, 0), ((65536, 65536), (0, 0)))))
  else if k = 1 then (((0, 0), ((0, 0), (65536, 65536))), (((0, 0), ((65536, 65536), (0, 0))), ((-65536, -65536), ((0, 0), (0, 0)))))
  else (((0, 0), ((-65536, -65536), (0, 0))), (((65536, 65536), ((0, 0), (0, 0))), ((0, 0), ((0, 0), (65536, 65536)))))
def h3 (k : Int) : M3 := if k = 0 then (((65536, 65536), ((0, 0), (0, 0))), (((0, 0), ((-65536, -65536), (0, 0))), ((0, 0), ((0, 0), (-65536, -65536)))))
  else if k = 1 then (((-65536, -65536), ((0, 0), (0, 0))), (((0, 0), ((65536, 65536), (0, 0))), ((0, 0), ((0, 0), (-65536, -65536)))))
  else (((-65536, -65536), ((0, 0), (0, 0))), (((0, 0), ((-65536, -65536), (0, 0))), ((0, 0), ((0, 0), (65536, 65536)))))

end Go.RX

/-
  Laws of the matrices: exact rational rotations inside the intervals; lengths, orthogonality.
-/
namespace Go.RX
open Go

/- EXACT ROTATIONS -/

abbrev E3 := Int × (Int × Int)
end Go.RX

/-
  Laws of the poses: what is composed and applied; motions out of a source.
-/
namespace Go.RX
open Go

abbrev P4 := M3 × V3
def compP (p q : P4) : P4 := (compM p.1 q.1, addV p.2 (applyM p.1 q.2))
def apP (p : P4) (v : V3) : V3 := addV p.2 (applyM p.1 v)
def zeroV : V3 := ((0, 0), ((0, 0), (0, 0)))

theorem compPF (p q : P4) : pose_Compose p q = compP p q := by
  unfold pose_Compose t_pose_Compose compP
  simp only [Tr.val, compF, applyF, addVF]
theorem compPR (p q : P4) : armplanref1_Compose p q = compP p q := by
  unfold armplanref1_Compose t_armplanref1_Compose compP
  simp only [Tr.val, compR, applyR, addVR]
theorem apPF (p : P4) (v : V3) : pose_Apply p v = apP p v := by
  unfold pose_Apply t_pose_Apply apP
  simp only [Tr.val, applyF, addVF]
theorem apPR (p : P4) (v : V3) : armplanref1_Apply p v = apP p v := by
  unfold armplanref1_Apply t_armplanref1_Apply apP
  simp only [Tr.val, applyR, addVR]
theorem shiftF (v : V3) : pose_Shift v = (unitM, v) := by
  unfold pose_Shift t_pose_Shift
  simp only [Tr.val, unitF]
theorem shiftR (v : V3) : armplanref1_Shift v = (unitM, v) := by
  unfold armplanref1_Shift t_armplanref1_Shift
  simp only [Tr.val, unitR]
theorem turnPF (k : Int) (a : Int × Int) : pose_Turn k a = (turnM k a, zeroV) := by
  unfold pose_Turn t_pose_Turn
  simp only [Tr.val, turnF]; rfl
theorem turnPR (k : Int) (a : Int × Int) : armplanref1_TurnPose k a = (turnM k a, zeroV) := by
  unfold armplanref1_TurnPose t_armplanref1_TurnPose
  simp only [Tr.val, Go.RX.turnR]; rfl
theorem restF : pose_Identity = (unitM, zeroV) := by
  unfold pose_Identity t_pose_Identity
  simp only [Tr.val, unitF]; rfl
theorem restR : armplanref1_Rest = (unitM, zeroV) := by
  unfold armplanref1_Rest t_armplanref1_Rest
  simp only [Tr.val, unitR]; rfl
def bdE (t : E3) (B : Int) : Prop := (-B ≤ t.1 ∧ t.1 ≤ B) ∧ (-B ≤ t.2.1 ∧ t.2.1 ≤ B) ∧ (-B ≤ t.2.2 ∧ t.2.2 ≤ B)
end Go.RX

/-
  Laws of the poses: chains, parts, inverses.
-/
namespace Go.RX
open Go

end Go.RX

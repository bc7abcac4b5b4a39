/-
  Laws of the matrices: what is applied and composed; the sources of numbers.
-/
import Derived.Test.YtkekddbdbfdjeaaFC
import Derived.Test.YtkekddbdbfdjeaaMa
namespace Go.RX
open Go

def dotI (x y : V3) : Int × Int := addI (addI (mulI x.1 y.1) (mulI x.2.1 y.2.1)) (mulI x.2.2 y.2.2)
def applyM (m : M3) (v : V3) : V3 := (dotI m.1 v, (dotI m.2.1 v, dotI m.2.2 v))
def trn (m : M3) : M3 := ((m.1.1, (m.2.1.1, m.2.2.1)), ((m.1.2.1, (m.2.1.2.1, m.2.2.2.1)), (m.1.2.2, (m.2.1.2.2, m.2.2.2.2))))
def cl1 (x : Int) : Int := max (-65536) (min x 65536)
def cl (x : Int × Int) : Int × Int := (cl1 x.1, cl1 x.2)
def rowM (x : V3) (t : M3) : V3 := (cl (dotI x t.1), (cl (dotI x t.2.1), cl (dotI x t.2.2)))
def compM (a b : M3) : M3 := (rowM a.1 (trn b), (rowM a.2.1 (trn b), rowM a.2.2 (trn b)))
def addV (u v : V3) : V3 := (addI u.1 v.1, (addI u.2.1 v.2.1, addI u.2.2 v.2.2))
def subV (u v : V3) : V3 := (subI u.1 v.1, (subI u.2.1 v.2.1, subI u.2.2 v.2.2))
def pointV (p : Int × (Int × Int)) : V3 := ((lim p.1, lim p.1), ((lim p.2.1, lim p.2.1), (lim p.2.2, lim p.2.2)))
def wtnV (u v : V3) : Bool := wtn u.1 v.1 && (wtn u.2.1 v.2.1 && wtn u.2.2 v.2.2)
def wtnM (a b : M3) : Bool := wtnV a.1 b.1 && (wtnV a.2.1 b.2.1 && wtnV a.2.2 b.2.2)
def unitM : M3 := (((65536, 65536), ((0, 0), (0, 0))), (((0, 0), ((65536, 65536), (0, 0))), ((0, 0), ((0, 0), (65536, 65536)))))

theorem sumF (x y : V3) : matrix_sum x y = dotI x y := by
  unfold matrix_sum t_matrix_sum dotI
  simp only [Tr.val, mulF, addF]
theorem applyF (m : M3) (v : V3) : matrix_Apply m v = applyM m v := by
  unfold matrix_Apply t_matrix_Apply applyM
  simp only [Tr.val, sumF]
theorem applyR (m : M3) (v : V3) : armplanref1_ApplyMat m v = applyM m v := by
  unfold armplanref1_ApplyMat t_armplanref1_ApplyMat applyM dotI
  simp only [Tr.val, mulR, addR]
theorem addVF (u v : V3) : matrix_Add u v = addV u v := by
  unfold matrix_Add t_matrix_Add addV
  simp only [Tr.val, addF]
theorem addVR (u v : V3) : armplanref1_AddVec u v = addV u v := by
  unfold armplanref1_AddVec t_armplanref1_AddVec addV
  simp only [Tr.val, addR]
theorem pointF (p : Int × (Int × Int)) : matrix_Point p = pointV p := by
  unfold matrix_Point t_matrix_Point pointV
  simp only [Tr.val, ofF_eq]
theorem pointR (p : Int × (Int × Int)) : armplanref1_Point p = pointV p := by
  unfold armplanref1_Point t_armplanref1_Point pointV
  simp only [Tr.val, ofR_eq]
theorem withinVF (u v : V3) : matrix_Within u v = wtnV u v := by
  unfold matrix_Within t_matrix_Within wtnV
  simp only [Tr.val, withinF]
  cases wtn u.1 v.1 <;> cases wtn u.2.1 v.2.1 <;> cases wtn u.2.2 v.2.2 <;> rfl
theorem withinVR (u v : V3) : armplanref1_WithinVec u v = wtnV u v := by
  unfold armplanref1_WithinVec t_armplanref1_WithinVec wtnV
  simp only [Tr.val, withinR]
  cases wtn u.1 v.1 <;> cases wtn u.2.1 v.2.1 <;> cases wtn u.2.2 v.2.2 <;> rfl

theorem trnF (m : M3) : matrix_Transpose m = trn m := rfl
theorem trnR (m : M3) : armplanref1_Transpose m = trn m := rfl
theorem limF (x : Int × Int) : matrix_limit x = cl x := by
  unfold matrix_limit t_matrix_limit cl
  simp only [Tr.val]
  refine Prod.ext ?_ ?_ <;> dsimp only <;> unfold cl1 <;> (repeat' split) <;> omega
theorem cl_if (x : Int) : (if (if 65536 < x then 65536 else x) > (-65536) then (if 65536 < x then 65536 else x) else (-65536)) = cl1 x := by
  unfold cl1; (repeat' split) <;> omega

theorem compF (a b : M3) : matrix_Compose a b = compM a b := by
  unfold matrix_Compose t_matrix_Compose compM rowM
  simp only [Tr.val, sumF, limF, trnF]
theorem compR (a b : M3) : armplanref1_ComposeMat a b = compM a b := by
  unfold armplanref1_ComposeMat t_armplanref1_ComposeMat compM rowM dotI trn cl
  simp only [Tr.val, mulR, addR, cl_if]
theorem unitF : matrix_Identity = unitM := by
  unfold matrix_Identity t_matrix_Identity unitM
  simp only [Tr.val, one_eq]
theorem unitR : armplanref1_Unit = unitM := by
  unfold armplanref1_Unit t_armplanref1_Unit unitM
  simp only [Tr.val, ofR_eq]; rfl
theorem withinMF (a b : M3) : matrix_WithinMat a b = wtnM a b := by
  unfold matrix_WithinMat t_matrix_WithinMat wtnM
  simp only [Tr.val, withinVF]
  cases wtnV a.1 b.1 <;> cases wtnV a.2.1 b.2.1 <;> cases wtnV a.2.2 b.2.2 <;> rfl
theorem withinMR (a b : M3) : armplanref1_WithinMat a b = wtnM a b := by
  unfold armplanref1_WithinMat t_armplanref1_WithinMat wtnM
  simp only [Tr.val, withinVR]
  cases wtnV a.1 b.1 <;> cases wtnV a.2.1 b.2.1 <;> cases wtnV a.2.2 b.2.2 <;> rfl

/- SOURCES -/

/-- A source in use. -/
def srcOk (s : List Int × Int) : Prop := 0 ≤ s.2 ∧ s.1.length ≤ maxLen

theorem src0 {l : List Int} (h : l.length ≤ maxLen) : srcOk (l, 0) := ⟨Int.le_refl _, h⟩

theorem next_ok {s : List Int × Int} (h : srcOk s) {k : Int} (hk : 0 < k) (hk2 : k ≤ 4611686018427387904) : dom_armplanmake_Source_Next s k = true ∧ srcOk (armplanmake_Source_Next s k).2 ∧ 0 ≤ (armplanmake_Source_Next s k).1 ∧ (armplanmake_Source_Next s k).1 < k := by
  obtain ⟨h1, h2⟩ := h
  unfold maxLen at h2
  obtain ⟨l, i⟩ := s
  dsimp only at h1 h2
  unfold dom_armplanmake_Source_Next armplanmake_Source_Next t_armplanmake_Source_Next
  by_cases he : (l.length : Int) ≤ i
  · simp only [decide_eq_true he, Tr.dom, Tr.ok, Tr.val, Bool.and_false, Bool.true_and, cond_false, cond_true]
    exact ⟨by first | trivial | rfl, ⟨h1, by unfold maxLen; exact h2⟩, Int.le_refl _, hk⟩
  · have hd := dom_round (n := List.getD l i.toNat (Ty.dflt (.int .i64))) (k := k) (by omega)
    obtain ⟨r1, r2⟩ := round_eq (n := List.getD l i.toNat (Ty.dflt (.int .i64))) (k := k) hk hk2
    have e1 : IntKind.wrap .i64 (i + 1) = i + 1 := wrap64 (by omega) (by omega)
    have e2 : IntKind.wrap .i64 (i + 1 - 1) = i := by rw [wrap64 (by omega) (by omega)]; omega
    simp only [decide_eq_false he, Tr.dom, Tr.ok, Tr.val, Bool.and_false, cond_false, e1, e2]
    rw [hd, decide_eq_true (show 0 ≤ i from h1), decide_eq_true (show i < ((l.length : Nat) : Int) by omega)]
    exact ⟨by first | trivial | rfl, ⟨show 0 ≤ i + 1 by omega, by unfold maxLen; exact h2⟩, r1, r2⟩

theorem signed_ok {s : List Int × Int} (h : srcOk s) {k : Int} (hk : 0 < k) (hk2 : k ≤ 1099511627776) : dom_armplanmake_Source_Signed s k = true ∧ srcOk (armplanmake_Source_Signed s k).2 ∧ -k ≤ (armplanmake_Source_Signed s k).1 ∧ (armplanmake_Source_Signed s k).1 ≤ k := by
  have e1 : IntKind.wrap .i64 (2 * k) = 2 * k := wrap64 (by omega) (by omega)
  have e2 : IntKind.wrap .i64 (2 * k + 1) = 2 * k + 1 := wrap64 (by omega) (by omega)
  obtain ⟨d, o, b1, b2⟩ := next_ok h (k := 2 * k + 1) (by omega) (by omega)
  unfold dom_armplanmake_Source_Signed armplanmake_Source_Signed t_armplanmake_Source_Signed
  simp only [e1, e2, d, Tr.dom, Tr.ok, Tr.val, Bool.and_false, cond_false, cond_true]
  rw [wrap64 (by omega) (by omega)]
  exact ⟨by first | trivial | rfl, o, by omega, by omega⟩

end Go.RX

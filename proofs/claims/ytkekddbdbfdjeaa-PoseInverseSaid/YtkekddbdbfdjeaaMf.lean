/-
  Laws of the poses: what is composed and applied; motions out of a source.
-/
import Derived.Test.YtkekddbdbfdjeaaMe
import Derived.Test.YtkekddbdbfdjeaaFD
namespace Go.RX
open Go

abbrev P4 := M3 × V3
def compP (p q : P4) : P4 := (compM p.1 q.1, addV p.2 (applyM p.1 q.2))
def apP (p : P4) (v : V3) : V3 := addV p.2 (applyM p.1 v)
def negV (v : V3) : V3 := (nega v.1, (nega v.2.1, nega v.2.2))
def invP (p : P4) : P4 := (trn p.1, negV (applyM (trn p.1) p.2))
def wtnP (p q : P4) : Bool := wtnM p.1 q.1 && wtnV p.2 q.2
def zeroV : V3 := ((0, 0), ((0, 0), (0, 0)))

theorem compPF (p q : P4) : pose_Compose p q = compP p q := by
  unfold pose_Compose t_pose_Compose compP
  simp only [Tr.val, compF, applyF, addVF]
theorem compPR (p q : P4) : armplanref1_Compose p q = compP p q := by
  unfold armplanref1_Compose t_armplanref1_Compose compP
  simp only [Tr.val, compR, applyR, addVR]
theorem apPF (p : P4) (v : V3) : pose_Apply p v = apP p v := by
  unfold pose_Apply t_pose_Apply apP
  simp only [Tr.val, applyF, addVF]
theorem apPR (p : P4) (v : V3) : armplanref1_Apply p v = apP p v := by
  unfold armplanref1_Apply t_armplanref1_Apply apP
  simp only [Tr.val, applyR, addVR]
theorem invPF (p : P4) : pose_Inverse p = invP p := by
  unfold pose_Inverse t_pose_Inverse invP negV
  simp only [Tr.val, trnF, applyF, negF]
theorem invPR (p : P4) : armplanref1_Inverse p = invP p := by
  unfold armplanref1_Inverse t_armplanref1_Inverse invP negV
  simp only [Tr.val, trnR, applyR, negR]
theorem wtnPF (p q : P4) : pose_Within p q = wtnP p q := by
  unfold pose_Within t_pose_Within wtnP
  simp only [Tr.val, withinMF, withinVF]
  cases wtnM p.1 q.1 <;> rfl
theorem wtnPR (p q : P4) : armplanref1_WithinPose p q = wtnP p q := by
  unfold armplanref1_WithinPose t_armplanref1_WithinPose wtnP
  simp only [Tr.val, withinMR, withinVR]
  cases wtnM p.1 q.1 <;> rfl
theorem shiftF (v : V3) : pose_Shift v = (unitM, v) := by
  unfold pose_Shift t_pose_Shift
  simp only [Tr.val, unitF]
theorem shiftR (v : V3) : armplanref1_Shift v = (unitM, v) := by
  unfold armplanref1_Shift t_armplanref1_Shift
  simp only [Tr.val, unitR]
theorem turnPF (k : Int) (a : Int × Int) : pose_Turn k a = (turnM k a, zeroV) := by
  unfold pose_Turn t_pose_Turn
  simp only [Tr.val, turnF]; rfl
theorem turnPR (k : Int) (a : Int × Int) : armplanref1_TurnPose k a = (turnM k a, zeroV) := by
  unfold armplanref1_TurnPose t_armplanref1_TurnPose
  simp only [Tr.val, Go.RX.turnR]; rfl
theorem restF : pose_Identity = (unitM, zeroV) := by
  unfold pose_Identity t_pose_Identity
  simp only [Tr.val, unitF]; rfl
theorem restR : armplanref1_Rest = (unitM, zeroV) := by
  unfold armplanref1_Rest t_armplanref1_Rest
  simp only [Tr.val, unitR]; rfl
theorem awake5 : armplanlaw5_awake = true := by kernel_rfl
theorem applies5 (p q : P4) (v : V3) : armplanlaw5_applies p q v = true := by
  unfold armplanlaw5_applies t_armplanlaw5_applies
  simp [Tr.val, apPF, apPR, invPF, invPR, wtnPF, wtnPR]

/- NEUTRAL ELEMENTS -/

theorem mulOne {x : Int × Int} (v : vld x = true) : mulI (65536, 65536) x = x := by
  have b := vld_bd v
  unfold mulI mn4 mx4
  rw [v, show vld (65536, 65536) = true from rfl]
  simp only [Bool.and_true, cond_true]
  rw [show min (min (65536 * x.1) (65536 * x.2)) (min (65536 * x.1) (65536 * x.2)) = 65536 * x.1 by omega, show max (max (65536 * x.1) (65536 * x.2)) (max (65536 * x.1) (65536 * x.2)) = 65536 * x.2 by omega,
    show 65536 * x.1 / 65536 = x.1 by omega, show -(-(65536 * x.2) / 65536) = x.2 by omega, lim_in (by omega) (by omega), lim_in (by omega) (by omega)]
theorem oneMul {x : Int × Int} (v : vld x = true) : mulI x (65536, 65536) = x := by
  have b := vld_bd v
  unfold mulI mn4 mx4
  rw [v, show vld (65536, 65536) = true from rfl]
  simp only [Bool.and_true, cond_true]
  rw [show min (min (x.1 * 65536) (x.1 * 65536)) (min (x.2 * 65536) (x.2 * 65536)) = 65536 * x.1 by omega, show max (max (x.1 * 65536) (x.1 * 65536)) (max (x.2 * 65536) (x.2 * 65536)) = 65536 * x.2 by omega,
    show 65536 * x.1 / 65536 = x.1 by omega, show -(-(65536 * x.2) / 65536) = x.2 by omega, lim_in (by omega) (by omega), lim_in (by omega) (by omega)]
theorem mulZero {x : Int × Int} (v : vld x = true) : mulI (0, 0) x = (0, 0) := by
  unfold mulI mn4 mx4
  rw [v, show vld (0, 0) = true from rfl]
  simp only [Bool.and_true, cond_true, Int.zero_mul]
  rfl
theorem zeroMul {x : Int × Int} (v : vld x = true) : mulI x (0, 0) = (0, 0) := by
  unfold mulI mn4 mx4
  rw [v, show vld (0, 0) = true from rfl]
  simp only [Bool.and_true, cond_true, Int.mul_zero]
  rfl
theorem addZero {x : Int × Int} (v : vld x = true) : addI x (0, 0) = x := by
  have b := vld_bd v
  unfold addI
  rw [v, show vld (0, 0) = true from rfl]
  simp only [Bool.and_true, cond_true, Int.add_zero]
  rw [lim_in (by omega) (by omega), lim_in (by omega) (by omega)]
theorem zeroAdd {x : Int × Int} (v : vld x = true) : addI (0, 0) x = x := by
  have b := vld_bd v
  unfold addI
  rw [v, show vld (0, 0) = true from rfl]
  simp only [Bool.and_true, cond_true, Int.zero_add]
  rw [lim_in (by omega) (by omega), lim_in (by omega) (by omega)]
theorem vld_add (x y : Int × Int) : vld (addI x y) = true := by
  unfold addI
  cases hx : vld x with
  | false => rfl
  | true =>
    cases hy : vld y with
    | false => rfl
    | true =>
      have b := vld_bd hx
      have c := vld_bd hy
      have l1 := lim_bd (x.1 + y.1)
      have l2 := lim_bd (x.2 + y.2)
      exact vld_mk l1.1 (lim_mono (by omega)) l2.2
theorem vld_0 : vld (0, 0) = true := rfl

def smI (x : Int × Int) : Prop := -65536 ≤ x.1 ∧ x.1 ≤ x.2 ∧ x.2 ≤ 65536
def smV (v : V3) : Prop := smI v.1 ∧ smI v.2.1 ∧ smI v.2.2
def smM (m : M3) : Prop := smV m.1 ∧ smV m.2.1 ∧ smV m.2.2
def vV (v : V3) : Prop := vld v.1 = true ∧ vld v.2.1 = true ∧ vld v.2.2 = true
def vM (m : M3) : Prop := vV m.1 ∧ vV m.2.1 ∧ vV m.2.2

theorem sm_vld {x : Int × Int} (h : smI x) : vld x = true := vld_mk (by have := h.1; omega) h.2.1 (by have := h.2.2; omega)
theorem sm_vV {v : V3} (h : smV v) : vV v := ⟨sm_vld h.1, sm_vld h.2.1, sm_vld h.2.2⟩
theorem sm_vM {m : M3} (h : smM m) : vM m := ⟨sm_vV h.1, sm_vV h.2.1, sm_vV h.2.2⟩
theorem cl_sm {x : Int × Int} (h : smI x) : cl x = x := by
  obtain ⟨h1, h2, h3⟩ := h
  unfold cl cl1
  exact Prod.ext (by dsimp only; omega) (by dsimp only; omega)
theorem sm_cl {x : Int × Int} (h : vld x = true) : smI (cl x) := by
  have := vld_bd h
  unfold cl cl1 smI
  exact ⟨by dsimp only; omega, by dsimp only; omega, by dsimp only; omega⟩
theorem vld_dot (x y : V3) : vld (dotI x y) = true := vld_add _ _
theorem sm_comp (a b : M3) : smM (compM a b) := ⟨⟨sm_cl (vld_dot _ _), sm_cl (vld_dot _ _), sm_cl (vld_dot _ _)⟩, ⟨sm_cl (vld_dot _ _), sm_cl (vld_dot _ _), sm_cl (vld_dot _ _)⟩, ⟨sm_cl (vld_dot _ _), sm_cl (vld_dot _ _), sm_cl (vld_dot _ _)⟩⟩
theorem v_apply (m : M3) (v : V3) : vV (applyM m v) := ⟨vld_dot _ _, vld_dot _ _, vld_dot _ _⟩
theorem v_add (u v : V3) : vV (addV u v) := ⟨vld_add _ _, vld_add _ _, vld_add _ _⟩
theorem sm_0 : smI (0, 0) := ⟨by decide, by decide, by decide⟩
theorem sm_1 : smI (65536, 65536) := ⟨by decide, by decide, by decide⟩
theorem sm_nega {x : Int × Int} (h : smI x) : smI (nega x) := by
  have v := sm_vld h
  obtain ⟨h1, h2, h3⟩ := h
  unfold nega
  rw [v]
  exact ⟨by dsimp only [cond_true]; omega, by dsimp only [cond_true]; omega, by dsimp only [cond_true]; omega⟩
theorem sm_turn (k : Int) (a : Int × Int) : smM (turnM k a) := by
  have c : smI (ov 16384 a) := ov_bd 16384 a
  have s : smI (ov 0 a) := ov_bd 0 a
  have n := sm_nega s
  have z := sm_0
  have o := sm_1
  unfold turnM
  cases vld a with
  | false => exact ⟨⟨z, z, z⟩, ⟨z, z, z⟩, ⟨z, z, z⟩⟩
  | true =>
    simp only [cond_true]
    split
    · exact ⟨⟨o, z, z⟩, ⟨z, c, n⟩, ⟨z, s, c⟩⟩
    split
    · exact ⟨⟨c, z, s⟩, ⟨z, o, z⟩, ⟨n, z, c⟩⟩
    split
    · exact ⟨⟨c, n, z⟩, ⟨s, c, z⟩, ⟨z, z, o⟩⟩
    · exact ⟨⟨z, z, z⟩, ⟨z, z, z⟩, ⟨z, z, z⟩⟩
theorem sm_unit : smM unitM := ⟨⟨sm_1, sm_0, sm_0⟩, ⟨sm_0, sm_1, sm_0⟩, ⟨sm_0, sm_0, sm_1⟩⟩

theorem ap_zero {m : M3} (h : vM m) : applyM m zeroV = zeroV := by
  obtain ⟨⟨a, b, c⟩, ⟨d, e, f⟩, ⟨g, i, j⟩⟩ := h
  unfold applyM dotI zeroV
  simp only [zeroMul a, zeroMul b, zeroMul c, zeroMul d, zeroMul e, zeroMul f, zeroMul g, zeroMul i, zeroMul j, addZero vld_0]
theorem ap_unit {v : V3} (h : vV v) : applyM unitM v = v := by
  obtain ⟨a, b, c⟩ := h
  unfold applyM dotI unitM
  simp only [mulOne a, mulOne b, mulOne c, mulZero a, mulZero b, mulZero c, addZero a, zeroAdd b, addZero b, addZero vld_0, zeroAdd c]
theorem addV_zero {v : V3} (h : vV v) : addV v zeroV = v := by
  obtain ⟨a, b, c⟩ := h
  unfold addV zeroV
  simp only [addZero a, addZero b, addZero c]
theorem zero_addV {v : V3} (h : vV v) : addV zeroV v = v := by
  obtain ⟨a, b, c⟩ := h
  unfold addV zeroV
  simp only [zeroAdd a, zeroAdd b, zeroAdd c]
theorem comp_unit {m : M3} (h : smM m) : compM m unitM = m := by
  obtain ⟨⟨a, b, c⟩, ⟨d, e, f⟩, ⟨g, i, j⟩⟩ := h
  unfold compM rowM dotI trn unitM
  simp only [oneMul (sm_vld a), oneMul (sm_vld b), oneMul (sm_vld c), oneMul (sm_vld d), oneMul (sm_vld e), oneMul (sm_vld f), oneMul (sm_vld g), oneMul (sm_vld i), oneMul (sm_vld j),
    zeroMul (sm_vld a), zeroMul (sm_vld b), zeroMul (sm_vld c), zeroMul (sm_vld d), zeroMul (sm_vld e), zeroMul (sm_vld f), zeroMul (sm_vld g), zeroMul (sm_vld i), zeroMul (sm_vld j),
    addZero (sm_vld a), addZero (sm_vld b), addZero (sm_vld d), addZero (sm_vld e), addZero (sm_vld g), addZero (sm_vld i), addZero vld_0,
    zeroAdd (sm_vld b), zeroAdd (sm_vld c), zeroAdd (sm_vld e), zeroAdd (sm_vld f), zeroAdd (sm_vld i), zeroAdd (sm_vld j),
    cl_sm a, cl_sm b, cl_sm c, cl_sm d, cl_sm e, cl_sm f, cl_sm g, cl_sm i, cl_sm j]
theorem unit_comp {m : M3} (h : smM m) : compM unitM m = m := by
  obtain ⟨⟨a, b, c⟩, ⟨d, e, f⟩, ⟨g, i, j⟩⟩ := h
  unfold compM rowM dotI trn unitM
  simp only [mulOne (sm_vld a), mulOne (sm_vld b), mulOne (sm_vld c), mulOne (sm_vld d), mulOne (sm_vld e), mulOne (sm_vld f), mulOne (sm_vld g), mulOne (sm_vld i), mulOne (sm_vld j),
    mulZero (sm_vld a), mulZero (sm_vld b), mulZero (sm_vld c), mulZero (sm_vld d), mulZero (sm_vld e), mulZero (sm_vld f), mulZero (sm_vld g), mulZero (sm_vld i), mulZero (sm_vld j),
    addZero (sm_vld a), addZero (sm_vld b), addZero (sm_vld c), addZero (sm_vld d), addZero (sm_vld e), addZero (sm_vld f), addZero vld_0,
    zeroAdd (sm_vld d), zeroAdd (sm_vld e), zeroAdd (sm_vld f), zeroAdd (sm_vld g), zeroAdd (sm_vld i), zeroAdd (sm_vld j),
    cl_sm a, cl_sm b, cl_sm c, cl_sm d, cl_sm e, cl_sm f, cl_sm g, cl_sm i, cl_sm j]

/- MOTIONS -/

def ptV (t : E3) : V3 := ((t.1, t.1), ((t.2.1, t.2.1), (t.2.2, t.2.2)))
def bdE (t : E3) (B : Int) : Prop := (-B ≤ t.1 ∧ t.1 ≤ B) ∧ (-B ≤ t.2.1 ∧ t.2.1 ≤ B) ∧ (-B ≤ t.2.2 ∧ t.2.2 ≤ B)
theorem pt_v {t : E3} {B : Int} (h : bdE t B) (hB : B ≤ 2147483648) : vV (ptV t) := by
  obtain ⟨⟨a, b⟩, ⟨c, d⟩, ⟨e, f⟩⟩ := h
  exact ⟨vld_mk (by dsimp only [ptV]; omega) (Int.le_refl _) (by dsimp only [ptV]; omega), vld_mk (by dsimp only [ptV]; omega) (Int.le_refl _) (by dsimp only [ptV]; omega), vld_mk (by dsimp only [ptV]; omega) (Int.le_refl _) (by dsimp only [ptV]; omega)⟩
theorem pt_point {t : E3} {B : Int} (h : bdE t B) (hB : B ≤ 2147483648) : pointV t = ptV t := by
  obtain ⟨⟨a, b⟩, ⟨c, d⟩, ⟨e, f⟩⟩ := h
  unfold pointV ptV
  rw [lim_in (by omega) (by omega), lim_in (by omega) (by omega), lim_in (by omega) (by omega)]

/-- A motion: small entries, with a rotation in it; the shift is a point. -/
def Mo (p : P4) : Prop := smM p.1 ∧ (∃ e d, Rt p.1 e d) ∧ ∃ t, bdE t 196608 ∧ p.2 = ptV t

theorem rt_over {k : Int} {a : Int × Int} (k1 : 0 ≤ k) (k2 : k < 3) (hv : vld a = true) : ∃ e d, Rt (turnM k a) e d := by
  obtain ⟨c, s, d, hd, hc, is, ic⟩ := exactS a.1
  have b := vld_bd hv
  have ws := ov_contains (k := 0) hv (n := a.1) (Int.le_refl _) b.2.1
  have wc := ov_contains (k := 16384) hv (n := a.1) (Int.le_refl _) b.2.1
  rw [Int.add_zero] at ws
  have Is := in_wide is (vld_ov 0 a) ws.1 ws.2
  have Ic := in_wide ic (vld_ov 16384 a) wc.1 wc.2
  have In' := in_neg Is
  have i1 : In (65536, 65536) (65536 * d) d 65536 := in_pt hd (by decide) (by decide) (by decide)
  have i0 : In (0, 0) (65536 * 0) d 65536 := in_eq (in_pt (t := 0) hd (by decide) (by decide) (by decide)) (by simp) rfl
  rw [← Int.mul_neg] at In'
  refine ⟨axE k c s d, d, hd, rot_ax hc, ?_⟩
  have : k = 0 ∨ k = 1 ∨ k = 2 := by omega
  unfold turnM
  rw [hv]
  rcases this with rfl | rfl | rfl
  · exact ⟨⟨i1, i0, i0⟩, ⟨i0, Ic, In'⟩, ⟨i0, Is, Ic⟩⟩
  · exact ⟨⟨Ic, i0, Is⟩, ⟨i0, i1, i0⟩, ⟨In', i0, Ic⟩⟩
  · exact ⟨⟨Ic, In', i0⟩, ⟨Is, Ic, i0⟩, ⟨i0, i0, i1⟩⟩

theorem rt_unit : Rt unitM ((1, (0, 0)), ((0, (1, 0)), (0, (0, 1)))) 1 := by
  have i1 : In (65536, 65536) (65536 * 1) 1 65536 := in_pt (by decide) (by decide) (by decide) (by decide)
  have i0 : In (0, 0) (65536 * 0) 1 65536 := in_eq (in_pt (t := 0) (d := 1) (by decide) (by decide) (by decide) (by decide)) (by simp) rfl
  exact ⟨by decide, ⟨⟨by decide, by decide, by decide, by decide, by decide, by decide⟩, ⟨by decide, by decide, by decide, by decide, by decide, by decide⟩⟩, ⟨⟨i1, i0, i0⟩, ⟨i0, i1, i0⟩, ⟨i0, i0, i1⟩⟩⟩

theorem mo_shift {t : E3} (h : bdE t 196608) : Mo (armplanref1_Shift (armplanref1_Point t)) := by
  rw [shiftR, pointR, pt_point h (by decide)]
  exact ⟨sm_unit, ⟨_, _, rt_unit⟩, t, h, rfl⟩

theorem mo_step {p : P4} (h : Mo p) {k a w : Int} (k1 : 0 ≤ k) (k2 : k < 3) (a1 : -70000 ≤ a) (a2 : a ≤ 70000) (w1 : 0 ≤ w) (w2 : w < 4000) :
    Mo (armplanref1_Compose p (armplanref1_TurnPose k (a, IntKind.wrap .i64 (a + w)))) := by
  obtain ⟨hs, ⟨e, d, he⟩, t, ht, hp⟩ := h
  rw [wrap64 (by omega) (by omega), compPR, turnPR]
  have hv : vld (a, a + w) = true := vld_mk (by dsimp only; omega) (by dsimp only; omega) (by dsimp only; omega)
  obtain ⟨f, d', hf⟩ := rt_over k1 k2 hv
  refine ⟨sm_comp _ _, ⟨_, _, rt_comp he hf⟩, t, ht, ?_⟩
  show addV p.2 (applyM p.1 zeroV) = ptV t
  rw [ap_zero (sm_vM hs), hp, addV_zero (pt_v ht (by decide))]

theorem motion_ok {s : List Int × Int} (h : srcOk s) (w : Bool) : dom_armplanlaw5_motion s w = true ∧ srcOk (armplanlaw5_motion s w).2 ∧ Mo (armplanlaw5_motion s w).1 := by
  unfold dom_armplanlaw5_motion armplanlaw5_motion t_armplanlaw5_motion
  simp only [Tr.dom, Tr.ok, Tr.val]
  obtain ⟨d1, o1, a1, b1⟩ := signed_ok h (k := 196608) (by omega) (by omega)
  generalize armplanmake_Source_Signed s 196608 = r1 at *
  obtain ⟨d2, o2, a2, b2⟩ := signed_ok o1 (k := 196608) (by omega) (by omega)
  generalize armplanmake_Source_Signed r1.2 196608 = r2 at *
  obtain ⟨d3, o3, a3, b3⟩ := signed_ok o2 (k := 196608) (by omega) (by omega)
  generalize armplanmake_Source_Signed r2.2 196608 = r3 at *
  obtain ⟨d6, o6, a6, b6⟩ := next_ok o3 (k := 3) (by omega) (by omega)
  generalize armplanmake_Source_Next r3.2 3 = r6 at *
  obtain ⟨d8, o8, a8, b8⟩ := signed_ok o6 (k := 70000) (by omega) (by omega)
  generalize armplanmake_Source_Signed r6.2 70000 = r8 at *
  obtain ⟨d9, o9, a9, b9⟩ := next_ok o8 (k := 4000) (by omega) (by omega)
  generalize armplanmake_Source_Next r8.2 4000 = r9 at *
  obtain ⟨d10, o10, a10, b10⟩ := next_ok o9 (k := 3) (by omega) (by omega)
  generalize armplanmake_Source_Next r9.2 3 = r10 at *
  obtain ⟨d16, o16, a16, b16⟩ := signed_ok o10 (k := 70000) (by omega) (by omega)
  generalize armplanmake_Source_Signed r10.2 70000 = r16 at *
  obtain ⟨d17, o17, a17, b17⟩ := next_ok o16 (k := 4000) (by omega) (by omega)
  generalize armplanmake_Source_Next r16.2 4000 = r17 at *
  obtain ⟨d18, o18, a18, b18⟩ := next_ok o17 (k := 3) (by omega) (by omega)
  generalize armplanmake_Source_Next r17.2 3 = r18 at *
  have m0 : Mo (armplanref1_Shift (armplanref1_Point (r1.1, (r2.1, r3.1)))) := mo_shift ⟨⟨a1, b1⟩, ⟨a2, b2⟩, ⟨a3, b3⟩⟩
  generalize armplanref1_Shift (armplanref1_Point (r1.1, (r2.1, r3.1))) = p0 at *
  have z1 : (0 : Int) ≤ 0 := by decide
  have z2 : (0 : Int) < 4000 := by decide
  have e0 : IntKind.wrap .i64 ((1 : Int) - 1) = 0 := rfl
  have e1 : IntKind.wrap .i64 ((2 : Int) - 1) = 1 := rfl
  have hr : r6.1 = 0 ∨ r6.1 = 1 ∨ r6.1 = 2 := by omega
  have t0 : decide ((0 : Int) < 0) = false := rfl
  have t1 : decide ((0 : Int) < 1) = true := rfl
  have t2 : decide ((0 : Int) < 2) = true := rfl
  rcases hr with hr | hr | hr
  · simp only [d1, d2, d3, d6, hr, t0, cond_true, cond_false]
    exact ⟨by first | trivial | rfl, o6, m0⟩
  · cases w with
    | true =>
      simp only [d1, d2, d3, d6, d8, d9, d10, hr, e0, t0, t1, cond_true, cond_false, Bool.not_true]
      exact ⟨by first | trivial | rfl, o10, mo_step m0 a10 b10 a8 b8 a9 b9⟩
    | false =>
      simp only [d1, d2, d3, d6, d8, d9, d10, hr, e0, t0, t1, cond_true, cond_false, Bool.not_false]
      exact ⟨by first | trivial | rfl, o10, mo_step m0 a10 b10 a8 b8 z1 z2⟩
  · cases w with
    | true =>
      simp only [d1, d2, d3, d6, d8, d9, d10, d16, d17, d18, hr, e0, e1, t0, t1, t2, cond_true, cond_false, Bool.not_true]
      exact ⟨by first | trivial | rfl, o18, mo_step (mo_step m0 a10 b10 a8 b8 a9 b9) a18 b18 a16 b16 a17 b17⟩
    | false =>
      simp only [d1, d2, d3, d6, d8, d9, d10, d16, d17, d18, hr, e0, e1, t0, t1, t2, cond_true, cond_false, Bool.not_false]
      exact ⟨by first | trivial | rfl, o18, mo_step (mo_step m0 a10 b10 a8 b8 z1 z2) a18 b18 a16 b16 z1 z2⟩

/- THE LAWS -/

theorem pcomposes_law (a b : P4) (v : V3) (k : Int) (x : Int × Int) {l : List Int} (hl : l.length ≤ maxLen) : dom_armplanlaw5_PoseComposes a b v k x l = true ∧ armplanlaw5_PoseComposes a b v k x l = true := by
  obtain ⟨d1, o1, _⟩ := motion_ok (src0 hl) true
  obtain ⟨d2, o2, _⟩ := motion_ok o1 true
  unfold dom_armplanlaw5_PoseComposes armplanlaw5_PoseComposes t_armplanlaw5_PoseComposes
  simp [d1, d2, awake5, restF, restR, shiftF, shiftR, turnPF, turnPR, compPF, compPR, Tr.dom, Tr.ok, Tr.val]

theorem papplies_law (a b : P4) (v : V3) {l : List Int} (hl : l.length ≤ maxLen) : dom_armplanlaw5_PoseApplies a b v l = true ∧ armplanlaw5_PoseApplies a b v l = true := by
  obtain ⟨d1, o1, _⟩ := motion_ok (src0 hl) true
  obtain ⟨d2, o2, _⟩ := motion_ok o1 false
  obtain ⟨d3, o3, _⟩ := signed_ok o2 (k := 70000) (by omega) (by omega)
  obtain ⟨d4, o4, _⟩ := signed_ok o3 (k := 70000) (by omega) (by omega)
  obtain ⟨d5, o5, _⟩ := signed_ok o4 (k := 70000) (by omega) (by omega)
  unfold dom_armplanlaw5_PoseApplies armplanlaw5_PoseApplies t_armplanlaw5_PoseApplies
  simp [d1, d2, d3, d4, d5, awake5, applies5, Tr.dom, Tr.ok, Tr.val]

theorem mo_v {p : P4} (h : Mo p) : vV p.2 := by
  obtain ⟨_, _, t, ht, hp⟩ := h
  rw [hp]; exact pt_v ht (by decide)

theorem neutral_law {l : List Int} (hl : l.length ≤ maxLen) (w : Bool) : dom_armplanlaw5_PoseNeutral l w = true ∧ armplanlaw5_PoseNeutral l w = true := by
  obtain ⟨d1, o1, m⟩ := motion_ok (src0 hl) w
  unfold dom_armplanlaw5_PoseNeutral armplanlaw5_PoseNeutral t_armplanlaw5_PoseNeutral
  simp only [Tr.dom, Tr.ok, Tr.val, restF, compPF, apPF, awake5, d1]
  generalize armplanlaw5_motion (l, 0) w = p at *
  have v := mo_v m
  have e1 : compP p.1 (unitM, zeroV) = p.1 := by
    unfold compP
    rw [comp_unit m.1, ap_zero (sm_vM m.1), addV_zero v]
  have e2 : compP (unitM, zeroV) p.1 = p.1 := by
    unfold compP
    rw [unit_comp m.1, ap_unit v, zero_addV v]
  have e3 : apP (unitM, zeroV) p.1.2 = p.1.2 := by
    unfold apP
    rw [ap_unit v, zero_addV v]
  rw [e1, e2, e3]
  simp

theorem shifts_law (a b : Int × (Int × Int)) {l : List Int} (hl : l.length ≤ maxLen) : dom_armplanlaw5_PoseShifts a b l = true ∧ armplanlaw5_PoseShifts a b l = true := by
  obtain ⟨d1, o1, m⟩ := motion_ok (src0 hl) true
  unfold dom_armplanlaw5_PoseShifts armplanlaw5_PoseShifts t_armplanlaw5_PoseShifts
  simp only [Tr.dom, Tr.ok, Tr.val, shiftF, shiftR, compPF, addVR, pointR, awake5, d1]
  generalize armplanlaw5_motion (l, 0) true = p at *
  have v := mo_v m
  have vb : vV (pointV b) := by
    have h1 := lim_bd b.1
    have h2 := lim_bd b.2.1
    have h3 := lim_bd b.2.2
    exact ⟨vld_mk h1.1 (Int.le_refl _) h1.2, vld_mk h2.1 (Int.le_refl _) h2.2, vld_mk h3.1 (Int.le_refl _) h3.2⟩
  have e1 : compP (unitM, pointV a) (unitM, pointV b) = (unitM, addV (pointV a) (pointV b)) := by
    unfold compP
    rw [unit_comp sm_unit, ap_unit vb]
  have e2 : compP (unitM, pointV a) p.1 = (p.1.1, addV (pointV a) p.1.2) := by
    unfold compP
    rw [unit_comp m.1, ap_unit v]
  rw [e1, e2]
  simp

end Go.RX

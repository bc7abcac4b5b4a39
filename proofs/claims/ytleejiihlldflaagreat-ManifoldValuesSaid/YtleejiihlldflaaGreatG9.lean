/-
  Manifolds, part 1: normals, products, boxes within the limits.
-/
import Derived.Test.YtleejiihlldflaaGreatG8
import Derived.Test.YtleejiihlldflaaGreatG5
namespace Go.RX
open Go

theorem range_getD {n i : Nat} (h : i < n) : (List.range n).getD i 0 = i := by
  rw [List.getD_eq_getElem?_getD, List.getElem?_range h]; rfl

/-- A loop over indices that leaves at the first one that fails. -/
theorem idx_scan {X Y : Type} {step : X → Option (X ⊕ Y)} [Inhabited Y] (f : Nat → X) (p : Nat → Bool) (b e : Y) (N : Nat) (hN : N < 9223372036854775807)
    (hmore : ∀ i, i < N → step (f i) = some (bif p i then .inl (f (i + 1)) else .inr b)) (hend : step (f N) = some (.inr e)) :
    (loopN step rounds (f 0)).isSome = true ∧ (loopN step rounds (f 0)).getD default = bif (List.range N).all p then e else b := by
  refine all_scan f p 0 b e (List.range N) (by rw [List.length_range]; exact hN) (fun i hi => ?_) (by rw [List.length_range]; exact hend)
  rw [List.length_range] at hi
  rw [range_getD hi]; exact hmore i hi

/- NORMALS -/

def usB (v : DVec) : Bool := nearV 16384 v && !(decide (v.1 = 0) && (decide (v.2.1 = 0) && decide (v.2.2 = 0)))
theorem fits_eq (v : DVec) : support_fits v = nearV 16384 v := by
  unfold support_fits t_support_fits nearV
  simp only [Tr.val, not_lt_dec]
  cases decide (v.1 < -16384) <;> cases decide (16384 < v.1) <;> cases decide (v.2.1 < -16384) <;> cases decide (16384 < v.2.1) <;> cases decide (v.2.2 < -16384) <;> cases decide (16384 < v.2.2) <;> rfl
theorem usableF (v : DVec) : support_Usable v = usB v := by
  unfold support_Usable t_support_Usable usB
  simp only [Tr.val, fits_eq, Bool.and_true]
  cases nearV 16384 v <;> rfl
theorem usableR (v : DVec) : armplanref10_Usable v = usB v := by
  unfold armplanref10_Usable t_armplanref10_Usable usB
  rw [near_eq v 16384 (by decide) (by decide)]
  simp only [Tr.val, Bool.and_true]
  cases nearV 16384 v <;> cases (decide (v.1 = 0) && (decide (v.2.1 = 0) && decide (v.2.2 = 0))) <;> rfl

/- BOXES WITHIN THE LIMITS -/

def limJ (j : DJoint) : Int × Int := (j.2.2.2.2.1, j.2.2.2.2.2.1)
def insB (r : DRobot) (b : List (Int × Int)) : Bool := decide (robotErr r = 0) && (decide (((r.1.length : Nat) : Int) = ((b.length : Nat) : Int)) && (List.range r.1.length).all fun i => wtn (b.getD i dB) (limJ (r.1.getD i dJ)))

theorem insF (r : DRobot) (b : List (Int × Int)) : dom_config_InsideBox r b = true ∧ config_InsideBox r b = insB r b := by
  unfold dom_config_InsideBox config_InsideBox t_config_InsideBox insB
  obtain ⟨d1, v1⟩ := robotF r
  by_cases c0 : robotErr r = 0
  · have hn := robot_ok0 c0
    by_cases c1 : ((r.1.length : Nat) : Int) = ((b.length : Nat) : Int)
    · have key : dom_config_InsideBox_config_all_api_Joint_api_Interval__L0 ((r.1, ()), (b, ()), (0, ()), ()) = true ∧ val_config_InsideBox_config_all_api_Joint_api_Interval__L0 ((r.1, ()), (b, ()), (0, ()), ()) =
          bif (List.range r.1.length).all fun i => wtn (b.getD i dB) (limJ (r.1.getD i dJ)) then .inl ((r.1, ()), (b, ()), ()) else .inr ((false, ()), ()) := by
        unfold dom_config_InsideBox_config_all_api_Joint_api_Interval__L0 val_config_InsideBox_config_all_api_Joint_api_Interval__L0
        refine idx_scan (step := step_config_InsideBox_config_all_api_Joint_api_Interval__L0) (fun i => ((r.1, ()), (b, ()), ((i : Int), ()), ())) _ _ _ r.1.length (by omega) (fun i hi => ?_) ?_
        · have e : IntKind.wrap .i64 ((i : Int) + 1) = ((i + 1 : Nat) : Int) := wrap_succ (by omega)
          have hw : config_InsideBox_1 (List.getD r.1 i (Ty.dflt TJoint)) (List.getD b i (Ty.dflt (.pair (.int .i64) (.int .i64)))) = wtn (b.getD i dB) (limJ (r.1.getD i dJ)) := by
            unfold config_InsideBox_1 t_config_InsideBox_1 config_limits t_config_limits limJ
            simp only [Tr.val, withinF]
          unfold step_config_InsideBox_config_all_api_Joint_api_Interval__L0 t_config_InsideBox_config_all_api_Joint_api_Interval__L0
          simp only [Tr.optA, dT c1, dT (show (i : Int) < (r.1.length : Int) by omega), dT (show (i : Int) < (b.length : Int) by omega), dT (show 0 ≤ (i : Int) by omega), Int.toNat_natCast, hw, e, Bool.and_self, cond_true, id]
          cases wtn (b.getD i dB) (limJ (r.1.getD i dJ)) <;> rfl
        · unfold step_config_InsideBox_config_all_api_Joint_api_Interval__L0 t_config_InsideBox_config_all_api_Joint_api_Interval__L0
          simp only [Tr.optA, dT c1, dF (show ¬ ((r.1.length : Int) < (r.1.length : Int)) by omega), cond_true, cond_false, id]
      simp only [Tr.dom, Tr.ok, Tr.val, d1, v1, dT c0, key.1, key.2, cond_true, Bool.true_and]
      cases (List.range r.1.length).all fun i => wtn (b.getD i dB) (limJ (r.1.getD i dJ)) with
      | true => simp only [cond_true, isL, getL, dT c1]; exact ⟨by first | trivial | rfl, by first | trivial | rfl⟩
      | false => simp only [cond_false, isL, getR]; exact ⟨by first | trivial | rfl, by rw [dT c1]; first | trivial | rfl⟩
    · have key : dom_config_InsideBox_config_all_api_Joint_api_Interval__L0 ((r.1, ()), (b, ()), (0, ()), ()) = true ∧ val_config_InsideBox_config_all_api_Joint_api_Interval__L0 ((r.1, ()), (b, ()), (0, ()), ()) = .inl ((r.1, ()), (b, ()), ()) := by
        unfold dom_config_InsideBox_config_all_api_Joint_api_Interval__L0 val_config_InsideBox_config_all_api_Joint_api_Interval__L0
        refine loop_to (step := step_config_InsideBox_config_all_api_Joint_api_Interval__L0) (fun i => ((r.1, ()), (b, ()), ((i : Int), ()), ())) _ 0 (by omega) (fun i hi => by omega) ?_
        unfold step_config_InsideBox_config_all_api_Joint_api_Interval__L0 t_config_InsideBox_config_all_api_Joint_api_Interval__L0
        simp only [Tr.optA, dF c1, cond_false, id]
      simp only [Tr.dom, Tr.ok, Tr.val, d1, v1, dT c0, dF c1, key.1, key.2, isL, getL, cond_true, Bool.true_and, Bool.false_and]
      exact ⟨by first | trivial | rfl, by first | trivial | rfl⟩
  · simp only [Tr.dom, Tr.ok, Tr.val, d1, v1, dF c0, cond_true, cond_false, Bool.false_and]
    exact ⟨by first | trivial | rfl, by first | trivial | rfl⟩

end Go.RX

/-
  Manifolds, part 2: constraints that are valid.
-/
namespace Go.RX
open Go

def properB (n : Int) (c : DConstraint) : Bool := (decide (c.1 = 0) || decide (c.1 = 1)) && (!decide (c.2.1 < 0) && (!decide (n ≤ c.2.1) && (nearV 4194304 c.2.2.1 && (usB c.2.2.2.1 && (!decide (c.2.2.2.2.2 < c.2.2.2.2.1) && (!decide (c.2.2.2.2.1 < -70368744177664) && !decide (70368744177664 < c.2.2.2.2.2)))))))

theorem proper_eq (r : DRobot) (c : DConstraint) : manifold_proper r c = properB ((r.1.length : Nat) : Int) c := by
  unfold manifold_proper t_manifold_proper properB nearV
  simp only [Tr.val, usableF, not_lt_dec]
  cases decide (c.1 = 0) <;> cases decide (c.1 = 1) <;> cases decide (c.2.1 < 0) <;> cases decide (c.2.1 < ((r.1.length : Nat) : Int)) <;> cases decide (c.2.2.1.1 < -4194304) <;> cases decide (4194304 < c.2.2.1.1) <;>
    cases decide (c.2.2.1.2.1 < -4194304) <;> cases decide (4194304 < c.2.2.1.2.1) <;> cases decide (c.2.2.1.2.2 < -4194304) <;> cases decide (4194304 < c.2.2.1.2.2) <;> first | rfl |
    (cases usB c.2.2.2.1 <;> cases decide (c.2.2.2.2.1 < -70368744177664) <;> cases decide (c.2.2.2.2.2 < c.2.2.2.2.1) <;> rfl)

def chkB (r : DRobot) (l : List DConstraint) : Bool := decide (robotErr r = 0) && (!decide (8 < ((l.length : Nat) : Int)) && l.all (properB ((r.1.length : Nat) : Int)))

theorem checkF (r : DRobot) (l : List DConstraint) : dom_manifold_Check r l = true ∧ manifold_Check r l = chkB r l := by
  unfold dom_manifold_Check manifold_Check t_manifold_Check chkB
  obtain ⟨d1, v1⟩ := robotF r
  by_cases c0 : robotErr r = 0
  · by_cases c1 : 8 < ((l.length : Nat) : Int)
    · simp only [Tr.dom, Tr.ok, Tr.val, d1, v1, dT c0, dT c1, cond_true, Bool.not_true, cond_false, Bool.true_and, Bool.false_and]
      exact ⟨by first | trivial | rfl, by first | trivial | rfl⟩
    · have key : dom_manifold_Check_L0 ((r, ()), (l, ()), (((l.length : Nat) : Int), ()), (0, ()), ()) = true ∧ val_manifold_Check_L0 ((r, ()), (l, ()), (((l.length : Nat) : Int), ()), (0, ()), ()) =
          bif l.all (properB ((r.1.length : Nat) : Int)) then .inl ((r, ()), ()) else .inr ((r, ()), (false, ()), ()) := by
        unfold dom_manifold_Check_L0 val_manifold_Check_L0
        refine all_scan (step := step_manifold_Check_L0) (fun i => ((r, ()), (l, ()), (((l.length : Nat) : Int), ()), ((i : Int), ()), ())) (properB ((r.1.length : Nat) : Int)) (Ty.dflt TConstraint) _ _ l (by omega) (fun i hi => ?_) ?_
        · have e : IntKind.wrap .i64 ((i : Int) + 1) = ((i + 1 : Nat) : Int) := wrap_succ (by omega)
          unfold step_manifold_Check_L0 t_manifold_Check_L0
          simp only [Tr.optA, dT (show (i : Int) < (l.length : Int) by omega), dT (show 0 ≤ (i : Int) by omega), Int.toNat_natCast, proper_eq, e, Bool.and_self, cond_true, id]
          cases properB ((r.1.length : Nat) : Int) (l.getD i (Ty.dflt TConstraint)) <;> rfl
        · unfold step_manifold_Check_L0 t_manifold_Check_L0
          simp only [Tr.optA, dF (show ¬ ((l.length : Int) < (l.length : Int)) by omega), cond_false, id]
      simp only [Tr.dom, Tr.ok, Tr.val, d1, v1, dT c0, dF c1, key.1, key.2, cond_true, cond_false, Bool.not_true, Bool.not_false, Bool.true_and]
      cases l.all (properB ((r.1.length : Nat) : Int)) <;> exact ⟨by first | trivial | rfl, by first | trivial | rfl⟩
  · simp only [Tr.dom, Tr.ok, Tr.val, d1, v1, dF c0, cond_true, Bool.not_false, Bool.false_and]
    exact ⟨by first | trivial | rfl, by first | trivial | rfl⟩

theorem checkR (r : DRobot) (l : List DConstraint) : dom_armplanref32_CheckConstraints r l = true ∧ armplanref32_CheckConstraints r l = chkB r l := by
  unfold dom_armplanref32_CheckConstraints armplanref32_CheckConstraints t_armplanref32_CheckConstraints chkB
  obtain ⟨d1, v1⟩ := robotR r
  by_cases c0 : robotErr r = 0
  · by_cases c1 : 8 < ((l.length : Nat) : Int)
    · simp only [Tr.dom, Tr.ok, Tr.val, d1, v1, dT c0, dT c1, cond_true, Bool.not_true, cond_false, Bool.true_and, Bool.false_and]
      exact ⟨by first | trivial | rfl, by first | trivial | rfl⟩
    · have key : dom_armplanref32_CheckConstraints_L0 ((r, ()), (l, ()), (0, ()), ()) = true ∧ val_armplanref32_CheckConstraints_L0 ((r, ()), (l, ()), (0, ()), ()) =
          bif l.all (properB ((r.1.length : Nat) : Int)) then .inl ((r, ()), ()) else .inr ((r, ()), (false, ()), ()) := by
        unfold dom_armplanref32_CheckConstraints_L0 val_armplanref32_CheckConstraints_L0
        refine all_scan (step := step_armplanref32_CheckConstraints_L0) (fun i => ((r, ()), (l, ()), ((i : Int), ()), ())) (properB ((r.1.length : Nat) : Int)) (Ty.dflt TConstraint) _ _ l (by omega) (fun i hi => ?_) ?_
        · have e : IntKind.wrap .i64 ((i : Int) + 1) = ((i + 1 : Nat) : Int) := wrap_succ (by omega)
          unfold step_armplanref32_CheckConstraints_L0 t_armplanref32_CheckConstraints_L0
          simp only [Tr.optA, dT (show (i : Int) < (l.length : Int) by omega), dT (show 0 ≤ (i : Int) by omega), Int.toNat_natCast, e, Bool.and_self, cond_true, id, near_eq _ 4194304 (show (0 : Int) ≤ 4194304 by decide) (show (4194304 : Int) ≤ 1099511627776 by decide), usableR, properB]
          cases decide ((l.getD i (Ty.dflt TConstraint)).1 = 0) <;> cases decide ((l.getD i (Ty.dflt TConstraint)).1 = 1) <;> cases decide ((l.getD i (Ty.dflt TConstraint)).2.1 < 0) <;> cases decide (((r.1.length : Nat) : Int) ≤ (l.getD i (Ty.dflt TConstraint)).2.1) <;> first | rfl |
            (cases nearV 4194304 (l.getD i (Ty.dflt TConstraint)).2.2.1 <;> cases usB (l.getD i (Ty.dflt TConstraint)).2.2.2.1 <;> cases decide ((l.getD i (Ty.dflt TConstraint)).2.2.2.2.2 < (l.getD i (Ty.dflt TConstraint)).2.2.2.2.1) <;> cases decide ((l.getD i (Ty.dflt TConstraint)).2.2.2.2.1 < -70368744177664) <;> cases decide (70368744177664 < (l.getD i (Ty.dflt TConstraint)).2.2.2.2.2) <;> rfl)
        · unfold step_armplanref32_CheckConstraints_L0 t_armplanref32_CheckConstraints_L0
          simp only [Tr.optA, dF (show ¬ ((l.length : Int) < (l.length : Int)) by omega), cond_false, id]
      simp only [Tr.dom, Tr.ok, Tr.val, d1, v1, dT c0, dF c1, key.1, key.2, cond_true, cond_false, Bool.not_true, Bool.not_false, Bool.true_and]
      cases l.all (properB ((r.1.length : Nat) : Int)) <;> exact ⟨by first | trivial | rfl, by first | trivial | rfl⟩
  · simp only [Tr.dom, Tr.ok, Tr.val, d1, v1, dF c0, cond_true, Bool.not_false, Bool.false_and]
    exact ⟨by first | trivial | rfl, by first | trivial | rfl⟩

end Go.RX

/-
  Manifolds, part 3: the values of constraints.
-/
namespace Go.RX
open Go

def reachV (v : DIVec) : Bool := shape_reaches v.1 && (shape_reaches v.2.1 && shape_reaches v.2.2)

theorem placedF (l : List DIVec) (hl : l.length ≤ 1000000) : dom_shape_Placed l = true ∧ shape_Placed l = (l.all reachV && (decide (1 ≤ ((l.length : Nat) : Int)) && decide (((l.length : Nat) : Int) ≤ 8))) := by
  have key : dom_shape_Placed_L0 ((l, ()), (((l.length : Nat) : Int), ()), (0, ()), ()) = true ∧ val_shape_Placed_L0 ((l, ()), (((l.length : Nat) : Int), ()), (0, ()), ()) = bif l.all reachV then .inl () else .inr ((false, ()), ()) := by
    unfold dom_shape_Placed_L0 val_shape_Placed_L0
    refine all_scan (step := step_shape_Placed_L0) (fun i => ((l, ()), (((l.length : Nat) : Int), ()), ((i : Int), ()), ())) reachV (Ty.dflt TIVec) _ _ l (by omega) (fun i hi => ?_) ?_
    · have e : IntKind.wrap .i64 ((i : Int) + 1) = ((i + 1 : Nat) : Int) := wrap_succ (by omega)
      unfold step_shape_Placed_L0 t_shape_Placed_L0 reachV
      simp only [Tr.optA, dT (show (i : Int) < (l.length : Int) by omega), dT (show 0 ≤ (i : Int) by omega), Int.toNat_natCast, e, Bool.and_self, cond_true, id]
      cases shape_reaches (l.getD i (Ty.dflt TIVec)).1 <;> cases shape_reaches (l.getD i (Ty.dflt TIVec)).2.1 <;> cases shape_reaches (l.getD i (Ty.dflt TIVec)).2.2 <;> rfl
    · unfold step_shape_Placed_L0 t_shape_Placed_L0
      simp only [Tr.optA, dF (show ¬ ((l.length : Int) < (l.length : Int)) by omega), cond_false, id]
  unfold dom_shape_Placed shape_Placed t_shape_Placed
  simp only [Tr.dom, Tr.ok, Tr.val, key.1, key.2, cond_true]
  cases l.all reachV <;> cases decide (1 ≤ ((l.length : Nat) : Int)) <;> exact ⟨by first | trivial | rfl, by first | trivial | rfl⟩

theorem reachedR (v : DIVec) : armplanref10_reached v = reachV v := by
  unfold armplanref10_reached t_armplanref10_reached reachV shape_reaches t_shape_reaches
  simp only [Tr.val, not_lt_dec]
  cases decide (v.1.1 < -268435456) <;> cases decide (v.1.2 < v.1.1) <;> cases decide (268435456 < v.1.2) <;> cases decide (v.2.1.1 < -268435456) <;> cases decide (v.2.1.2 < v.2.1.1) <;> cases decide (268435456 < v.2.1.2) <;>
    first | rfl | (cases decide (v.2.2.1 < -268435456) <;> cases decide (v.2.2.2 < v.2.2.1) <;> cases decide (268435456 < v.2.2.2) <;> rfl)

/-- The product of a normal and a placed point. -/
def dotV (n : DVec) (v : DIVec) : Int × Int := bif !usB n then (0, 0) else bif !reachV v then (0, 0) else support_dot n v

theorem dotF (n : DVec) (v : DIVec) : dom_support_Dot n v = true ∧ support_Dot n v = dotV n v := by
  obtain ⟨d, p⟩ := placedF [v] (by simp)
  have p' : shape_Placed [v] = reachV v := by rw [p]; simp
  unfold dom_support_Dot support_Dot t_support_Dot dotV
  simp only [Tr.dom, Tr.ok, Tr.val, usableF, d, p', cond_true]
  cases usB n <;> cases reachV v <;> exact ⟨by first | trivial | rfl, by first | trivial | rfl⟩

theorem dotR (n : DVec) (v : DIVec) : armplanref10_Dot n v = dotV n v := by
  unfold armplanref10_Dot t_armplanref10_Dot dotV support_dot t_support_dot
  simp only [Tr.val, usableR, reachedR]

/-- The vector of a constraint at a pose of its link. -/
def vecV (c : DConstraint) (p : P4) : V3 := bif decide (c.1 = 0) then apP p (pointV c.2.2.1) else applyM p.1 (pointV c.2.2.1)

theorem vectorF {n : Int} {c : DConstraint} (h : properB n c = true) (p : P4) : dom_manifold_vector c p = true ∧ manifold_vector c p = vecV c p := by
  unfold dom_manifold_vector manifold_vector t_manifold_vector vecV _manifold_frame_position _manifold_frame_direction t__manifold_frame_position t__manifold_frame_direction
  by_cases c0 : c.1 = 0
  · simp only [Tr.dom, Tr.ok, Tr.val, dT c0, cond_true, pointF, apPF]
    exact ⟨by first | trivial | rfl, by first | trivial | rfl⟩
  · have c1 : c.1 = 1 := by
      unfold properB at h
      rw [Bool.and_eq_true, Bool.or_eq_true, decide_eq_true_eq, decide_eq_true_eq] at h
      rcases h.1 with h | h
      · exact absurd h c0
      · exact h
    simp only [Tr.dom, Tr.ok, Tr.val, dF c0, dT c1, cond_true, cond_false, pointF, applyF]
    exact ⟨by first | trivial | rfl, by first | trivial | rfl⟩

end Go.RX

/-
  Manifolds, part 4: boxes within the limits by the reference, values of constraints over boxes.
-/
namespace Go.RX
open Go

theorem limitsR (r : DRobot) : dom_armplanref10_Limits r = true ∧ armplanref10_Limits r = bif !decide (robotErr r = 0) then [] else r.1.map limJ := by
  unfold dom_armplanref10_Limits armplanref10_Limits t_armplanref10_Limits
  obtain ⟨d1, v1⟩ := robotR r
  by_cases c0 : robotErr r = 0
  · have hn := robot_ok0 c0
    have key : dom_armplanref10_Limits_L0 ((r, ()), ([], ()), (0, ()), ()) = true ∧ val_armplanref10_Limits_L0 ((r, ()), ([], ()), (0, ()), ()) = ((r, ()), ((r.1.take r.1.length).map limJ, ()), ()) := by
      unfold dom_armplanref10_Limits_L0 val_armplanref10_Limits_L0
      refine loop_to (step := step_armplanref10_Limits_L0) (fun i => ((r, ()), ((r.1.take i).map limJ, ()), ((i : Int), ()), ())) _ r.1.length (by omega) (fun i hi => ?_) ?_
      · have e : IntKind.wrap .i64 ((i : Int) + 1) = ((i + 1 : Nat) : Int) := wrap_succ (by omega)
        have hm : ((r.1.take i).map limJ).length = i := by rw [List.length_map, List.length_take]; omega
        have hrm : room (i + 1) = true := room_ok (by omega)
        rw [take_succ r.1 (Ty.dflt TJoint) hi]
        unfold step_armplanref10_Limits_L0 t_armplanref10_Limits_L0
        simp only [Tr.optA, dT (show (i : Int) < (r.1.length : Int) by omega), dT (show 0 ≤ (i : Int) by omega), e, Int.toNat_natCast, hm, List.length_singleton, hrm, List.map_append, List.map_cons, List.map_nil, Bool.and_self, cond_true, id]
        rfl
      · unfold step_armplanref10_Limits_L0 t_armplanref10_Limits_L0
        simp only [Tr.optA, dF (show ¬ ((r.1.length : Int) < (r.1.length : Int)) by omega), cond_false, id]
    simp only [Tr.dom, Tr.ok, Tr.val, d1, v1, dT c0, key.1, key.2, Bool.not_true, cond_true, cond_false, List.take_length]
    exact ⟨by first | trivial | rfl, by first | trivial | rfl⟩
  · simp only [Tr.dom, Tr.ok, Tr.val, d1, v1, dF c0, Bool.not_false, cond_true]
    exact ⟨by first | trivial | rfl, by first | trivial | rfl⟩

theorem wthR (a b : List (Int × Int)) (ha : a.length ≤ 4000000000000000000) (hb : b.length ≤ 4000000000000000000) : dom_armplanref10_Within a b = true ∧ armplanref10_Within a b =
    (validB a && (validB b && (decide (((a.length : Nat) : Int) = ((b.length : Nat) : Int)) && (List.range a.length).all fun i => wtn (a.getD i dB) (b.getD i dB)))) := by
  unfold dom_armplanref10_Within armplanref10_Within t_armplanref10_Within
  obtain ⟨d1, v1⟩ := validR a ha
  obtain ⟨d2, v2⟩ := validR b hb
  by_cases c1 : ((a.length : Nat) : Int) = ((b.length : Nat) : Int)
  · have key : dom_armplanref10_Within_L0 ((a, ()), (b, ()), (0, ()), ()) = true ∧ val_armplanref10_Within_L0 ((a, ()), (b, ()), (0, ()), ()) =
        bif (List.range a.length).all fun i => wtn (a.getD i dB) (b.getD i dB) then .inl () else .inr ((false, ()), ()) := by
      unfold dom_armplanref10_Within_L0 val_armplanref10_Within_L0
      refine idx_scan (step := step_armplanref10_Within_L0) (fun i => ((a, ()), (b, ()), ((i : Int), ()), ())) _ _ _ a.length (by omega) (fun i hi => ?_) ?_
      · have e : IntKind.wrap .i64 ((i : Int) + 1) = ((i + 1 : Nat) : Int) := wrap_succ (by omega)
        have hw : armplanref1_Within (List.getD a i (Ty.dflt (.pair (.int .i64) (.int .i64)))) (List.getD b i (Ty.dflt (.pair (.int .i64) (.int .i64)))) = wtn (a.getD i dB) (b.getD i dB) := withinR _ _
        unfold step_armplanref10_Within_L0 t_armplanref10_Within_L0
        simp only [Tr.optA, dT (show (i : Int) < (a.length : Int) by omega), dT (show (i : Int) < (b.length : Int) by omega), dT (show 0 ≤ (i : Int) by omega), Int.toNat_natCast, hw, e, Bool.and_self, cond_true, id]
        cases wtn (a.getD i dB) (b.getD i dB) <;> rfl
      · unfold step_armplanref10_Within_L0 t_armplanref10_Within_L0
        simp only [Tr.optA, dF (show ¬ ((a.length : Int) < (a.length : Int)) by omega), cond_false, id]
    simp only [Tr.dom, Tr.ok, Tr.val, d1, v1, d2, v2, dT c1, key.1, key.2, Bool.not_true, cond_true, cond_false, Bool.true_and]
    cases validB a <;> cases validB b <;> cases (List.range a.length).all fun i => wtn (a.getD i dB) (b.getD i dB) <;> exact ⟨by first | trivial | rfl, by first | trivial | rfl⟩
  · simp only [Tr.dom, Tr.ok, Tr.val, d1, v1, d2, v2, dF c1, Bool.not_false, cond_true, Bool.false_and]
    cases validB a <;> cases validB b <;> exact ⟨by first | trivial | rfl, by first | trivial | rfl⟩

theorem all_range {n : Nat} {p : Nat → Bool} : (List.range n).all p = true ↔ ∀ i, i < n → p i = true := by
  rw [List.all_eq_true]
  exact ⟨fun h i hi => h i (List.mem_range.2 hi), fun h i hi => h i (List.mem_range.1 hi)⟩

theorem insR (r : DRobot) (b : List (Int × Int)) (hb : b.length ≤ 4000000000000000000) : dom_armplanref10_InsideBox r b = true ∧ armplanref10_InsideBox r b = insB r b := by
  unfold dom_armplanref10_InsideBox armplanref10_InsideBox t_armplanref10_InsideBox
  obtain ⟨d1, v1⟩ := limitsR r
  by_cases c0 : robotErr r = 0
  · have hn := robot_ok0 c0
    obtain ⟨d2, v2⟩ := wthR b (r.1.map limJ) hb (by rw [List.length_map]; omega)
    have e : insB r b = (armplanref10_Within b (r.1.map limJ) && decide (0 < ((b.length : Nat) : Int))) := by
      rw [v2]
      unfold insB
      rw [dT c0, Bool.true_and]
      have hl : (r.1.map limJ).length = r.1.length := List.length_map ..
      by_cases c1 : ((r.1.length : Nat) : Int) = ((b.length : Nat) : Int)
      · have c2 : ((b.length : Nat) : Int) = (((r.1.map limJ).length : Nat) : Int) := by rw [hl]; exact c1.symm
        have hbl : b.length = r.1.length := by omega
        rw [dT c1, dT c2, dT (show (0 : Int) < ((b.length : Nat) : Int) by omega), hbl]
        simp only [Bool.true_and, Bool.and_true]
        have hc : (List.range r.1.length).all (fun i => wtn (b.getD i dB) ((r.1.map limJ).getD i dB)) = (List.range r.1.length).all fun i => wtn (b.getD i dB) (limJ (r.1.getD i dJ)) := by
          rw [Bool.eq_iff_iff, all_range, all_range]
          exact ⟨fun h i hi => by rw [← map_getD limJ r.1 dJ dB hi]; exact h i hi, fun h i hi => by rw [map_getD limJ r.1 dJ dB hi]; exact h i hi⟩
        rw [hc]
        cases ha : (List.range r.1.length).all fun i => wtn (b.getD i dB) (limJ (r.1.getD i dJ)) with
        | false => simp
        | true =>
          rw [ha] at hc
          rw [all_range] at hc ha
          have w1 : validB b = true := wtn_valid (b := r.1.map limJ) (by omega) fun i hi => hc i (by omega)
          have w2 : validB (r.1.map limJ) = true := by
            unfold validB
            rw [List.all_eq_true]
            intro x hx
            obtain ⟨k, hk, rfl⟩ := List.getElem_of_mem hx
            have := hc k (by omega)
            rw [List.getD_eq_getElem?_getD (l := r.1.map limJ), List.getElem?_eq_getElem hk] at this
            exact (wtn_iff.1 this).2.1
          rw [w1, w2]; rfl
      · have c2 : ¬ ((b.length : Nat) : Int) = (((r.1.map limJ).length : Nat) : Int) := by rw [hl]; omega
        rw [dF c1, dF c2]
        simp
    simp only [Tr.dom, Tr.ok, Tr.val, d1, v1, dT c0, d2, Bool.not_true, cond_true, cond_false, e]
    cases armplanref10_Within b (r.1.map limJ) <;> exact ⟨by first | trivial | rfl, by first | trivial | rfl⟩
  · obtain ⟨d2, v2⟩ := wthR b [] hb (by simp)
    have e : insB r b = false := by unfold insB; rw [dF c0]; rfl
    have e2 : (armplanref10_Within b [] && decide (0 < ((b.length : Nat) : Int))) = false := by
      rw [v2]
      by_cases c1 : b.length = 0
      · rw [dF (show ¬ (0 : Int) < ((b.length : Nat) : Int) by omega), Bool.and_false]
      · rw [dF (show ¬ ((b.length : Nat) : Int) = ((([] : List (Int × Int)).length : Nat) : Int) by rw [show ([] : List (Int × Int)).length = 0 from rfl]; omega)]; simp
    simp only [Tr.dom, Tr.ok, Tr.val, d1, v1, dF c0, d2, Bool.not_false, cond_true, e]
    cases hw : armplanref10_Within b [] with
    | false => exact ⟨by first | trivial | rfl, by first | trivial | rfl⟩
    | true => rw [hw, Bool.true_and] at e2; simp only [e2, cond_true]; exact ⟨by first | trivial | rfl, by first | trivial | rfl⟩

end Go.RX

/-
  Manifolds, part 5: Value is the reference's.
-/
namespace Go.RX
open Go

theorem insB_box {r : DRobot} {b : List (Int × Int)} (h : insB r b = true) : robotErr r = 0 ∧ isBoxB r b = true := by
  unfold insB at h
  rw [Bool.and_eq_true, Bool.and_eq_true, decide_eq_true_eq, decide_eq_true_eq] at h
  obtain ⟨h1, h2, h3⟩ := h
  refine ⟨h1, ?_⟩
  rw [all_range] at h3
  unfold isBoxB
  have hv : validB b = true := by
    unfold validB
    rw [List.all_eq_true]
    intro x hx
    obtain ⟨k, hk, rfl⟩ := List.getElem_of_mem hx
    have := h3 k (by omega)
    rw [List.getD_eq_getElem?_getD, List.getElem?_eq_getElem hk] at this
    exact (wtn_iff.1 this).1
  rw [hv, dT h2.symm]; rfl

theorem ins_links {r : DRobot} {b : List (Int × Int)} (h : insB r b = true) : linksL r b = linksN r b r.1.length := by
  obtain ⟨h1, h2⟩ := insB_box h
  unfold linksL
  rw [dT h1, h2]; rfl

/-- The value of a constraint over a box within the limits. -/
def valV (r : DRobot) (b : List (Int × Int)) (c : DConstraint) : Int × Int := dotV c.2.2.2.1 (vecV c ((linksN r b r.1.length).getD c.2.1.toNat dP))
def valsL (r : DRobot) (b : List (Int × Int)) (l : List DConstraint) : List (Int × Int) := l.map (valV r b)

theorem set_mid {α : Type} {A B : List α} {z w : α} {i : Nat} (h : A.length = i) : (A ++ z :: B).set i w = A ++ w :: B := by
  subst h
  rw [List.set_append_right (h := Nat.le_refl _), Nat.sub_self]; rfl
theorem getD_mid {α : Type} {A B : List α} {z d : α} {i : Nat} (h : A.length = i) : (A ++ z :: B).getD i d = z := by
  subst h
  rw [List.getD_eq_getElem?_getD, List.getElem?_append_right (Nat.le_refl _), Nat.sub_self]; rfl

theorem proper_link {n : Nat} {c : DConstraint} (h : properB ((n : Nat) : Int) c = true) : 0 ≤ c.2.1 ∧ c.2.1 < (n : Int) := by
  unfold properB at h
  simp only [Bool.and_eq_true, Bool.not_eq_true', decide_eq_false_iff_not] at h
  omega

theorem valuesF (r : DRobot) (l : List DConstraint) (b : List (Int × Int)) : dom_manifold_values r l b = true ∧ manifold_values r l b = bif !chkB r l then ([], false) else bif !insB r b then ([], false) else (valsL r b l, true) := by
  unfold dom_manifold_values manifold_values t_manifold_values
  obtain ⟨d1, v1⟩ := checkF r l
  obtain ⟨d2, v2⟩ := insF r b
  cases hc : chkB r l with
  | false =>
    simp only [Tr.dom, Tr.ok, Tr.val, d1, v1, hc, Bool.not_false, cond_true]
    exact ⟨by first | trivial | rfl, by first | trivial | rfl⟩
  | true =>
    cases hi : insB r b with
    | false =>
      simp only [Tr.dom, Tr.ok, Tr.val, d1, v1, hc, d2, v2, hi, Bool.not_false, Bool.not_true, cond_true, cond_false]
      exact ⟨by first | trivial | rfl, by first | trivial | rfl⟩
    | true =>
      have hl8 : l.length ≤ 8 ∧ ∀ c ∈ l, properB ((r.1.length : Nat) : Int) c = true := by
        unfold chkB at hc
        simp only [Bool.and_eq_true, Bool.not_eq_true', decide_eq_false_iff_not, List.all_eq_true] at hc
        exact ⟨by omega, hc.2.2⟩
      have el := ins_links hi
      have m1 := linksN_len r b r.1.length
      have hval : ∀ c, valV r b c = dotV c.2.2.2.1 (vecV c ((linksN r b r.1.length).getD c.2.1.toNat dP)) := fun _ => rfl
      unfold valsL
      generalize hv : valV r b = g at *
      generalize linksN r b r.1.length = p at *
      have key : dom_manifold_values_L0 ((p, ()), (List.replicate l.length (Ty.dflt (.pair (.int .i64) (.int .i64))), ()), (l, ()), (((l.length : Nat) : Int), ()), (0, ()), ()) = true ∧
          val_manifold_values_L0 ((p, ()), (List.replicate l.length (Ty.dflt (.pair (.int .i64) (.int .i64))), ()), (l, ()), (((l.length : Nat) : Int), ()), (0, ()), ()) = (((l.take l.length).map g ++ List.replicate (l.length - l.length) (Ty.dflt (.pair (.int .i64) (.int .i64))), ()), ()) := by
        unfold dom_manifold_values_L0 val_manifold_values_L0
        refine loop_to (step := step_manifold_values_L0) (fun i => ((p, ()), ((l.take i).map g ++ List.replicate (l.length - i) (Ty.dflt (.pair (.int .i64) (.int .i64))), ()), (l, ()), (((l.length : Nat) : Int), ()), ((i : Int), ()), ())) _ l.length (by omega) (fun i hi => ?_) ?_
        · have e : IntKind.wrap .i64 ((i : Int) + 1) = ((i + 1 : Nat) : Int) := wrap_succ (by omega)
          have hm : ((l.take i).map g).length = i := by rw [List.length_map, List.length_take]; omega
          have hrep : List.replicate (l.length - i) (Ty.dflt (.pair (.int .i64) (.int .i64))) = Ty.dflt (.pair (.int .i64) (.int .i64)) :: List.replicate (l.length - (i + 1)) (Ty.dflt (.pair (.int .i64) (.int .i64))) := by
            rw [show l.length - i = (l.length - (i + 1)) + 1 by omega]; rfl
          have hmem : l.getD i (Ty.dflt TConstraint) ∈ l := by rw [List.getD_eq_getElem?_getD, List.getElem?_eq_getElem hi]; exact List.getElem_mem hi
          have hp := hl8.2 _ hmem
          obtain ⟨k1, k2⟩ := proper_link hp
          obtain ⟨d3, v3⟩ := vectorF hp (p.getD (l.getD i (Ty.dflt TConstraint)).2.1.toNat (Ty.dflt TPose))
          obtain ⟨d4, v4⟩ := dotF (l.getD i (Ty.dflt TConstraint)).2.2.2.1 (vecV (l.getD i (Ty.dflt TConstraint)) (p.getD (l.getD i (Ty.dflt TConstraint)).2.1.toNat (Ty.dflt TPose)))
          have hg : g (l.getD i (Ty.dflt TConstraint)) = dotV (l.getD i (Ty.dflt TConstraint)).2.2.2.1 (vecV (l.getD i (Ty.dflt TConstraint)) (p.getD (l.getD i (Ty.dflt TConstraint)).2.1.toNat (Ty.dflt TPose))) := hval _
          have hlen1 : ∀ z, ((l.take i).map g ++ z :: List.replicate (l.length - (i + 1)) (Ty.dflt (.pair (.int .i64) (.int .i64)))).length = l.length := fun z => by simp; omega
          rw [take_succ l (Ty.dflt TConstraint) hi, hrep, List.map_append, List.map_cons, List.map_nil, hg, List.append_assoc, List.singleton_append]
          unfold step_manifold_values_L0 t_manifold_values_L0
          simp only [Tr.optA, dT (show (i : Int) < (l.length : Int) by omega), dT (show 0 ≤ (i : Int) by omega), Int.toNat_natCast, dT k1, m1, dT k2, d3, v3, d4, v4, set_mid hm, getD_mid hm, hlen1, e, Bool.and_self, cond_true, id]
        · unfold step_manifold_values_L0 t_manifold_values_L0
          simp only [Tr.optA, dF (show ¬ ((l.length : Int) < (l.length : Int)) by omega), cond_false, id]
      rw [List.take_length, Nat.sub_self, List.replicate_zero, List.append_nil] at key
      simp only [Tr.dom, Tr.ok, Tr.val, d1, v1, hc, d2, v2, hi, (linksF _ _).1, (linksF _ _).2, el, dT (show 0 ≤ ((l.length : Nat) : Int) by omega), dT (Int.le_refl ((l.length : Nat) : Int)), dT (show ((l.length : Nat) : Int) ≤ 4294967296 by omega), Int.toNat_natCast, key.1, key.2,
        Bool.and_self, Bool.not_true, cond_true, cond_false]
      exact ⟨by first | trivial | rfl, by first | trivial | rfl⟩

end Go.RX

/-
  Manifolds, part 6: the law of values.
-/
namespace Go.RX
open Go

theorem chk_one {r : DRobot} {c : DConstraint} (h : chkB r [c] = true) : properB ((r.1.length : Nat) : Int) c = true := by
  unfold chkB at h
  simp only [Bool.and_eq_true, List.all_cons, List.all_nil, Bool.and_true] at h
  exact h.2.2

/-- What Value returns. -/
def valueL (r : DRobot) (c : DConstraint) (b : List (Int × Int)) : (Int × Int) × Bool := bif !chkB r [c] then ((0, 0), false) else bif !insB r b then ((0, 0), false) else (valV r b c, true)

theorem valueF (r : DRobot) (c : DConstraint) (b : List (Int × Int)) : dom_manifold_Value r c b = true ∧ manifold_Value r c b = valueL r c b := by
  unfold dom_manifold_Value manifold_Value t_manifold_Value valueL
  obtain ⟨d1, v1⟩ := valuesF r [c] b
  cases hc : chkB r [c] with
  | false =>
    rw [hc] at v1
    simp only [Bool.not_false, cond_true] at v1
    simp only [Tr.dom, Tr.ok, Tr.val, d1, v1, Bool.not_false, cond_true]
    exact ⟨by first | trivial | rfl, by first | trivial | rfl⟩
  | true =>
    cases hi : insB r b with
    | false =>
      rw [hc, hi] at v1
      simp only [Bool.not_false, Bool.not_true, cond_true, cond_false] at v1
      simp only [Tr.dom, Tr.ok, Tr.val, d1, v1, Bool.not_false, Bool.not_true, cond_true, cond_false]
      exact ⟨by first | trivial | rfl, by first | trivial | rfl⟩
    | true =>
      rw [hc, hi] at v1
      simp only [Bool.not_true, cond_false] at v1
      have hl : (valsL r b [c]).length = 1 := rfl
      simp only [Tr.dom, Tr.ok, Tr.val, d1, v1, hl, dT (show (0 : Int) < ((1 : Nat) : Int) by decide), Bool.not_true, cond_true, cond_false]
      exact ⟨by first | trivial | rfl, by first | trivial | rfl⟩

theorem valueR (r : DRobot) (c : DConstraint) (b : List (Int × Int)) (hb : b.length ≤ 4000000000000000000) : dom_armplanref32_Value r c b = true ∧ armplanref32_Value r c b = valueL r c b := by
  unfold dom_armplanref32_Value armplanref32_Value t_armplanref32_Value valueL
  obtain ⟨d1, v1⟩ := checkR r [c]
  obtain ⟨d2, v2⟩ := insR r b hb
  cases hc : chkB r [c] with
  | false =>
    simp only [Tr.dom, Tr.ok, Tr.val, d1, v1, hc, Bool.not_false, cond_true]
    exact ⟨by first | trivial | rfl, by first | trivial | rfl⟩
  | true =>
    cases hi : insB r b with
    | false =>
      simp only [Tr.dom, Tr.ok, Tr.val, d1, v1, hc, d2, v2, hi, Bool.not_false, Bool.not_true, cond_true, cond_false]
      exact ⟨by first | trivial | rfl, by first | trivial | rfl⟩
    | true =>
      obtain ⟨k1, k2⟩ := proper_link (chk_one hc)
      have el := ins_links hi
      have m1 := linksN_len r b r.1.length
      unfold valV vecV
      simp only [Tr.dom, Tr.ok, Tr.val, d1, v1, hc, d2, v2, hi, (linksR _ _).1, (linksR _ _).2, el, m1, dT k1, dT k2, pointR, apPR, applyR, dotR, Bool.not_true, Bool.and_self, cond_true, cond_false]
      cases decide (c.1 = 0) <;> exact ⟨by first | trivial | rfl, by first | trivial | rfl⟩

theorem values_same (r : DRobot) (c : DConstraint) (b : List (Int × Int)) (hb : b.length ≤ 4000000000000000000) : dom_armplanlaw32_values r c b = true ∧ armplanlaw32_values r c b = true := by
  unfold dom_armplanlaw32_values armplanlaw32_values t_armplanlaw32_values
  obtain ⟨d1, v1⟩ := valueF r c b
  obtain ⟨d2, v2⟩ := valueR r c b hb
  simp only [Tr.dom, Tr.ok, Tr.val, d1, v1, d2, v2, dEq, dT trivial, beq_self_eq_true, Bool.and_self, Bool.and_true, cond_true]
  exact ⟨by first | trivial | rfl, by first | trivial | rfl⟩

theorem cons_more {s : List Int × Int} {r : DRobot} {n : Int} {out : List DConstraint} (h1 : srcOk s) (hr : 1 ≤ r.1.length ∧ r.1.length ≤ 10) (n1 : 0 < n) (n2 : n ≤ 100) (hl : out.length ≤ 100) :
    ∃ s' c, srcOk s' ∧ step_armplanlaw32_Constraints_L0 ((r, ()), (s, ()), (n, ()), (out, ()), ()) = some (.inl ((r, ()), (s', ()), (n - 1, ()), (out ++ [c], ()), ())) := by
  unfold step_armplanlaw32_Constraints_L0 t_armplanlaw32_Constraints_L0
  obtain ⟨d2, o2, _⟩ := next_ok h1 (k := 2) (by omega) (by omega)
  generalize hr2 : armplanmake_Source_Next s 2 = r2 at *
  obtain ⟨d3, o3, _⟩ := next_ok o2 (k := ((r.1.length : Nat) : Int)) (by omega) (by omega)
  generalize hr3 : armplanmake_Source_Next r2.2 ((r.1.length : Nat) : Int) = r3 at *
  obtain ⟨d4, o4, _⟩ := signed_ok o3 (k := 4) (by omega) (by omega)
  generalize hr4 : armplanmake_Source_Signed r3.2 4 = r4 at *
  obtain ⟨d7, o7, _⟩ := signed_ok o4 (k := 2) (by omega) (by omega)
  generalize hr7 : armplanmake_Source_Signed r4.2 2 = r7 at *
  obtain ⟨d9, o9, _⟩ := signed_ok o7 (k := 2) (by omega) (by omega)
  generalize hr9 : armplanmake_Source_Signed r7.2 2 = r9 at *
  obtain ⟨d12, o12, _⟩ := next_ok o9 (k := 4096) (by omega) (by omega)
  generalize hr12 : armplanmake_Source_Next r9.2 4096 = r12 at *
  obtain ⟨d13, o13, _⟩ := next_ok o12 (k := 4096) (by omega) (by omega)
  generalize hr13 : armplanmake_Source_Next r12.2 4096 = r13 at *
  obtain ⟨d14, o14, _⟩ := next_ok o13 (k := 4096) (by omega) (by omega)
  generalize hr14 : armplanmake_Source_Next r13.2 4096 = r14 at *
  obtain ⟨d16, o16, _⟩ := signed_ok o14 (k := 60) (by omega) (by omega)
  generalize hr16 : armplanmake_Source_Signed r14.2 60 = r16 at *
  obtain ⟨d18, o18, _⟩ := next_ok o16 (k := 90) (by omega) (by omega)
  generalize hr18 : armplanmake_Source_Next r16.2 90 = r18 at *
  obtain ⟨d21, o21, _⟩ := next_ok o18 (k := 24) (by omega) (by omega)
  generalize hr21 : armplanmake_Source_Next r18.2 24 = r21 at *
  obtain ⟨d23, o23, _⟩ := next_ok o21 (k := 9) (by omega) (by omega)
  generalize hr23 : armplanmake_Source_Next r21.2 9 = r23 at *
  have e : IntKind.wrap .i64 (n - 1) = n - 1 := wrap64 (by omega) (by omega)
  have hrm : room (out.length + 1) = true := room_ok (by omega)
  simp only [Tr.optA, dT n1, d2, d3, d4, d7, d9, d12, d13, d14, d16, d18, d21, d23, hr2, hr3, hr4, hr7, hr9, hr12, hr13, hr14, hr16, hr18, hr21, hr23, e, List.length_singleton, hrm, cond_true, id]
  by_cases c : r21.1 = 1
  · simp only [dT c, cond_true]; exact ⟨_, _, o23, rfl⟩
  · simp only [dF c, cond_false]; exact ⟨_, _, o21, rfl⟩

theorem cons_ok {r : DRobot} (hr : 1 ≤ r.1.length ∧ r.1.length ≤ 10) {l : List Int} (hl : l.length ≤ maxLen) {n : Int} (n1 : 0 ≤ n) (n2 : n ≤ 100) : dom_armplanlaw32_Constraints r n l = true ∧ (armplanlaw32_Constraints r n l).length = n.toNat := by
  have key : dom_armplanlaw32_Constraints_L0 ((r, ()), ((l, 0), ()), (n, ()), ([], ()), ()) = true ∧ (val_armplanlaw32_Constraints_L0 ((r, ()), ((l, 0), ()), (n, ()), ([], ()), ())).2.2.1.1.length = n.toNat := by
    unfold dom_armplanlaw32_Constraints_L0 val_armplanlaw32_Constraints_L0
    refine loop_end (Q := fun y : Outs os_armplanlaw32_Constraints_L0 => y.2.2.1.1.length = n.toNat)
      (loop_run step_armplanlaw32_Constraints_L0 (fun m x => ∃ (s : List Int × Int) (k : Int) (out : List DConstraint), x = ((r, ()), (s, ()), (k, ()), (out, ()), ()) ∧ srcOk s ∧ 0 ≤ k ∧ k = (m : Int) ∧ out.length + m = n.toNat) _ ?_ rounds n.toNat _
        ⟨(l, 0), n, [], rfl, src0 hl, n1, by omega, by simp⟩ (rounds_lt (by omega)))
    rintro m x ⟨s, k, out, rfl, h1, h2, h3, h4⟩
    by_cases hk : 0 < k
    · obtain ⟨s', c, o, e⟩ := cons_more (out := out) h1 hr hk (by omega) (by omega)
      exact .inl ⟨_, m - 1, e, by omega, s', k - 1, out ++ [c], rfl, o, by omega, by omega, by rw [List.length_append, List.length_singleton]; omega⟩
    · refine .inr ⟨((r, ()), (s, ()), (out, ()), ()), ?_, ?_⟩
      · unfold step_armplanlaw32_Constraints_L0 t_armplanlaw32_Constraints_L0
        simp only [Tr.optA, dF hk, cond_false, id]
      · show out.length = n.toNat
        omega
  unfold dom_armplanlaw32_Constraints armplanlaw32_Constraints t_armplanlaw32_Constraints
  simp only [Tr.dom, Tr.ok, Tr.val, key.1, cond_true]
  exact ⟨by first | trivial | rfl, key.2⟩

theorem awake32 : dom_armplanlaw32_awake = true ∧ armplanlaw32_awake = true := ⟨by kernel_rfl, by kernel_rfl⟩

theorem manyvalues_law (raw : DRobot) (list : List DConstraint) (c : DConstraint) (box : List (Int × Int)) {l m o : List Int} (hl : l.length ≤ maxLen) (hm : m.length ≤ maxLen) (ho : o.length ≤ maxLen) (n : Int) :
    dom_armplanlaw32_ManifoldValues raw list c box l m o n = true ∧ armplanlaw32_ManifoldValues raw list c box l m o n = true := by
  unfold dom_armplanlaw32_ManifoldValues armplanlaw32_ManifoldValues t_armplanlaw32_ManifoldValues
  cases hf : armplanlaw32_few raw list with
  | false =>
    simp only [Tr.dom, Tr.ok, Tr.val, hf, awake32.1, awake32.2, Bool.not_false, cond_true]
    exact ⟨by first | trivial | rfl, by first | trivial | rfl⟩
  | true =>
    by_cases hb : 20 < ((box.length : Nat) : Int)
    · simp only [Tr.dom, Tr.ok, Tr.val, hf, dT hb, awake32.1, awake32.2, Bool.not_true, cond_true, cond_false]
      exact ⟨by first | trivial | rfl, by first | trivial | rfl⟩
    · obtain ⟨d1, _, g1⟩ := robot_ok (src0 hl)
      have er : armplanmake_Robot l = (armplanmake_robot (l, 0)).1 := by
        unfold armplanmake_Robot t_armplanmake_Robot
        simp only [Tr.val, d1, cond_true]
      have dr : dom_armplanmake_Robot l = true := by
        unfold dom_armplanmake_Robot t_armplanmake_Robot
        simp only [Tr.dom, Tr.ok, d1, cond_true]
        first | trivial | rfl
      rw [← er] at g1
      generalize hR : armplanmake_Robot l = r at *
      have hn := g1.2.1
      obtain ⟨r1, r2⟩ := round_eq (n := n) (k := 9) (by omega) (by omega)
      generalize hk : armplanmake_Round n 9 = k at *
      have e7 : IntKind.wrap .i64 (1 + k) = 1 + k := wrap64 (by omega) (by omega)
      obtain ⟨d8, v8⟩ := cons_ok (r := r) ⟨hn.1, by omega⟩ hm (n := 1 + k) (by omega) (by omega)
      generalize hD : armplanlaw32_Constraints r (1 + k) m = d at *
      obtain ⟨d9, g9⟩ := boxes_ok g1 ho
      generalize hB : armplanmake_Box r o = b at *
      have hbl := g9.1
      obtain ⟨s1, s2⟩ := values_same raw c box (by omega)
      obtain ⟨s3, s4⟩ := values_same r (d.getD 0 (Ty.dflt TConstraint)) b (by omega)
      obtain ⟨s5, s6⟩ := values_same r c b (by omega)
      obtain ⟨s7, s8⟩ := values_same r (d.getD 0 (Ty.dflt TConstraint)) box (by omega)
      have hd : 0 < ((d.length : Nat) : Int) := by omega
      simp only [Tr.dom, Tr.ok, Tr.val, hf, dF hb, dr, hR, hk, e7, d8, hD, d9, hB, awake32.1, awake32.2, (checkF _ _).1, (checkF _ _).2, (checkR _ _).1, (checkR _ _).2, s1, s2, s3, s4, s5, s6, s7, s8, dT hd, beq_self_eq_true, Bool.and_self, Bool.not_true, cond_true, cond_false]
      exact ⟨by first | trivial | rfl, by first | trivial | rfl⟩

end Go.RX

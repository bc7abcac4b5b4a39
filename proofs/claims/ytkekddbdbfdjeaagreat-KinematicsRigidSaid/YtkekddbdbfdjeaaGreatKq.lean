/-
  Exact motions within poses: the law of rigid links.
-/
import Derived.Test.YtkekddbdbfdjeaaGreatKp
namespace Go.RX
open Go

/-- An exact motion within a pose: v goes to (e v + t) / d. -/
def Ex (p : P4) (e : X3) (d : Int) (t : E3) (B : Int) : Prop := Rt p.1 e d ∧ inV p.2 t d B

theorem ex_comp {p q : P4} {e f : X3} {d d' : Int} {t u : E3} {A B : Int} (hp : Ex p e d t A) (hq : Ex q f d' u B) (hB : 0 ≤ B) (hAB : A + (B + B + B) ≤ 2147483648) (hB2 : B + B + B ≤ 2147483648) :
    Ex (compP p q) (muE e f) (d * d') (addE (sc d' t) (apE e u)) (A + (B + B + B)) := by
  obtain ⟨hr, ht⟩ := hp
  obtain ⟨hs, hu⟩ := hq
  refine ⟨rt_comp hr hs, ?_⟩
  have h1 := inV_up (k := d') hs.1 ht
  have h2 := inV_ap hr.2.2 hu hB hB2
  exact inV_add (inV_eq h1 rfl (Int.mul_comm d' d)) h2 hAB

theorem ex_zero {m : M3} {e : X3} {d B : Int} (h : Rt m e d) (hB : 0 ≤ B) (hB2 : B ≤ 2147483648) : Ex (m, zeroV) e d (0, (0, 0)) B := by
  refine ⟨h, ?_⟩
  have i0 : In (0, 0) 0 d B := in_eq (in_pt (t := 0) h.1 hB2 (by omega) hB) (by simp) rfl
  exact ⟨i0, i0, i0⟩

theorem ex_shift {t : E3} {B : Int} (h : bdE t B) (hB2 : B ≤ 2147483648) : Ex (unitM, ptV t) ((1, (0, 0)), ((0, (1, 0)), (0, (0, 1)))) 1 t B := by
  refine ⟨rt_unit, ?_⟩
  have := inV_pt (d := 1) h hB2 (by decide)
  refine inV_eq this ?_ rfl
  unfold sc; simp

theorem ex_move {k x : Int} (h1 : -131072 ≤ x) (h2 : x ≤ 131072) : ∃ e d t, Ex (moveP k (x, x)) e d t 131072 := by
  unfold moveP
  have hb : (131072 : Int) ≤ 2147483648 := by decide
  have turn : ∀ j : Int, 0 ≤ j → j < 3 → ∃ e d t, Ex (turnM j (x, x), zeroV) e d t 131072 := fun j j1 j2 =>
    let ⟨e, d, h⟩ := rt_turn j1 j2 (x := x) (by omega) (by omega)
    ⟨e, d, _, ex_zero h (by decide) hb⟩
  have z : (-131072 : Int) ≤ 0 ∧ (0 : Int) ≤ 131072 := by decide
  cases decide (k = 1) with
  | true => exact turn 0 (by decide) (by decide)
  | false =>
  cases decide (k = 2) with
  | true => exact turn 1 (by decide) (by decide)
  | false =>
  cases decide (k = 3) with
  | true => exact turn 2 (by decide) (by decide)
  | false =>
  cases decide (k = 4) with
  | true => exact ⟨_, _, _, ex_shift (t := (x, (0, 0))) ⟨⟨h1, h2⟩, z, z⟩ hb⟩
  | false =>
  cases decide (k = 5) with
  | true => exact ⟨_, _, _, ex_shift (t := (0, (x, 0))) ⟨z, ⟨h1, h2⟩, z⟩ hb⟩
  | false =>
  cases decide (k = 6) with
  | true => exact ⟨_, _, _, ex_shift (t := (0, (0, x))) ⟨z, z, ⟨h1, h2⟩⟩ hb⟩
  | false => exact ⟨_, _, _, ex_zero rt_unit (by decide) hb⟩

theorem ex_joint {j : DJoint} {x : Int} (ho : bdE j.2.2.2.1 131072) (h1 : -131072 ≤ x) (h2 : x ≤ 131072) : ∃ e d t, Ex (jointP j (x, x)) e d t 524288 := by
  obtain ⟨e, d, t, h⟩ := ex_move (k := j.2.1) h1 h2
  have hs := ex_shift ho (by decide)
  rw [← pt_point ho (by decide)] at hs
  exact ⟨_, _, _, ex_comp hs h (by decide) (by decide) (by decide)⟩

theorem ex_weak {p : P4} {e : X3} {d : Int} {t : E3} {A B : Int} (h : Ex p e d t A) (hAB : A ≤ B) : Ex p e d t B := ⟨h.1, in_weak h.2.1 hAB, in_weak h.2.2.1 hAB, in_weak h.2.2.2 hAB⟩

theorem links_ex {r : DRobot} (hr : goodR r) {b : List (Int × Int)} (hb : ∀ i, i < r.1.length → ∃ x, b.getD i dB = (x, x) ∧ -131072 ≤ x ∧ x ≤ 131072) (hp : parentsOk r) :
    ∀ n, n ≤ r.1.length → ∀ k, k < n → ∃ e d t, Ex ((linksN r b n).getD k dP) e d t (524288 + 1572864 * (k : Int))
  | 0, _, k, hk => by omega
  | n + 1, hn, k, hk => by
    have ih := links_ex hr hb hp n (by omega)
    have la := linksN_len r b n
    have h3 := hr.2.1
    rw [show linksN r b (n + 1) = linksN r b n ++ [nextP r b (linksN r b n) n] from rfl]
    by_cases hk' : k < n
    · rw [getD_snoc_lt (by omega)]; exact ih k hk'
    · rw [getD_snoc_eq (by omega), show k = n by omega]
      unfold nextP
      have hjj := (hr.1 n (r.1.getD n dJ) (getD_get (by omega))).1
      obtain ⟨x, hx, x1, x2⟩ := hb n (by omega)
      obtain ⟨e, d, t, hj⟩ := ex_joint (j := r.1.getD n dJ) hjj.2.2.2.1 x1 x2
      rw [hx]
      rcases hp n (by omega) with hw | ⟨h1, h2⟩
      · rw [dT hw]; exact ⟨_, _, _, ex_weak hj (by omega)⟩
      · rw [dF (show ¬ parentJ (r.1.getD n dJ) = -1 by omega)]
        obtain ⟨e', d', t', hpar⟩ := ih (parentJ (r.1.getD n dJ)).toNat (by omega)
        have hc := ex_comp hpar hj (by decide) (by omega) (by decide)
        exact ⟨_, _, _, ex_weak hc (by omega)⟩

/-- The exact point within a point. -/
theorem ex_point {p : P4} {e : X3} {d : Int} {t : E3} {A B : Int} (h : Ex p e d t A) {v : E3} (hv : bdE v B) (hB : 0 ≤ B) (hB2 : B + B + B ≤ 2147483648) (hAB : A + (B + B + B) ≤ 2147483648) :
    inV (apP p (pointV v)) (addE t (apE e v)) d (A + (B + B + B)) := by
  rw [pt_point hv (by omega)]
  have h1 := inV_pt (d := 1) hv (by omega) (by decide)
  have h2 := inV_ap h.1.2.2 h1 hB hB2
  have h3 := inV_add h.2 (inV_eq h2 rfl (Int.mul_one d)) hAB
  refine inV_eq h3 ?_ rfl
  congr 1
  congr 1
  unfold sc; simp

theorem in_sub {x y : Int × Int} {n m d A B : Int} (hx : In x n d A) (hy : In y m d B) (hAB : A + B ≤ 2147483648) : In (subI x y) (n - m) d (A + B) := by
  obtain ⟨v1, hd, a1, a2, a3, a4⟩ := hx
  obtain ⟨v2, _, b1, b2, b3, b4⟩ := hy
  unfold subI
  rw [v1, v2, Bool.and_self, cond_true]
  refine in_lim hd ?_ ?_ hAB ?_ ?_
  · rw [Int.sub_mul]; omega
  · rw [Int.sub_mul]; omega
  · rw [Int.add_mul]; omega
  · rw [Int.add_mul]; omega

def subE (x y : E3) : E3 := (x.1 - y.1, (x.2.1 - y.2.1, x.2.2 - y.2.2))
theorem inV_sub {u v : V3} {e f : E3} {d A B : Int} (hu : inV u e d A) (hv : inV v f d B) (hAB : A + B ≤ 2147483648) : inV (subV u v) (subE e f) d (A + B) :=
  ⟨in_sub hu.1 hv.1 hAB, in_sub hu.2.1 hv.2.1 hAB, in_sub hu.2.2 hv.2.2 hAB⟩

theorem sub_moved (e : X3) (t u v : E3) : subE (addE t (apE e u)) (addE t (apE e v)) = apE e (subE u v) := by
  unfold subE addE apE dotE
  dsimp only
  congr 1
  · grind
  · congr 1 <;> grind

theorem prod_le {a b d W : Int} (h1 : -d ≤ a) (h2 : a ≤ d) (k1 : -W ≤ b) (k2 : b ≤ W) : -(d * W) ≤ a * b ∧ a * b ≤ d * W := by
  have e1 : d * -W = -(d * W) := Int.mul_neg ..
  have e2 : -d * W = -(d * W) := Int.neg_mul ..
  have e3 : -d * -W = d * W := Int.neg_mul_neg ..
  have hd : 0 ≤ d := by omega
  have hW : 0 ≤ W := by omega
  have hp := Int.mul_nonneg hd hW
  exact mul_box (p := -d) (q := d) (r := -W) (t := W) h1 h2 k1 k2 (by omega) (by omega) (by omega) (by omega) (by omega) (by omega) (by omega) (by omega)

theorem rot_bd {e : X3} {d : Int} (h : orth e d) (hd : 0 ≤ d) {w : E3} {W : Int} (hw : bdE w W) :
    (-(3 * W * d) ≤ (apE e w).1 ∧ (apE e w).1 ≤ 3 * W * d) ∧ (-(3 * W * d) ≤ (apE e w).2.1 ∧ (apE e w).2.1 ≤ 3 * W * d) ∧ (-(3 * W * d) ≤ (apE e w).2.2 ∧ (apE e w).2.2 ≤ 3 * W * d) := by
  have row : ∀ x : E3, dotE x x = d * d → -(3 * W * d) ≤ dotE x w ∧ dotE x w ≤ 3 * W * d := by
    intro x hx
    obtain ⟨⟨a1, a2⟩, ⟨b1, b2⟩, ⟨c1, c2⟩⟩ := row_bd hx hd
    obtain ⟨⟨w1, w2⟩, ⟨w3, w4⟩, ⟨w5, w6⟩⟩ := hw
    have p1 := prod_le a1 a2 w1 w2
    have p2 := prod_le b1 b2 w3 w4
    have p3 := prod_le c1 c2 w5 w6
    have e1 : 3 * W * d = d * W + d * W + d * W := by grind
    unfold dotE
    omega
  exact ⟨row _ h.1, row _ h.2.1, row _ h.2.2.1⟩

/-- The squares of the distances of two points and of their images have a common number. -/
theorem rigid_meet {p : P4} {e : X3} {d : Int} {t : E3} (h : Ex p e d t 10000000) {u v : E3} (hu : bdE u 393216) (hv : bdE v 393216) :
    (armplanref1_Meet (armplanlaw11_square (armplanref1_SubVec (armplanref1_Point u) (armplanref1_Point v))) (armplanlaw11_square (armplanref1_SubVec (apP p (pointV u)) (apP p (pointV v))))).2 = true := by
  have hsq : ∀ x : V3, armplanlaw11_square x = sqV x := fun x => by
    unfold armplanlaw11_square t_armplanlaw11_square sqV
    simp only [Tr.val, sqR, addR]
  rw [hsq, hsq, subVR, subVR, pointR, pointR]
  have iu := inV_pt (d := 1) hu (by decide) (by decide)
  have iv := inV_pt (d := 1) hv (by decide) (by decide)
  have hw : bdE (subE u v) 786432 := by
    obtain ⟨⟨a1, a2⟩, ⟨a3, a4⟩, ⟨a5, a6⟩⟩ := hu
    obtain ⟨⟨b1, b2⟩, ⟨b3, b4⟩, ⟨b5, b6⟩⟩ := hv
    exact ⟨⟨by show -786432 ≤ u.1 - v.1; omega, by show u.1 - v.1 ≤ 786432; omega⟩, ⟨by show -786432 ≤ u.2.1 - v.2.1; omega, by show u.2.1 - v.2.1 ≤ 786432; omega⟩, ⟨by show -786432 ≤ u.2.2 - v.2.2; omega, by show u.2.2 - v.2.2 ≤ 786432; omega⟩⟩
  have i1 := inV_sub iu iv (by decide)
  rw [← pt_point hu (by decide), ← pt_point hv (by decide)] at i1
  have i1' : inV (subV (pointV u) (pointV v)) (subE u v) 1 786432 := inV_eq i1 (by unfold subE sc; simp) rfl
  have q1 := ex_point h hu (by decide) (by decide) (by decide)
  have q2 := ex_point h hv (by decide) (by decide) (by decide)
  have i2 := inV_sub q1 q2 (by decide)
  rw [sub_moved] at i2
  have hd := h.1.1
  obtain ⟨r1, r2, r3⟩ := rot_bd h.1.2.1.1 (Int.le_of_lt hd) hw
  have i2' : inV (subV (apP p (pointV u)) (apP p (pointV v))) (apE e (subE u v)) d 2359296 := ⟨in_bd i2.1 r1.1 r1.2, in_bd i2.2.1 r2.1 r2.2, in_bd i2.2.2 r3.1 r3.2⟩
  have s1 := in_sqV i1' (C := 9437184) (by decide) (by decide) (by decide) (by decide)
  have s2 := in_sqV i2' (C := 84934656) (by decide) (by decide) (by decide) (by decide)
  have hc := comb (trE e) h.1.2.1.2 (subE u v) (subE u v)
  rw [show trE (trE e) = e from rfl] at hc
  rw [hc] at s2
  have s3 := in_scale (k := d * d) (n := dotE (subE u v) (subE u v)) (d := 65536 * (1 * 1)) (Int.mul_pos hd hd) (in_eq s2 rfl (by grind))
  exact in_meet s1 s3

theorem krigid_law {l m : List Int} (hl : l.length ≤ maxLen) (hm : m.length ≤ maxLen) (at' : Int) : dom_armplanlaw11_KinematicsRigid l m at' = true ∧ armplanlaw11_KinematicsRigid l m at' = true := by
  unfold dom_armplanlaw11_KinematicsRigid armplanlaw11_KinematicsRigid t_armplanlaw11_KinematicsRigid
  obtain ⟨d1, g1⟩ := scene_ok hl
  generalize armplanmake_Scene l = s at *
  obtain ⟨d2, g2⟩ := conf_ok g1.1 hm
  generalize hC : armplanmake_Config s.1 m = c at *
  have hn := g1.1.2.1
  obtain ⟨d3, v3⟩ := boxR c (by rw [g2.1]; omega)
  obtain ⟨_, hbox, hbi⟩ := goodQ_box g1.1 g2
  generalize boxL c = b at *
  have hsc := good_scene g1
  have hr := good_robot g1.1
  have e2 : pointsL s b = s.2.1.map (pointsOf (linksN s.1 b s.1.1.length)) := by unfold pointsL; rw [dT hsc, hbox]; rfl
  obtain ⟨s0, s1, s2, _⟩ := scene_ok0 hsc
  have m1 : (s.2.1.map (pointsOf (linksN s.1 b s.1.1.length))).length = s.2.1.length := by simp
  have hsh := g1.2.2.1
  have dr : dom_armplanmake_Round at' ((s.2.1.length : Nat) : Int) = true := by
    unfold dom_armplanmake_Round t_armplanmake_Round
    have : decide (((s.2.1.length : Nat) : Int) = 0) = false := decide_eq_false (by omega)
    simp only [Tr.dom, Tr.ok, this, Bool.not_false, cond_true, Bool.and_true, Bool.and_false, cond_false]
  obtain ⟨r1, r2⟩ := round_eq (n := at') (k := ((s.2.1.length : Nat) : Int)) (by omega) (by omega)
  generalize hR : armplanmake_Round at' ((s.2.1.length : Nat) : Int) = k at *
  obtain ⟨i, rfl⟩ : ∃ i : Nat, k = (i : Int) := ⟨k.toNat, by omega⟩
  have hi : i < s.2.1.length := by omega
  have hx := links_ex g1.1 (b := b) (fun j hj => ⟨_, hbi j hj, (goodQ_bd g1.1 g2 hj).1, (goodQ_bd g1.1 g2 hj).2⟩) (parents_ok hr) s.1.1.length (Nat.le_refl _)
  obtain ⟨k1, k2⟩ := shape_link (s2 i hi)
  have hgs := g1.2.1 _ (getD_mem (d := dS) hi)
  have hlen8 := shapeB_len k2
  -- the pose of the shape
  have hpose : ∃ e d t, Ex (bif decide ((s.2.1.getD i dS).1 = -1) then (unitM, zeroV) else (linksN s.1 b s.1.1.length).getD (s.2.1.getD i dS).1.toNat dP) e d t 10000000 := by
    by_cases hc : (s.2.1.getD i dS).1 = -1
    · rw [dT hc]; exact ⟨_, _, _, ex_zero rt_unit (by decide) (by decide)⟩
    · rw [dF hc]
      unfold linkB at k1
      rw [Bool.and_eq_true, decide_eq_true_eq, decide_eq_true_eq] at k1
      obtain ⟨e, d, t, h⟩ := hx (s.2.1.getD i dS).1.toNat (by omega)
      exact ⟨e, d, t, ex_weak h (by omega)⟩
  have hpts : (s.2.1.map (pointsOf (linksN s.1 b s.1.1.length))).getD i (Ty.dflt (.list TIVec)) = pointsOf (linksN s.1 b s.1.1.length) (s.2.1.getD i dS) := map_getD _ _ dS _ hi
  have hpo : pointsOf (linksN s.1 b s.1.1.length) (s.2.1.getD i dS) = (s.2.1.getD i dS).2.2.map fun v => apP (bif decide ((s.2.1.getD i dS).1 = -1) then (unitM, zeroV) else (linksN s.1 b s.1.1.length).getD (s.2.1.getD i dS).1.toNat dP) (pointV v) := by
    unfold pointsOf placeL
    rw [k2]; rfl
  rw [hpo] at hpts
  obtain ⟨e, d, t, hex⟩ := hpose
  generalize (bif decide ((s.2.1.getD i dS).1 = -1) then (unitM, zeroV) else (linksN s.1 b s.1.1.length).getD (s.2.1.getD i dS).1.toNat dP : P4) = p at *
  generalize s.2.1.map (pointsOf (linksN s.1 b s.1.1.length)) = x at *
  generalize hP : (s.2.1.getD i dS).2.2 = ps at *
  have hpl : (x.getD i (Ty.dflt (.list TIVec))).length = ps.length := by rw [hpts, List.length_map]
  have key : dom_armplanlaw11_KinematicsRigid_L0 ((x, ()), ((i : Int), ()), (ps, ()), (1, ()), ()) = true ∧ val_armplanlaw11_KinematicsRigid_L0 ((x, ()), ((i : Int), ()), (ps, ()), (1, ()), ()) = .inl () := by
    unfold dom_armplanlaw11_KinematicsRigid_L0 val_armplanlaw11_KinematicsRigid_L0
    refine loop_to (step := step_armplanlaw11_KinematicsRigid_L0) (fun j => ((x, ()), ((i : Int), ()), (ps, ()), (((j + 1 : Nat) : Int), ()), ())) _ (ps.length - 1) (by omega) (fun j hj => ?_) ?_
    · have ew : IntKind.wrap .i64 (((j + 1 : Nat) : Int) + 1) = ((j + 1 + 1 : Nat) : Int) := wrap_succ (by omega)
      have hm1 : (x.getD i (Ty.dflt (.list TIVec))).getD (j + 1) (Ty.dflt TIVec) = apP p (pointV (ps.getD (j + 1) (Ty.dflt TVec))) := by rw [hpts]; exact map_getD _ _ _ _ (by omega)
      have hm0 : (x.getD i (Ty.dflt (.list TIVec))).getD 0 (Ty.dflt TIVec) = apP p (pointV (ps.getD 0 (Ty.dflt TVec))) := by rw [hpts]; exact map_getD _ _ _ _ (by omega)
      have hmeet := rigid_meet hex (hgs.2.2.1 _ (by rw [hP]; exact getD_mem (d := Ty.dflt TVec) (show j + 1 < ps.length by omega))) (hgs.2.2.1 _ (by rw [hP]; exact getD_mem (d := Ty.dflt TVec) (show 0 < ps.length by omega)))
      unfold step_armplanlaw11_KinematicsRigid_L0 t_armplanlaw11_KinematicsRigid_L0
      simp only [Tr.optA, Int.toNat_natCast, hpl, dT (show ((j + 1 : Nat) : Int) < (ps.length : Int) by omega), dT (show (i : Int) < (x.length : Int) by omega), dT (show 0 ≤ (i : Int) by omega), dT (show 0 ≤ ((j + 1 : Nat) : Int) by omega),
        dT (show (0 : Int) < (ps.length : Int) by omega), hm1, hm0, hmeet, ew, Bool.not_true, Bool.and_self, cond_true, cond_false, id]
    · unfold step_armplanlaw11_KinematicsRigid_L0 t_armplanlaw11_KinematicsRigid_L0
      simp only [Tr.optA, dF (show ¬ (((ps.length - 1 + 1 : Nat) : Int) < (ps.length : Int)) by omega), cond_false, id]
  simp only [Tr.dom, Tr.ok, Tr.val, d1, d2, hC, d3, v3, (pointsF _ _).1, (pointsF _ _).2, e2, m1, dEq, dT trivial, dr, hR, Int.toNat_natCast, hP, hpl, dT (show 0 ≤ (i : Int) by omega), dT (show (i : Int) < (s.2.1.length : Int) by omega), key.1, key.2, awake11.1, awake11.2,
    Bool.not_true, Bool.and_self, cond_true, cond_false, isL, getL]
  exact ⟨by first | trivial | rfl, by first | trivial | rfl⟩

end Go.RX

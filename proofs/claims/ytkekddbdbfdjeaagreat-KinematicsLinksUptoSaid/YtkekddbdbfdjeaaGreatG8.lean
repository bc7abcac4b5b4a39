/-
  What is made out of sources: joints, robots, scenes, boxes; loops by invariants.
-/
import Derived.Test.YtkekddbdbfdjeaaGreatG4
import Derived.Test.YtkekddbdbfdjeaaGreatG7
import Derived.Test.YtkekddbdbfdjeaaGreatG5
namespace Go.RX
open Go

/-- A loop by a measure and an invariant. -/
theorem loop_run {X Y : Type} (step : X → Option (X ⊕ Y)) (I : Nat → X → Prop) (Q : Y → Prop) (h : ∀ n x, I n x → (∃ x' m, step x = some (.inl x') ∧ m < n ∧ I m x') ∨ ∃ y, step x = some (.inr y) ∧ Q y) :
    ∀ (k n : Nat) (x : X), I n x → n < k → ∃ y, loopN step k x = some y ∧ Q y
  | 0, n, x, _, hk => by omega
  | k + 1, n, x, hi, hk => by
    simp only [loopN]
    rcases h n x hi with ⟨x', m, hs, hm, hi'⟩ | ⟨y, hs, hq⟩
    · rw [hs]; exact loop_run step I Q h k m x' hi' (by omega)
    · rw [hs]; exact ⟨y, rfl, hq⟩

theorem loop_end {X Y : Type} [Inhabited Y] {step : X → Option (X ⊕ Y)} {x : X} {Q : Y → Prop} (h : ∃ y, loopN step rounds x = some y ∧ Q y) : (loopN step rounds x).isSome = true ∧ Q ((loopN step rounds x).getD default) := by
  obtain ⟨y, h1, h2⟩ := h
  rw [h1]; exact ⟨rfl, h2⟩

abbrev Jt := ByteArray × (Int × (Int × ((Int × (Int × Int)) × (Int × (Int × (Int × (Int × (Int × Int))))))))

/-- Joint i as it is made, but for a fixed one. -/
def goodJ0 (i : Int) (j : Jt) : Prop := j.1 = armplanmake_letter i ∧ (0 ≤ j.2.1 ∧ j.2.1 ≤ 5) ∧ (j.2.2.1 = -1 ∨ j.2.2.1 = i - 1) ∧ bdE j.2.2.2.1 131072 ∧
  (-131072 ≤ j.2.2.2.2.1 ∧ j.2.2.2.2.1 ≤ 0 ∧ 0 ≤ j.2.2.2.2.2.1 ∧ j.2.2.2.2.2.1 ≤ 131072) ∧ (1 ≤ j.2.2.2.2.2.2.1 ∧ j.2.2.2.2.2.2.1 ≤ 4) ∧ j.2.2.2.2.2.2.2.1 = 65536 ∧ (65536 ≤ j.2.2.2.2.2.2.2.2.1 ∧ j.2.2.2.2.2.2.2.2.1 ≤ 65538) ∧ j.2.2.2.2.2.2.2.2.2 = 327680

theorem letter_ok {i : Int} (h1 : 0 ≤ i) (h2 : i ≤ 9) : dom_armplanmake_letter i = true := by
  unfold dom_armplanmake_letter t_armplanmake_letter
  have e : IntKind.wrap .i64 (i + 1) = i + 1 := wrap64 (by omega) (by omega)
  simp only [Tr.dom, Tr.ok, e]
  rw [decide_eq_true h1, decide_eq_true (show i ≤ i + 1 by omega), decide_eq_true (show i + 1 ≤ 10 by omega)]; rfl

theorem kind_tab {r : Int} (h1 : 0 ≤ r) (h2 : r < 8) : 0 ≤ List.getD [3, 3, 1, 2, 4, 5, 3, 0] r.toNat (0 : Int) ∧ List.getD [3, 3, 1, 2, 4, 5, 3, 0] r.toNat (0 : Int) ≤ 5 := by
  have : ∀ n : Nat, n < 8 → 0 ≤ List.getD [3, 3, 1, 2, 4, 5, 3, 0] n (0 : Int) ∧ List.getD [3, 3, 1, 2, 4, 5, 3, 0] n (0 : Int) ≤ 5 := by decide
  exact this r.toNat (by omega)

theorem lim_slide {a b : Int} (a1 : 0 ≤ a) (a2 : a < 3) (b1 : 0 ≤ b) (b2 : b < 4) : IntKind.wrap .i64 (IntKind.wrap .i64 (0 - a) * 65536) = -(a * 65536) ∧ IntKind.wrap .i64 (b * 32768) = b * 32768 := by
  rw [wrap64 (x := 0 - a) (by omega) (by omega), wrap64 (by omega) (by omega), wrap64 (by omega) (by omega)]
  exact ⟨by omega, rfl⟩
theorem lim_turn {a b c : Int} (a1 : 0 ≤ a) (a2 : a < 5) (b1 : 0 ≤ b) (b2 : b < 4) (c1 : 0 ≤ c) (c2 : c < 3) : IntKind.wrap .i64 (Int.tdiv (IntKind.wrap .i64 (IntKind.wrap .i64 (0 - a) * 65536)) 8) = -(a * 8192) ∧
    IntKind.wrap .i64 (IntKind.wrap .i64 (Int.tdiv (IntKind.wrap .i64 (IntKind.wrap .i64 (1 + b) * 65536)) 8) + c) = (1 + b) * 8192 + c := by
  have td : ∀ z : Int, Int.tdiv (z * 65536) 8 = z * 8192 := fun z => by rw [show z * 65536 = 8 * (z * 8192) by omega]; exact Int.mul_tdiv_cancel_left _ (by decide)
  rw [wrap64 (x := 0 - a) (by omega) (by omega), wrap64 (x := (0 - a) * 65536) (by omega) (by omega), td, wrap64 (x := (0 - a) * 8192) (by omega) (by omega),
    wrap64 (x := 1 + b) (by omega) (by omega), wrap64 (x := (1 + b) * 65536) (by omega) (by omega), td, wrap64 (x := (1 + b) * 8192) (by omega) (by omega), wrap64 (by omega) (by omega)]
  exact ⟨by omega, rfl⟩

set_option maxHeartbeats 2000000 in
theorem joint_ok0 {s : List Int × Int} (h : srcOk s) {i : Int} (i1 : 0 ≤ i) (i2 : i ≤ 9) : dom_armplanmake_joint s i = true ∧ srcOk (armplanmake_joint s i).2 ∧ goodJ0 i (armplanmake_joint s i).1 := by
  unfold dom_armplanmake_joint armplanmake_joint t_armplanmake_joint
  have hl := letter_ok i1 i2
  obtain ⟨d3, o3, a3, b3⟩ := next_ok h (k := 4) (by omega) (by omega)
  generalize hr3 : armplanmake_Source_Next s 4 = r3 at *
  obtain ⟨d5, o5, a5, b5⟩ := next_ok o3 (k := 3) (by omega) (by omega)
  generalize hr5 : armplanmake_Source_Next r3.2 3 = r5 at *
  obtain ⟨d7, o7, a7, b7⟩ := next_ok o5 (k := 8) (by omega) (by omega)
  generalize hr7 : armplanmake_Source_Next r5.2 8 = r7 at *
  obtain ⟨d9, o9, a9, b9⟩ := next_ok o7 (k := 4) (by omega) (by omega)
  generalize hr9 : armplanmake_Source_Next r7.2 4 = r9 at *
  obtain ⟨k1, k2⟩ := kind_tab a7 b7
  generalize hkd : List.getD [3, 3, 1, 2, 4, 5, 3, 0] r7.1.toNat (0 : Int) = kd at *
  obtain ⟨d12, o12, a12, b12⟩ := signed_ok o9 (k := 2) (by omega) (by omega)
  generalize hr12 : armplanmake_Source_Signed r9.2 2 = r12 at *
  obtain ⟨d14, o14, a14, b14⟩ := signed_ok o12 (k := 1) (by omega) (by omega)
  generalize hr14 : armplanmake_Source_Signed r12.2 1 = r14 at *
  obtain ⟨dp1, op1, ap1, bp1⟩ := next_ok o9 (k := 3) (by omega) (by omega)
  generalize hp1 : armplanmake_Source_Next r9.2 3 = p1 at *
  obtain ⟨dp2, op2, ap2, bp2⟩ := next_ok op1 (k := 4) (by omega) (by omega)
  generalize hp2 : armplanmake_Source_Next p1.2 4 = p2 at *
  obtain ⟨dp3, op3, ap3, bp3⟩ := next_ok o9 (k := 5) (by omega) (by omega)
  generalize hp3 : armplanmake_Source_Next r9.2 5 = p3 at *
  obtain ⟨dp4, op4, ap4, bp4⟩ := next_ok op3 (k := 4) (by omega) (by omega)
  generalize hp4 : armplanmake_Source_Next p3.2 4 = p4 at *
  obtain ⟨dp5, op5, ap5, bp5⟩ := next_ok op4 (k := 3) (by omega) (by omega)
  generalize hp5 : armplanmake_Source_Next p4.2 3 = p5 at *
  obtain ⟨dq1, oq1, aq1, bq1⟩ := next_ok o14 (k := 3) (by omega) (by omega)
  generalize hq1 : armplanmake_Source_Next r14.2 3 = q1 at *
  obtain ⟨dq2, oq2, aq2, bq2⟩ := next_ok oq1 (k := 4) (by omega) (by omega)
  generalize hq2 : armplanmake_Source_Next q1.2 4 = q2 at *
  obtain ⟨dq3, oq3, aq3, bq3⟩ := next_ok o14 (k := 5) (by omega) (by omega)
  generalize hq3 : armplanmake_Source_Next r14.2 5 = q3 at *
  obtain ⟨dq4, oq4, aq4, bq4⟩ := next_ok oq3 (k := 4) (by omega) (by omega)
  generalize hq4 : armplanmake_Source_Next q3.2 4 = q4 at *
  obtain ⟨dq5, oq5, aq5, bq5⟩ := next_ok oq4 (k := 3) (by omega) (by omega)
  generalize hq5 : armplanmake_Source_Next q4.2 3 = q5 at *
  obtain ⟨ep1, ep2⟩ := lim_slide ap1 bp1 ap2 bp2
  obtain ⟨ep3, ep4⟩ := lim_turn ap3 bp3 ap4 bp4 ap5 bp5
  obtain ⟨eq1, eq2⟩ := lim_slide aq1 bq1 aq2 bq2
  obtain ⟨eq3, eq4⟩ := lim_turn aq3 bq3 aq4 bq4 aq5 bq5
  have e1 : IntKind.wrap .i64 (i - 1) = i - 1 := wrap64 (by omega) (by omega)
  have e4 : IntKind.wrap .i64 (1 + r3.1) = 1 + r3.1 := wrap64 (by omega) (by omega)
  have e6 : IntKind.wrap .i64 (65536 + r5.1) = 65536 + r5.1 := wrap64 (by omega) (by omega)
  have e13 : IntKind.wrap .i64 (r12.1 * 32768) = r12.1 * 32768 := wrap64 (by omega) (by omega)
  have e15 : IntKind.wrap .i64 (r14.1 * 32768) = r14.1 * 32768 := wrap64 (by omega) (by omega)
  simp only [hr3, hr5, hr7, hr9, hkd, hr12, hr14, hp1, hp2, hp3, hp4, hp5, hq1, hq2, hq3, hq4, hq5, Tr.dom, Tr.ok, Tr.val, hl, d3, d5, d7, d9, d12, d14, dp1, dp2, dp3, dp4, dp5, dq1, dq2, dq3, dq4, dq5, ep1, ep2, ep3, ep4, eq1, eq2, eq3, eq4, e1, e4, e6, e13, e15,
    decide_eq_true a7, decide_eq_true b7, Bool.and_self, cond_true]
  clear hr3 hr5 hr7 hr9 hkd hr12 hr14 hp1 hp2 hp3 hp4 hp5 hq1 hq2 hq3 hq4 hq5
  have off : bdE (131072, (r12.1 * 32768, r14.1 * 32768)) 131072 := ⟨⟨by dsimp only; omega, by dsimp only; omega⟩, ⟨by dsimp only; omega, by dsimp only; omega⟩, ⟨by dsimp only; omega, by dsimp only; omega⟩⟩
  have off0 : bdE (0, (0, 0)) 131072 := ⟨⟨by decide, by decide⟩, ⟨by decide, by decide⟩, ⟨by decide, by decide⟩⟩
  have zz : (-131072 : Int) ≤ 0 ∧ (0 : Int) ≤ 0 ∧ (0 : Int) ≤ 0 ∧ (0 : Int) ≤ 131072 := by decide
  have l1 : -131072 ≤ -(p1.1 * 65536) ∧ -(p1.1 * 65536) ≤ 0 ∧ 0 ≤ p2.1 * 32768 ∧ p2.1 * 32768 ≤ 131072 := by omega
  have l2 : -131072 ≤ -(p3.1 * 8192) ∧ -(p3.1 * 8192) ≤ 0 ∧ 0 ≤ (1 + p4.1) * 8192 + p5.1 ∧ (1 + p4.1) * 8192 + p5.1 ≤ 131072 := by omega
  have l3 : -131072 ≤ -(q1.1 * 65536) ∧ -(q1.1 * 65536) ≤ 0 ∧ 0 ≤ q2.1 * 32768 ∧ q2.1 * 32768 ≤ 131072 := by omega
  have l4 : -131072 ≤ -(q3.1 * 8192) ∧ -(q3.1 * 8192) ≤ 0 ∧ 0 ≤ (1 + q4.1) * 8192 + q5.1 ∧ (1 + q4.1) * 8192 + q5.1 ≤ 131072 := by omega
  have w : 1 ≤ 1 + r3.1 ∧ 1 + r3.1 ≤ 4 := by omega
  have ac : 65536 ≤ 65536 + r5.1 ∧ 65536 + r5.1 ≤ 65538 := by omega
  have go : ∀ {pa : Int} {of : Int × (Int × Int)} {lo hi : Int}, (pa = -1 ∨ pa = i - 1) → bdE of 131072 → (-131072 ≤ lo ∧ lo ≤ 0 ∧ 0 ≤ hi ∧ hi ≤ 131072) →
      goodJ0 i (armplanmake_letter i, (kd, (pa, (of, (lo, (hi, (1 + r3.1, (65536, (65536 + r5.1, 327680))))))))) := fun h1 h2 h3 => ⟨rfl, ⟨k1, k2⟩, h1, h2, h3, w, rfl, ac, rfl⟩
  have pl : (-1 : Int) = -1 ∨ (-1 : Int) = i - 1 := .inl rfl
  have pr : i - 1 = -1 ∨ i - 1 = i - 1 := .inr rfl
  cases decide (r9.1 = 1) <;> cases decide (0 < i) <;> cases decide (kd = 0) <;> cases decide (kd = 4) <;> cases decide (kd = 5) <;> simp only [cond_true, cond_false]
  all_goals
    refine ⟨by first | trivial | rfl, by assumption, ?_⟩
    first | exact go pl off l3 | exact go pl off l4 | exact go pl off zz | exact go pl off0 l1 | exact go pl off0 l2 | exact go pl off0 zz | exact go pr off l3 | exact go pr off l4 | exact go pr off zz | exact go pr off0 l1 | exact go pr off0 l2 | exact go pr off0 zz

/-- A fixed joint does not move. -/
def fixedJ (j : DJoint) : Prop := j.2.1 = 0 → j.2.2.2.2.1 = 0 ∧ j.2.2.2.2.2.1 = 0

/-- What holds at every end of a tree. -/
def _root_.Go.RX.Tr.allP {R : Type} (p : R → Prop) : Tr R → Prop
  | .leaf r => p r
  | .br c a b => (c = true → a.allP p) ∧ (c = false → b.allP p)
  | .fail => True
theorem _root_.Go.RX.Tr.val_all {R : Type} [Inhabited R] {p : R → Prop} (hd : p default) : ∀ t : Tr R, t.allP p → p t.val
  | .leaf _, h => h
  | .br true a _, h => Tr.val_all hd a (h.1 rfl)
  | .br false _ b, h => Tr.val_all hd b (h.2 rfl)
  | .fail, _ => hd

theorem joint_fixed (s : List Int × Int) (i : Int) : fixedJ (armplanmake_joint s i).1 := by
  refine Tr.val_all (p := fun r : DJoint × DSource => fixedJ r.1) (fun _ => ⟨rfl, rfl⟩) (t_armplanmake_joint s i) ?_
  unfold t_armplanmake_joint
  simp only [Tr.allP]
  generalize List.getD [3, 3, 1, 2, 4, 5, 3, 0] _ (0 : Int) = kd
  have hz : ∀ {nm : ByteArray} {pa : Int} {of : DVec} {w1 w2 w3 w4 : Int}, fixedJ (nm, (kd, (pa, (of, (0, (0, (w1, (w2, (w3, w4))))))))) := fun _ => ⟨rfl, rfl⟩
  have hn : ∀ {nm : ByteArray} {pa lo hi : Int} {of : DVec} {w1 w2 w3 w4 : Int}, decide (kd = 0) = false → fixedJ (nm, (kd, (pa, (of, (lo, (hi, (w1, (w2, (w3, w4))))))))) := fun h h0 => absurd h0 (of_decide_eq_false h)
  repeat' (first | exact hz | exact hn (by assumption) | exact trivial | (refine And.intro ?_ ?_) | intro _)

/-- Joint i as it is made. -/
def goodJ (i : Int) (j : DJoint) : Prop := goodJ0 i j ∧ fixedJ j
theorem joint_ok {s : List Int × Int} (h : srcOk s) {i : Int} (i1 : 0 ≤ i) (i2 : i ≤ 9) : dom_armplanmake_joint s i = true ∧ srcOk (armplanmake_joint s i).2 ∧ goodJ i (armplanmake_joint s i).1 :=
  let ⟨a, b, c⟩ := joint_ok0 h i1 i2
  ⟨a, b, c, joint_fixed s i⟩

end Go.RX

/-
  What is made out of sources: robots, points, scenes, boxes.
-/
namespace Go.RX
open Go

def goodL (js : List Jt) : Prop := ∀ (k : Nat) (j : Jt), js[k]? = some j → goodJ k j

theorem goodL_snoc {js : List Jt} {j : Jt} (h : goodL js) (hj : goodJ js.length j) : goodL (js ++ [j]) := by
  intro k x hx
  rw [List.getElem?_append] at hx
  split at hx
  · exact h k x hx
  · have : k - js.length = 0 := by
      rcases Nat.eq_zero_or_pos (k - js.length) with e | e
      · exact e
      · rw [List.getElem?_eq_none (by simp; omega)] at hx; simp at hx
    rw [this] at hx
    simp only [List.getElem?_cons_zero, Option.some.injEq] at hx
    rw [← hx, show k = js.length by omega]; exact hj

theorem room_ok {n : Nat} (h : n ≤ 4294967296) : room n = true := decide_eq_true h

theorem rL0_more {s : List Int × Int} {js : List Jt} {ms : List (Int × (Int × (Int × (Int × Int))))} {n i : Int} (h1 : srcOk s) (i0 : 0 ≤ i) (hi : i < n) (n2 : n ≤ 3) (hl : (js.length : Int) = i) :
    step_armplanmake_robot_L0 ((s, ()), (js, ms, ()), (n, ()), (i, ()), ()) = some (.inl (((armplanmake_joint s i).2, ()), ((js ++ [(armplanmake_joint s i).1]), ms, ()), (n, ()), (i + 1, ()), ())) := by
  obtain ⟨d, o, g⟩ := joint_ok h1 i0 (show i ≤ 9 by omega)
  have hr : room (js.length + [(armplanmake_joint s i).1].length) = true := room_ok (by simp; omega)
  have e : IntKind.wrap .i64 (i + 1) = i + 1 := wrap64 (by omega) (by omega)
  unfold step_armplanmake_robot_L0 t_armplanmake_robot_L0
  simp only [Tr.optA, decide_eq_true hi, d, hr, cond_true, e, id]
theorem rL0_end {s : List Int × Int} {js : List Jt} {ms : List (Int × (Int × (Int × (Int × Int))))} {n i : Int} (hi : ¬ i < n) :
    step_armplanmake_robot_L0 ((s, ()), (js, ms, ()), (n, ()), (i, ()), ()) = some (.inr ((s, ()), (js, ms, ()), (n, ()), ())) := by
  unfold step_armplanmake_robot_L0 t_armplanmake_robot_L0
  simp only [Tr.optA, decide_eq_false hi, cond_false, id]

theorem robotL0 {s : List Int × Int} (hs : srcOk s) {n : Int} (n1 : 1 ≤ n) (n2 : n ≤ 3) :
    dom_armplanmake_robot_L0 ((s, ()), ([], [], ()), (n, ()), (0, ()), ()) = true ∧ ∃ s' js, val_armplanmake_robot_L0 ((s, ()), ([], [], ()), (n, ()), (0, ()), ()) = ((s', ()), (js, [], ()), (n, ()), ()) ∧ srcOk s' ∧ goodL js ∧ (js.length : Int) = n := by
  unfold dom_armplanmake_robot_L0 val_armplanmake_robot_L0
  refine loop_end (Q := fun y : Outs os_armplanmake_robot_L0 => ∃ (s' : List Int × Int) (js : List Jt), y = ((s', ()), (js, [], ()), (n, ()), ()) ∧ srcOk s' ∧ goodL js ∧ (js.length : Int) = n)
    (loop_run step_armplanmake_robot_L0 (fun m x => ∃ (s' : List Int × Int) (js : List Jt) (i : Int), x = ((s', ()), (js, [], ()), (n, ()), (i, ()), ()) ∧ srcOk s' ∧ goodL js ∧ (js.length : Int) = i ∧ 0 ≤ i ∧ i + m = n) _ ?_ rounds n.toNat _ ⟨s, [], 0, rfl, hs, fun k j hj => by simp at hj, rfl, Int.le_refl _, ?_⟩ ?_)
  · rintro m x ⟨s', js, i, rfl, h1, h2, h3, h4, h5⟩
    by_cases hi : i < n
    · have g := (joint_ok h1 h4 (show i ≤ 9 by omega))
      exact .inl ⟨_, m - 1, rL0_more h1 h4 hi n2 h3, by omega, _, _, _, rfl, g.2.1, goodL_snoc h2 (by rw [h3]; exact g.2.2), by simp; omega, by omega, by omega⟩
    · exact .inr ⟨_, rL0_end hi, _, _, rfl, h1, h2, by omega⟩
  · omega
  · unfold rounds; omega

abbrev Ma := Int × (Int × (Int × (Int × Int)))
/-- A mass as it is made. -/
def goodM (n : Int) (x : Ma) : Prop := (0 ≤ x.1 ∧ x.1 < n) ∧ (1 ≤ x.2.1 ∧ x.2.1 ≤ 9000) ∧ bdE x.2.2 131072
def allM (n : Int) (ms : List Ma) : Prop := ∀ x ∈ ms, goodM n x

theorem rL2_more {s : List Int × Int} {js : List Jt} {ms : List Ma} {n i : Int} (h1 : srcOk s) (n1 : 1 ≤ n) (n2 : n ≤ 3) (i0 : 0 < i) (i3 : i ≤ 3) (hl : ms.length ≤ 100) :
    ∃ s' x, srcOk s' ∧ goodM n x ∧ step_armplanmake_robot_L2 ((s, ()), (js, ms, ()), (n, ()), (i, ()), ()) = some (.inl ((s', ()), (js, ms ++ [x], ()), (n, ()), (i - 1, ()), ())) := by
  unfold step_armplanmake_robot_L2 t_armplanmake_robot_L2
  obtain ⟨d1, o1, a1, b1⟩ := next_ok h1 (k := n) (by omega) (by omega)
  generalize hr1 : armplanmake_Source_Next s n = r1 at *
  obtain ⟨d2, o2, a2, b2⟩ := next_ok o1 (k := 9000) (by omega) (by omega)
  generalize hr2 : armplanmake_Source_Next r1.2 9000 = r2 at *
  obtain ⟨d3, o3, a3, b3⟩ := signed_ok o2 (k := 3) (by omega) (by omega)
  generalize hr3 : armplanmake_Source_Signed r2.2 3 = r3 at *
  obtain ⟨d4, o4, a4, b4⟩ := signed_ok o3 (k := 2) (by omega) (by omega)
  generalize hr4 : armplanmake_Source_Signed r3.2 2 = r4 at *
  have e1 : IntKind.wrap .i64 (1 + r2.1) = 1 + r2.1 := wrap64 (by omega) (by omega)
  have e2 : IntKind.wrap .i64 (r3.1 * 32768) = r3.1 * 32768 := wrap64 (by omega) (by omega)
  have e3 : IntKind.wrap .i64 (r4.1 * 32768) = r4.1 * 32768 := wrap64 (by omega) (by omega)
  have e4 : IntKind.wrap .i64 (i - 1) = i - 1 := wrap64 (by omega) (by omega)
  have hr : room (ms.length + 1) = true := room_ok (by omega)
  refine ⟨r4.2, (r1.1, (1 + r2.1, (r3.1 * 32768, (0, r4.1 * 32768)))), o4, ⟨⟨a1, b1⟩, ⟨by dsimp only; omega, by dsimp only; omega⟩, ⟨⟨by dsimp only; omega, by dsimp only; omega⟩, ⟨by dsimp only; omega, by dsimp only; omega⟩, ⟨by dsimp only; omega, by dsimp only; omega⟩⟩⟩, ?_⟩
  simp only [Tr.optA, decide_eq_true i0, hr2, hr3, hr4, d1, d2, d3, d4, List.length_singleton, hr, e1, e2, e3, e4, cond_true, id]
theorem rL2_end {s : List Int × Int} {js : List Jt} {ms : List Ma} {n i : Int} (hi : ¬ 0 < i) :
    step_armplanmake_robot_L2 ((s, ()), (js, ms, ()), (n, ()), (i, ()), ()) = some (.inr ((s, ()), (js, ms, ()), ())) := by
  unfold step_armplanmake_robot_L2 t_armplanmake_robot_L2
  simp only [Tr.optA, decide_eq_false hi, cond_false, id]

theorem robotL2 {s : List Int × Int} (hs : srcOk s) (js : List Jt) {n : Int} (n1 : 1 ≤ n) (n2 : n ≤ 3) {k : Int} (k1 : 0 ≤ k) (k2 : k ≤ 2) :
    dom_armplanmake_robot_L2 ((s, ()), (js, [], ()), (n, ()), (k, ()), ()) = true ∧ ∃ s' ms, val_armplanmake_robot_L2 ((s, ()), (js, [], ()), (n, ()), (k, ()), ()) = ((s', ()), (js, ms, ()), ()) ∧ srcOk s' ∧ allM n ms ∧ ms.length ≤ 2 := by
  unfold dom_armplanmake_robot_L2 val_armplanmake_robot_L2
  refine loop_end (Q := fun y : Outs os_armplanmake_robot_L2 => ∃ (s' : List Int × Int) (ms : List Ma), y = ((s', ()), (js, ms, ()), ()) ∧ srcOk s' ∧ allM n ms ∧ ms.length ≤ 2)
    (loop_run step_armplanmake_robot_L2 (fun m x => ∃ (s' : List Int × Int) (ms : List Ma) (i : Int), x = ((s', ()), (js, ms, ()), (n, ()), (i, ()), ()) ∧ srcOk s' ∧ allM n ms ∧ ms.length + m ≤ 2 ∧ 0 ≤ i ∧ i = m) _ ?_ rounds k.toNat _ ⟨s, [], k, rfl, hs, fun x hx => by simp at hx, by simp; omega, k1, by omega⟩ ?_)
  · rintro m x ⟨s', ms, i, rfl, h1, h2, h3, h4, h5⟩
    by_cases hi : 0 < i
    · obtain ⟨s2, y, o, g, e⟩ := rL2_more (js := js) (ms := ms) h1 n1 n2 hi (by omega) (by omega)
      exact .inl ⟨_, m - 1, e, by omega, _, _, _, rfl, o, fun z hz => by
        simp only [List.mem_append, List.mem_singleton] at hz
        exact hz.elim (h2 z) (fun e => by rw [e]; exact g), by simp; omega, by omega, by omega⟩
    · exact .inr ⟨_, rL2_end hi, _, _, rfl, h1, h2, by omega⟩
  · unfold rounds; omega

/-- A robot as it is made. -/
def goodR (r : List Jt × List Ma) : Prop := goodL r.1 ∧ (1 ≤ r.1.length ∧ r.1.length ≤ 3) ∧ allM r.1.length r.2 ∧ r.2.length ≤ 2

theorem robot_ok {s : List Int × Int} (hs : srcOk s) : dom_armplanmake_robot s = true ∧ srcOk (armplanmake_robot s).2 ∧ goodR (armplanmake_robot s).1 := by
  unfold dom_armplanmake_robot armplanmake_robot t_armplanmake_robot
  obtain ⟨d1, o1, a1, b1⟩ := next_ok hs (k := 3) (by omega) (by omega)
  generalize hr1 : armplanmake_Source_Next s 3 = r1 at *
  have e1 : IntKind.wrap .i64 (1 + r1.1) = 1 + r1.1 := wrap64 (by omega) (by omega)
  obtain ⟨d2, s2, js, e2, o2, g2, l2⟩ := robotL0 o1 (n := 1 + r1.1) (by omega) (by omega)
  obtain ⟨d3, o3, a3, b3⟩ := next_ok o2 (k := 3) (by omega) (by omega)
  generalize hr3 : armplanmake_Source_Next s2 3 = r3 at *
  obtain ⟨d4, s4, ms, e4, o4, g4, l4⟩ := robotL2 o3 js (n := 1 + r1.1) (by omega) (by omega) (k := r3.1) a3 (by omega)
  simp only [Tr.dom, Tr.ok, Tr.val, e1, e2, d1, d2, hr3, d3, d4, e4, cond_true]
  exact ⟨by first | trivial | rfl, o4, g2, (show 1 ≤ js.length ∧ js.length ≤ 3 by omega), (show allM (js.length : Int) ms by rw [l2]; exact g4), l4⟩

/- POINTS -/

def allE (B : Int) (l : List E3) : Prop := ∀ x ∈ l, bdE x B

theorem pL_more {s : List Int × Int} {c : E3} {l : List E3} {i : Int} (h1 : srcOk s) (hc : bdE c 294912) (i0 : 0 < i) (i3 : i ≤ 3) (hl : l.length ≤ 100) :
    ∃ s' x, srcOk s' ∧ bdE x 393216 ∧ step_armplanmake_points_L0 ((s, ()), (c, ()), (l, ()), (i, ()), ()) = some (.inl ((s', ()), (c, ()), (l ++ [x], ()), (i - 1, ()), ())) := by
  unfold step_armplanmake_points_L0 t_armplanmake_points_L0
  obtain ⟨⟨c1, c2⟩, ⟨c3, c4⟩, ⟨c5, c6⟩⟩ := hc
  obtain ⟨d1, o1, a1, b1⟩ := signed_ok h1 (k := 3) (by omega) (by omega)
  generalize hr1 : armplanmake_Source_Signed s 3 = r1 at *
  obtain ⟨d2, o2, a2, b2⟩ := signed_ok o1 (k := 2) (by omega) (by omega)
  generalize hr2 : armplanmake_Source_Signed r1.2 2 = r2 at *
  obtain ⟨d3, o3, a3, b3⟩ := signed_ok o2 (k := 2) (by omega) (by omega)
  generalize hr3 : armplanmake_Source_Signed r2.2 2 = r3 at *
  have e1 : IntKind.wrap .i64 (r1.1 * 32768) = r1.1 * 32768 := wrap64 (by omega) (by omega)
  have e2 : IntKind.wrap .i64 (r2.1 * 32768) = r2.1 * 32768 := wrap64 (by omega) (by omega)
  have e3 : IntKind.wrap .i64 (r3.1 * 32768) = r3.1 * 32768 := wrap64 (by omega) (by omega)
  have f1 : IntKind.wrap .i64 (c.1 + r1.1 * 32768) = c.1 + r1.1 * 32768 := wrap64 (by omega) (by omega)
  have f2 : IntKind.wrap .i64 (c.2.1 + r2.1 * 32768) = c.2.1 + r2.1 * 32768 := wrap64 (by omega) (by omega)
  have f3 : IntKind.wrap .i64 (c.2.2 + r3.1 * 32768) = c.2.2 + r3.1 * 32768 := wrap64 (by omega) (by omega)
  have e4 : IntKind.wrap .i64 (i - 1) = i - 1 := wrap64 (by omega) (by omega)
  have hr : room (l.length + 1) = true := room_ok (by omega)
  refine ⟨r3.2, (c.1 + r1.1 * 32768, (c.2.1 + r2.1 * 32768, c.2.2 + r3.1 * 32768)), o3, ⟨⟨by dsimp only; omega, by dsimp only; omega⟩, ⟨by dsimp only; omega, by dsimp only; omega⟩, ⟨by dsimp only; omega, by dsimp only; omega⟩⟩, ?_⟩
  simp only [Tr.optA, decide_eq_true i0, hr1, hr2, hr3, d1, d2, d3, List.length_singleton, hr, e1, e2, e3, e4, f1, f2, f3, cond_true, id]
theorem pL_end {s : List Int × Int} {c : E3} {l : List E3} {i : Int} (hi : ¬ 0 < i) :
    step_armplanmake_points_L0 ((s, ()), (c, ()), (l, ()), (i, ()), ()) = some (.inr ((s, ()), (c, ()), (l, ()), ())) := by
  unfold step_armplanmake_points_L0 t_armplanmake_points_L0
  simp only [Tr.optA, decide_eq_false hi, cond_false, id]

theorem points_ok {s : List Int × Int} (hs : srcOk s) {c : E3} (hc : bdE c 294912) : dom_armplanmake_points s c = true ∧ srcOk (armplanmake_points s c).2 ∧ allE 393216 (armplanmake_points s c).1 ∧ 1 ≤ (armplanmake_points s c).1.length ∧ (armplanmake_points s c).1.length ≤ 4 := by
  unfold dom_armplanmake_points armplanmake_points t_armplanmake_points
  obtain ⟨d1, o1, a1, b1⟩ := next_ok hs (k := 4) (by omega) (by omega)
  generalize hr1 : armplanmake_Source_Next s 4 = r1 at *
  have hc' : bdE c 393216 := by
    obtain ⟨⟨c1, c2⟩, ⟨c3, c4⟩, ⟨c5, c6⟩⟩ := hc
    exact ⟨⟨by omega, by omega⟩, ⟨by omega, by omega⟩, ⟨by omega, by omega⟩⟩
  have key : dom_armplanmake_points_L0 ((r1.2, ()), (c, ()), ([c], ()), (r1.1, ()), ()) = true ∧ ∃ s' l, val_armplanmake_points_L0 ((r1.2, ()), (c, ()), ([c], ()), (r1.1, ()), ()) = ((s', ()), (c, ()), (l, ()), ()) ∧ srcOk s' ∧ allE 393216 l ∧ 1 ≤ l.length ∧ l.length ≤ 4 := by
    unfold dom_armplanmake_points_L0 val_armplanmake_points_L0
    refine loop_end (Q := fun y : Outs os_armplanmake_points_L0 => ∃ (s' : List Int × Int) (l : List E3), y = ((s', ()), (c, ()), (l, ()), ()) ∧ srcOk s' ∧ allE 393216 l ∧ 1 ≤ l.length ∧ l.length ≤ 4)
      (loop_run step_armplanmake_points_L0 (fun m x => ∃ (s' : List Int × Int) (l : List E3) (i : Int), x = ((s', ()), (c, ()), (l, ()), (i, ()), ()) ∧ srcOk s' ∧ allE 393216 l ∧ 1 ≤ l.length ∧ l.length + m ≤ 4 ∧ 0 ≤ i ∧ i = m) _ ?_ rounds r1.1.toNat _ ⟨r1.2, [c], r1.1, rfl, o1, fun x hx => by
        simp only [List.mem_singleton] at hx
        rw [hx]; exact hc', by simp, by simp only [List.length_singleton]; omega, a1, by omega⟩ ?_)
    · rintro m x ⟨s', l, i, rfl, h1, h2, h3, h4, h5, h6⟩
      by_cases hi : 0 < i
      · obtain ⟨s2, y, o, g, e⟩ := pL_more (l := l) h1 hc hi (by omega) (by omega)
        exact .inl ⟨_, m - 1, e, by omega, _, _, _, rfl, o, fun z hz => by
          simp only [List.mem_append, List.mem_singleton] at hz
          exact hz.elim (h2 z) (fun e => by rw [e]; exact g), by simp, by simp; omega, by omega, by omega⟩
      · exact .inr ⟨_, pL_end hi, _, _, rfl, h1, h2, h3, by omega⟩
    · unfold rounds; omega
  obtain ⟨d2, s2, l, e2, o2, g2, l1, l2⟩ := key
  simp only [Tr.dom, Tr.ok, Tr.val, d1, d2, e2, cond_true]
  exact ⟨by first | trivial | rfl, o2, g2, l1, l2⟩

end Go.RX

/-
  What is made out of sources: scenes, boxes.
-/
namespace Go.RX
open Go

abbrev Sh := Int × (Int × List E3)
/-- A shape as it is made. -/
def goodS (n : Int) (x : Sh) : Prop := (-1 ≤ x.1 ∧ x.1 < n) ∧ (8192 ≤ x.2.1 ∧ x.2.1 ≤ 32768) ∧ allE 393216 x.2.2 ∧ 1 ≤ x.2.2.length ∧ x.2.2.length ≤ 4
def allS (n : Int) (l : List Sh) : Prop := ∀ x ∈ l, goodS n x

theorem sL0_more {s : List Int × Int} {r : List Jt × List Ma} {l : List Sh} {k : List (Int × Int)} {i : Int} (h1 : srcOk s) (hr : goodR r) (i0 : 0 ≤ i) (hi : i < (r.1.length : Int)) (hl : l.length ≤ 100) :
    ∃ s' l', srcOk s' ∧ (l' = l ∨ ∃ x, l' = l ++ [x] ∧ goodS r.1.length x) ∧ step_armplanmake_Scene_L0 ((s, ()), (r, l, k, ()), (i, ()), ()) = some (.inl ((s', ()), (r, l', k, ()), (i + 1, ()), ())) := by
  unfold step_armplanmake_Scene_L0 t_armplanmake_Scene_L0
  obtain ⟨_, ⟨n1, n2⟩, _⟩ := hr
  obtain ⟨d1, o1, a1, b1⟩ := next_ok h1 (k := 5) (by omega) (by omega)
  generalize hr1 : armplanmake_Source_Next s 5 = r1 at *
  obtain ⟨d2, o2, a2, b2⟩ := next_ok o1 (k := 3) (by omega) (by omega)
  generalize hr2 : armplanmake_Source_Next r1.2 3 = r2 at *
  obtain ⟨d3, o3, a3, b3⟩ := next_ok o2 (k := 4) (by omega) (by omega)
  generalize hr3 : armplanmake_Source_Next r2.2 4 = r3 at *
  have e1 : IntKind.wrap .i64 (1 + r2.1) = 1 + r2.1 := wrap64 (by omega) (by omega)
  have e2 : IntKind.wrap .i64 ((1 + r2.1) * 65536) = (1 + r2.1) * 65536 := wrap64 (by omega) (by omega)
  have e3 : IntKind.wrap .i64 (Int.tdiv ((1 + r2.1) * 65536) 8) = (1 + r2.1) * 8192 := by
    rw [show (1 + r2.1) * 65536 = 8 * ((1 + r2.1) * 8192) by omega, Int.mul_tdiv_cancel_left _ (by decide)]
    exact wrap64 (by omega) (by omega)
  have e4 : IntKind.wrap .i64 (r3.1 * 32768) = r3.1 * 32768 := wrap64 (by omega) (by omega)
  have e5 : IntKind.wrap .i64 (i + 1) = i + 1 := wrap64 (by omega) (by omega)
  obtain ⟨d4, o4, g1, g2, g3⟩ := points_ok o3 (c := (r3.1 * 32768, (0, 0))) ⟨⟨by dsimp only; omega, by dsimp only; omega⟩, ⟨by dsimp only; omega, by dsimp only; omega⟩, ⟨by dsimp only; omega, by dsimp only; omega⟩⟩
  have hrm : room (l.length + 1) = true := room_ok (by omega)
  by_cases c : r1.1 < 4
  · refine ⟨_, _, o4, .inr ⟨(i, ((1 + r2.1) * 8192, (armplanmake_points r3.2 (r3.1 * 32768, (0, 0))).1)), rfl, ⟨by dsimp only; omega, hi⟩, ⟨by dsimp only; omega, by dsimp only; omega⟩, g1, g2, g3⟩, ?_⟩
    simp only [Tr.optA, decide_eq_true hi, decide_eq_true c, hr1, hr2, hr3, d1, d2, d3, d4, List.length_singleton, hrm, e1, e2, e3, e4, e5, cond_true, id]
  · refine ⟨_, _, o1, .inl rfl, ?_⟩
    simp only [Tr.optA, decide_eq_true hi, decide_eq_false c, hr1, d1, e5, cond_true, cond_false, id]
theorem sL0_end {s : List Int × Int} {r : List Jt × List Ma} {l : List Sh} {k : List (Int × Int)} {i : Int} (hi : ¬ i < (r.1.length : Int)) :
    step_armplanmake_Scene_L0 ((s, ()), (r, l, k, ()), (i, ()), ()) = some (.inr ((s, ()), (r, l, k, ()), ())) := by
  unfold step_armplanmake_Scene_L0 t_armplanmake_Scene_L0
  simp only [Tr.optA, decide_eq_false hi, cond_false, id]

theorem sceneL0 {s : List Int × Int} (hs : srcOk s) {r : List Jt × List Ma} (hr : goodR r) :
    dom_armplanmake_Scene_L0 ((s, ()), (r, [], [], ()), (0, ()), ()) = true ∧ ∃ s' l, val_armplanmake_Scene_L0 ((s, ()), (r, [], [], ()), (0, ()), ()) = ((s', ()), (r, l, [], ()), ()) ∧ srcOk s' ∧ allS r.1.length l ∧ l.length ≤ 3 := by
  unfold dom_armplanmake_Scene_L0 val_armplanmake_Scene_L0
  have hn := hr.2.1
  refine loop_end (Q := fun y : Outs os_armplanmake_Scene_L0 => ∃ (s' : List Int × Int) (l : List Sh), y = ((s', ()), (r, l, [], ()), ()) ∧ srcOk s' ∧ allS r.1.length l ∧ l.length ≤ 3)
    (loop_run step_armplanmake_Scene_L0 (fun m x => ∃ (s' : List Int × Int) (l : List Sh) (i : Int), x = ((s', ()), (r, l, [], ()), (i, ()), ()) ∧ srcOk s' ∧ allS r.1.length l ∧ (l.length : Int) ≤ i ∧ 0 ≤ i ∧ i + m = (r.1.length : Int)) _ ?_ rounds r.1.length _ ⟨s, [], 0, rfl, hs, fun x hx => by simp at hx, by simp, Int.le_refl _, by omega⟩ ?_)
  · rintro m x ⟨s', l, i, rfl, h1, h2, h3, h4, h5⟩
    by_cases hi : i < (r.1.length : Int)
    · obtain ⟨s2, l2, o, g, e⟩ := sL0_more (l := l) (k := []) h1 hr h4 hi (by omega)
      refine .inl ⟨_, m - 1, e, by omega, _, _, _, rfl, o, ?_, ?_, by omega, by omega⟩
      · rcases g with rfl | ⟨y, rfl, gy⟩
        · exact h2
        · intro z hz
          simp only [List.mem_append, List.mem_singleton] at hz
          exact hz.elim (h2 z) (fun e => by rw [e]; exact gy)
      · rcases g with rfl | ⟨y, rfl, gy⟩
        · omega
        · simp; omega
    · exact .inr ⟨_, sL0_end hi, _, _, rfl, h1, h2, by omega⟩
  · unfold rounds; omega

theorem sL2_more {s : List Int × Int} {r : List Jt × List Ma} {l : List Sh} {k : List (Int × Int)} {i : Int} (h1 : srcOk s) (hr : goodR r) (i0 : 0 < i) (i3 : i ≤ 3) (hl : l.length ≤ 100) :
    ∃ s' x, srcOk s' ∧ goodS r.1.length x ∧ x.1 = -1 ∧ step_armplanmake_Scene_L2 ((s, ()), (r, l, k, ()), (i, ()), ()) = some (.inl ((s', ()), (r, l ++ [x], k, ()), (i - 1, ()), ())) := by
  unfold step_armplanmake_Scene_L2 t_armplanmake_Scene_L2
  obtain ⟨_, ⟨n1, n2⟩, _⟩ := hr
  obtain ⟨d1, o1, a1, b1⟩ := signed_ok h1 (k := 9) (by omega) (by omega)
  generalize hr1 : armplanmake_Source_Signed s 9 = r1 at *
  obtain ⟨d2, o2, a2, b2⟩ := signed_ok o1 (k := 9) (by omega) (by omega)
  generalize hr2 : armplanmake_Source_Signed r1.2 9 = r2 at *
  obtain ⟨d3, o3, a3, b3⟩ := signed_ok o2 (k := 2) (by omega) (by omega)
  generalize hr3 : armplanmake_Source_Signed r2.2 2 = r3 at *
  obtain ⟨d4, o4, a4, b4⟩ := next_ok o3 (k := 4) (by omega) (by omega)
  generalize hr4 : armplanmake_Source_Next r3.2 4 = r4 at *
  have e1 : IntKind.wrap .i64 (1 + r4.1) = 1 + r4.1 := wrap64 (by omega) (by omega)
  have e2 : IntKind.wrap .i64 ((1 + r4.1) * 65536) = (1 + r4.1) * 65536 := wrap64 (by omega) (by omega)
  have e3 : IntKind.wrap .i64 (Int.tdiv ((1 + r4.1) * 65536) 8) = (1 + r4.1) * 8192 := by
    rw [show (1 + r4.1) * 65536 = 8 * ((1 + r4.1) * 8192) by omega, Int.mul_tdiv_cancel_left _ (by decide)]
    exact wrap64 (by omega) (by omega)
  have f1 : IntKind.wrap .i64 (r1.1 * 32768) = r1.1 * 32768 := wrap64 (by omega) (by omega)
  have f2 : IntKind.wrap .i64 (r2.1 * 32768) = r2.1 * 32768 := wrap64 (by omega) (by omega)
  have f3 : IntKind.wrap .i64 (r3.1 * 32768) = r3.1 * 32768 := wrap64 (by omega) (by omega)
  have e5 : IntKind.wrap .i64 (i - 1) = i - 1 := wrap64 (by omega) (by omega)
  obtain ⟨d5, o5, g1, g2, g3⟩ := points_ok o4 (c := (r1.1 * 32768, (r2.1 * 32768, r3.1 * 32768))) ⟨⟨by dsimp only; omega, by dsimp only; omega⟩, ⟨by dsimp only; omega, by dsimp only; omega⟩, ⟨by dsimp only; omega, by dsimp only; omega⟩⟩
  have hrm : room (l.length + 1) = true := room_ok (by omega)
  refine ⟨_, (-1, ((1 + r4.1) * 8192, (armplanmake_points r4.2 (r1.1 * 32768, (r2.1 * 32768, r3.1 * 32768))).1)), o5, ⟨⟨by dsimp only; omega, by dsimp only; omega⟩, ⟨by dsimp only; omega, by dsimp only; omega⟩, g1, g2, g3⟩, rfl, ?_⟩
  simp only [Tr.optA, decide_eq_true i0, hr2, hr3, hr4, hr1, d1, d2, d3, d4, d5, List.length_singleton, hrm, e1, e2, e3, f1, f2, f3, e5, cond_true, id]
theorem sL2_end {s : List Int × Int} {r : List Jt × List Ma} {l : List Sh} {k : List (Int × Int)} {i : Int} (hi : ¬ 0 < i) :
    step_armplanmake_Scene_L2 ((s, ()), (r, l, k, ()), (i, ()), ()) = some (.inr ((s, ()), (r, l, k, ()), ())) := by
  unfold step_armplanmake_Scene_L2 t_armplanmake_Scene_L2
  simp only [Tr.optA, decide_eq_false hi, cond_false, id]

theorem allS_app {n : Int} {l : List Sh} {x : Sh} (h : allS n l) (hx : goodS n x) : allS n (l ++ [x]) := by
  intro z hz
  simp only [List.mem_append, List.mem_singleton] at hz
  exact hz.elim (h z) (fun e => by rw [e]; exact hx)

theorem sceneL2 {s : List Int × Int} (hs : srcOk s) {r : List Jt × List Ma} (hr : goodR r) {l : List Sh} (hl : allS r.1.length l) (hl3 : l.length ≤ 3) {c : Int} (c1 : 1 ≤ c) (c2 : c ≤ 3) :
    dom_armplanmake_Scene_L2 ((s, ()), (r, l, [], ()), (c, ()), ()) = true ∧ ∃ s' l', val_armplanmake_Scene_L2 ((s, ()), (r, l, [], ()), (c, ()), ()) = ((s', ()), (r, l', [], ()), ()) ∧ srcOk s' ∧ allS r.1.length l' ∧ 1 ≤ l'.length ∧ l'.length ≤ 6 := by
  unfold dom_armplanmake_Scene_L2 val_armplanmake_Scene_L2
  refine loop_end (Q := fun y : Outs os_armplanmake_Scene_L2 => ∃ (s' : List Int × Int) (l' : List Sh), y = ((s', ()), (r, l', [], ()), ()) ∧ srcOk s' ∧ allS r.1.length l' ∧ 1 ≤ l'.length ∧ l'.length ≤ 6)
    (loop_run step_armplanmake_Scene_L2 (fun m x => ∃ (s' : List Int × Int) (l' : List Sh) (i : Int), x = ((s', ()), (r, l', [], ()), (i, ()), ()) ∧ srcOk s' ∧ allS r.1.length l' ∧ l'.length + m ≤ 6 ∧ 1 ≤ l'.length + m ∧ 0 ≤ i ∧ i ≤ 3 ∧ i = m) _ ?_ rounds c.toNat _ ⟨s, l, c, rfl, hs, hl, by omega, by omega, by omega, c2, by omega⟩ ?_)
  · rintro m x ⟨s', l', i, rfl, h1, h2, h3, h4, h5, h6, h7⟩
    by_cases hi : 0 < i
    · obtain ⟨s2, y, o, g, _, e⟩ := sL2_more (l := l') (k := []) h1 hr hi h6 (by omega)
      exact .inl ⟨_, m - 1, e, by omega, _, _, _, rfl, o, allS_app h2 g, by simp; omega, by simp; omega, by omega, by omega, by omega⟩
    · exact .inr ⟨_, sL2_end hi, _, _, rfl, h1, h2, by omega, by omega⟩
  · unfold rounds; omega

abbrev Sc3 := (List Jt × List Ma) × (List Sh × List (Int × Int))
/-- A scene as it is made. -/
def goodC (x : Sc3) : Prop := goodR x.1 ∧ allS x.1.1.length x.2.1 ∧ (1 ≤ x.2.1.length ∧ x.2.1.length ≤ 6) ∧ (x.2.2 = [] ∨ ∃ b, x.2.2 = [(-1, b)] ∧ 0 ≤ b ∧ b < (x.1.1.length : Int))

theorem scene_ok {l : List Int} (hl : l.length ≤ maxLen) : dom_armplanmake_Scene l = true ∧ goodC (armplanmake_Scene l) := by
  unfold dom_armplanmake_Scene armplanmake_Scene t_armplanmake_Scene
  obtain ⟨d1, o1, gr⟩ := robot_ok (src0 hl)
  generalize armplanmake_robot (l, 0) = r1 at *
  obtain ⟨d2, s2, l2, e2, o2, g2, n2⟩ := sceneL0 o1 gr
  obtain ⟨d3, o3, a3, b3⟩ := next_ok o2 (k := 3) (by omega) (by omega)
  generalize hr3 : armplanmake_Source_Next s2 3 = r3 at *
  have e4 : IntKind.wrap .i64 (1 + r3.1) = 1 + r3.1 := wrap64 (by omega) (by omega)
  obtain ⟨d5, s5, l5, e5, o5, g5, m5, n5⟩ := sceneL2 o3 gr g2 n2 (c := 1 + r3.1) (by omega) (by omega)
  obtain ⟨d6, o6, a6, b6⟩ := next_ok o5 (k := 5) (by omega) (by omega)
  generalize hr6 : armplanmake_Source_Next s5 5 = r6 at *
  have hn := gr.2.1
  obtain ⟨d8, o8, a8, b8⟩ := next_ok o6 (k := ((r1.1.1.length : Nat) : Int)) (by omega) (by omega)
  generalize hr8 : armplanmake_Source_Next r6.2 ((r1.1.1.length : Nat) : Int) = r8 at *
  have hrm : room (0 + 1) = true := rfl
  simp only [Tr.dom, Tr.ok, Tr.val, d1, d2, e2, hr3, d3, e4, d5, e5, hr6, d6, hr8, d8, List.length_singleton, List.length_nil, hrm, List.nil_append, cond_true]
  cases decide (r6.1 = 1) with
  | true => exact ⟨by first | trivial | rfl, gr, g5, ⟨m5, n5⟩, .inr ⟨_, rfl, a8, b8⟩⟩
  | false => exact ⟨by first | trivial | rfl, gr, g5, ⟨m5, n5⟩, .inl rfl⟩

end Go.RX

/-
  What is made out of sources: boxes.
-/
namespace Go.RX
open Go

abbrev loJ (j : Jt) : Int := j.2.2.2.2.1
abbrev hiJ (j : Jt) : Int := j.2.2.2.2.2.1
def inJ (j : Jt) (b : Int × Int) : Prop := loJ j ≤ b.1 ∧ b.1 ≤ b.2 ∧ b.2 ≤ hiJ j

theorem getJ {js : List Jt} (h : goodL js) {i : Int} (i0 : 0 ≤ i) (hi : i < (js.length : Int)) (d : Jt) : goodJ i (List.getD js i.toNat d) := by
  have hk : i.toNat < js.length := by omega
  have e : js[i.toNat]? = some (List.getD js i.toNat d) := by rw [List.getD_eq_getElem?_getD, List.getElem?_eq_getElem hk]; rfl
  have := h _ _ e
  rwa [show ((i.toNat : Nat) : Int) = i by omega] at this

theorem box_more {s : List Int × Int} {r : List Jt × List Ma} {bs : List (Int × Int)} {i : Int} (h1 : srcOk s) (hr : goodL r.1) (i0 : 0 ≤ i) (hi : i < (r.1.length : Int)) (i3 : i ≤ 100) (hl : bs.length ≤ 100) :
    ∃ s' b, srcOk s' ∧ inJ (List.getD r.1 i.toNat (Ty.dflt (.pair (.str) (.pair (.int .i64) (.pair (.int .i64) (.pair (.pair (.int .i64) (.pair (.int .i64) (.int .i64))) (.pair (.int .i64) (.pair (.int .i64) (.pair (.int .i64) (.pair (.int .i64) (.pair (.int .i64) (.int .i64)))))))))))) b ∧
      step_armplanmake_Box_L0 ((r, ()), (s, ()), (bs, ()), (i, ()), ()) = some (.inl ((r, ()), (s', ()), (bs ++ [b], ()), (i + 1, ()), ())) := by
  unfold step_armplanmake_Box_L0 t_armplanmake_Box_L0
  have gj := getJ hr i0 hi (Ty.dflt (.pair (.str) (.pair (.int .i64) (.pair (.int .i64) (.pair (.pair (.int .i64) (.pair (.int .i64) (.int .i64))) (.pair (.int .i64) (.pair (.int .i64) (.pair (.int .i64) (.pair (.int .i64) (.pair (.int .i64) (.int .i64)))))))))))
  generalize hj : List.getD r.1 i.toNat (Ty.dflt (.pair (.str) (.pair (.int .i64) (.pair (.int .i64) (.pair (.pair (.int .i64) (.pair (.int .i64) (.int .i64))) (.pair (.int .i64) (.pair (.int .i64) (.pair (.int .i64) (.pair (.int .i64) (.pair (.int .i64) (.int .i64))))))))))) = j at *
  obtain ⟨⟨_, _, _, _, ⟨l1, l2, l3, l4⟩, _⟩, _⟩ := gj
  have g0 : decide (0 ≤ i) = true := decide_eq_true i0
  have g1 : decide (i < ((r.1.length : Nat) : Int)) = true := decide_eq_true hi
  have e1 : IntKind.wrap .i64 (hiJ j - loJ j) = hiJ j - loJ j := wrap64 (by unfold hiJ loJ; omega) (by unfold hiJ loJ; omega)
  have e2 : IntKind.wrap .i64 (hiJ j - loJ j + 1) = hiJ j - loJ j + 1 := wrap64 (by unfold hiJ loJ; omega) (by unfold hiJ loJ; omega)
  obtain ⟨d4, o4, a4, b4⟩ := next_ok h1 (k := hiJ j - loJ j + 1) (by unfold hiJ loJ; omega) (by unfold hiJ loJ; omega)
  generalize hr4 : armplanmake_Source_Next s (hiJ j - loJ j + 1) = r4 at *
  have e5 : IntKind.wrap .i64 (loJ j + r4.1) = loJ j + r4.1 := wrap64 (by unfold hiJ loJ at *; omega) (by unfold hiJ loJ at *; omega)
  obtain ⟨d6, o6, a6, b6⟩ := next_ok o4 (k := 5) (by omega) (by omega)
  generalize hr6 : armplanmake_Source_Next r4.2 5 = r6 at *
  obtain ⟨d7, o7, a7, b7⟩ := next_ok o6 (k := 3000) (by omega) (by omega)
  generalize hr7 : armplanmake_Source_Next r6.2 3000 = r7 at *
  obtain ⟨d8, o8, a8, b8⟩ := next_ok o6 (k := 200) (by omega) (by omega)
  generalize hr8 : armplanmake_Source_Next r6.2 200 = r8 at *
  have e9 : IntKind.wrap .i64 (i + 1) = i + 1 := wrap64 (by omega) (by omega)
  have hrm : room (bs.length + 1) = true := room_ok (by omega)
  unfold inJ
  have key : ∀ w : Int, 0 ≤ w → w ≤ 300000 → IntKind.wrap .i64 (loJ j + r4.1 + w) = loJ j + r4.1 + w ∧
      loJ j ≤ loJ j + r4.1 ∧ loJ j + r4.1 ≤ (if loJ j + r4.1 + w < hiJ j then loJ j + r4.1 + w else hiJ j) ∧ (if loJ j + r4.1 + w < hiJ j then loJ j + r4.1 + w else hiJ j) ≤ hiJ j := by
    intro w w1 w2
    refine ⟨wrap64 (by unfold hiJ loJ at *; omega) (by unfold hiJ loJ at *; omega), by omega, ?_, ?_⟩ <;> split <;> omega
  obtain ⟨k1, f1⟩ := key (hiJ j - loJ j) (by unfold hiJ loJ; omega) (by unfold hiJ loJ; omega)
  obtain ⟨k2, f2⟩ := key r7.1 a7 (by omega)
  obtain ⟨k3, f3⟩ := key r8.1 a8 (by omega)
  obtain ⟨k4, f4⟩ := key 0 (by decide) (by decide)
  simp only [Tr.optA, g0, g1, hj, e1, e2, d4, hr4, e5, d6, hr6, d7, hr7, d8, hr8, e9, k1, k2, k3, k4, List.length_singleton, hrm, Bool.and_self, cond_true, id]
  cases decide (r6.1 = 0) <;> cases decide (r6.1 = 1) <;> cases decide (r6.1 = 2) <;> cases decide (r6.1 = 3) <;> simp only [cond_true, cond_false]
  all_goals first
    | exact ⟨_, _, o6, f1, rfl⟩
    | exact ⟨_, _, o7, f2, rfl⟩
    | exact ⟨_, _, o8, f3, rfl⟩
    | exact ⟨_, _, o6, f4, rfl⟩

end Go.RX

/-
  Loops by the index of a list; names; the checks of joints and robots: program and reference are one.
-/
namespace Go.RX
open Go

theorem dT {p : Prop} (h : p) (i : Decidable p) : @decide p i = true := @decide_eq_true p i h
theorem dF {p : Prop} (h : ¬p) (i : Decidable p) : @decide p i = false := @decide_eq_false p i h

/-- The first thing found from i on, among n. -/
def firstS {Y : Type} (ex : Nat → Option Y) (e : Y) : Nat → Nat → Y
  | _, 0 => e
  | i, n + 1 => match ex i with
    | some y => y
    | none => firstS ex e (i + 1) n

theorem loop_scan {X Y : Type} {step : X → Option (X ⊕ Y)} (f : Nat → X) (ex : Nat → Option Y) (e : Y) (N : Nat)
    (hmore : ∀ i, i < N → step (f i) = some (match ex i with
      | some y => .inr y
      | none => .inl (f (i + 1)))) (hend : step (f N) = some (.inr e)) : ∀ (n i k : Nat), i + n = N → n < k → loopN step k (f i) = some (firstS ex e i n)
  | _, _, 0, _, h => by omega
  | 0, i, k + 1, h1, _ => by
    have : i = N := by omega
    simp only [loopN, this, hend, firstS]
  | n + 1, i, k + 1, h1, h2 => by
    simp only [loopN, hmore i (by omega), firstS]
    cases ex i with
    | some y => rfl
    | none => exact loop_scan f ex e N hmore hend n (i + 1) k (by omega) (by omega)

theorem scan_end {X Y : Type} [Inhabited Y] {step : X → Option (X ⊕ Y)} {x : X} {y : Y} (h : loopN step rounds x = some y) : (loopN step rounds x).isSome = true ∧ (loopN step rounds x).getD default = y := by
  rw [h]; exact ⟨rfl, rfl⟩

theorem rounds_lt {n : Nat} (h : n < 9223372036854775807) : n < rounds := h

theorem firstS_none {Y : Type} {ex : Nat → Option Y} {e : Y} : ∀ {n i : Nat}, (∀ k, i ≤ k → k < i + n → ex k = none) → firstS ex e i n = e
  | 0, _, _ => rfl
  | n + 1, i, h => by
    rw [firstS, h i (Nat.le_refl _) (by omega)]
    exact firstS_none fun k h1 h2 => h k (by omega) (by omega)

theorem firstS_some {Y : Type} {ex : Nat → Option Y} {e y : Y} {j : Nat} : ∀ {n i : Nat}, i ≤ j → j < i + n → (∀ k, i ≤ k → k < j → ex k = none) → ex j = some y → firstS ex e i n = y
  | 0, _, h1, h2, _, _ => by omega
  | n + 1, i, h1, h2, h3, h4 => by
    rw [firstS]
    rcases Nat.eq_or_lt_of_le h1 with rfl | h
    · rw [h4]
    · rw [h3 i (Nat.le_refl _) h]
      exact firstS_some h (by omega) (fun k a b => h3 k (by omega) b) h4

/-- Either nothing is found, or a first one. -/
theorem firstS_cases {Y : Type} (ex : Nat → Option Y) (e : Y) (n : Nat) : (firstS ex e 0 n = e ∧ ∀ k, k < n → ex k = none) ∨ ∃ j y, j < n ∧ firstS ex e 0 n = y ∧ ex j = some y ∧ ∀ k, k < j → ex k = none := by
  by_cases h : ∃ j, j < n ∧ (ex j).isSome = true
  · obtain ⟨j, hj⟩ := h
    have key : ∀ j, j < n → (ex j).isSome = true → ∃ m, m < n ∧ (ex m).isSome = true ∧ ∀ k, k < m → ex k = none := by
      intro j
      induction j using Nat.strongRecOn with
      | _ j ih =>
        intro h1 h2
        by_cases h3 : ∃ k, k < j ∧ (ex k).isSome = true
        · obtain ⟨k, k1, k2⟩ := h3; exact ih k k1 (by omega) k2
        · refine ⟨j, h1, h2, fun k hk => ?_⟩
          cases hx : ex k with
          | none => rfl
          | some y => exact absurd ⟨k, hk, by rw [hx]; rfl⟩ h3
    obtain ⟨m, m1, m2, m3⟩ := key j hj.1 hj.2
    obtain ⟨y, hy⟩ := Option.isSome_iff_exists.1 m2
    exact .inr ⟨m, y, m1, firstS_some (Nat.zero_le _) (by omega) (fun k _ hk => m3 k hk) hy, hy, m3⟩
  · have hn : ∀ k, k < n → ex k = none := by
      intro k hk
      cases hx : ex k with
      | none => rfl
      | some y => exact absurd ⟨k, hk, by rw [hx]; rfl⟩ h
    exact .inl ⟨firstS_none fun k _ h2 => hn k (by omega), hn⟩

/-- The first number that is not 0. -/
def fe (g : Nat → Int) (n : Nat) : Int := firstS (fun i => if g i = 0 then none else some (g i)) 0 0 n

theorem firstS_fe {Y : Type} (g : Nat → Int) (mk : Int → Y) (e : Y) : ∀ (n i : Nat), firstS (fun i => if g i = 0 then none else some (mk (g i))) e i n =
    if firstS (fun i => if g i = 0 then none else some (g i)) 0 i n = 0 then e else mk (firstS (fun i => if g i = 0 then none else some (g i)) 0 i n)
  | 0, _ => by simp [firstS]
  | n + 1, i => by
    by_cases h : g i = 0
    · simp only [firstS, h, if_true]; exact firstS_fe g mk e n (i + 1)
    · simp only [firstS, h, if_false]

theorem fe_zero {g : Nat → Int} {n : Nat} : fe g n = 0 ↔ ∀ i, i < n → g i = 0 := by
  unfold fe
  rcases firstS_cases (fun i => if g i = 0 then none else some (g i)) 0 n with ⟨h1, h2⟩ | ⟨j, y, h1, h2, h3, h4⟩
  · rw [h1]
    refine ⟨fun _ i hi => ?_, fun _ => rfl⟩
    have := h2 i hi
    split at this
    · assumption
    · simp at this
  · rw [h2]
    split at h3
    · simp at h3
    · rename_i hg
      simp only [Option.some.injEq] at h3
      exact ⟨fun hy => absurd (h3.trans hy) hg, fun h => absurd (h j h1) hg⟩

theorem wrap_succ {i : Nat} (h : i < 4611686018427387904) : IntKind.wrap .i64 ((i : Int) + 1) = ((i + 1 : Nat) : Int) := by
  rw [wrap64 (by omega) (by omega)]; rfl

/- NAMES -/

theorem byteAt_nat (s : ByteArray) (i : Nat) (h : i < s.size) : byteAt s (i : Int) = ((s[i]'h).toNat : Int) := by
  unfold byteAt
  rw [Int.toNat_natCast, List.getD_eq_getElem?_getD]
  have hl : i < s.data.toList.length := by simpa using h
  rw [List.getElem?_eq_getElem hl]
  rfl

theorem nameL0 (s : ByteArray) (hs : s.size ≤ 16) : dom_armplanref6_Name_L0 ((s, ()), (0, ()), ()) = true ∧
    val_armplanref6_Name_L0 ((s, ()), (0, ()), ()) = firstS (fun i => if nameByte i (s.data.toList.getD i 0) then none else some (.inr ((false, ()), ()))) (.inl ()) 0 s.size := by
  unfold dom_armplanref6_Name_L0 val_armplanref6_Name_L0
  refine scan_end (loop_scan (step := step_armplanref6_Name_L0) (fun i => ((s, ()), ((i : Int), ()), ())) _ _ s.size (fun i hi => ?_) ?_ s.size 0 rounds (by omega) (rounds_lt (by omega)))
  · have hb := byteAt_nat s i hi
    have e : IntKind.wrap .i64 ((i : Int) + 1) = ((i + 1 : Nat) : Int) := wrap_succ (by omega)
    have hd : s.data.toList.getD i 0 = s[i]'hi := by
      have hl : i < s.data.toList.length := by simpa using hi
      rw [List.getD_eq_getElem?_getD, List.getElem?_eq_getElem hl]; rfl
    have g1 : decide ((i : Int) < (s.size : Int)) = true := decide_eq_true (by omega)
    have g0 : decide (0 ≤ (i : Int)) = true := decide_eq_true (by omega)
    unfold step_armplanref6_Name_L0 t_armplanref6_Name_L0
    simp only [Tr.optA, g0, g1, hb, e, hd, Bool.and_self, cond_true, id]
    generalize (s[i]'hi) = b
    unfold nameByte
    have d1 : decide (97 ≤ b.toNat) = decide (97 ≤ (b.toNat : Int)) := by rw [decide_eq_decide]; omega
    have d2 : decide (b.toNat ≤ 122) = decide ((b.toNat : Int) ≤ 122) := by rw [decide_eq_decide]; omega
    have d3 : decide (i = 0) = decide ((i : Int) = 0) := by rw [decide_eq_decide]; omega
    have d4 : decide (b.toNat = 95) = decide ((b.toNat : Int) = 95) := by rw [decide_eq_decide]; omega
    have d5 : decide (48 ≤ b.toNat) = !decide ((b.toNat : Int) < 48) := by by_cases h : (b.toNat : Int) < 48 <;> simp only [h, decide_true, decide_false, Bool.not_true, Bool.not_false, decide_eq_true_eq, decide_eq_false_iff_not] <;> omega
    have d6 : decide (b.toNat ≤ 57) = !decide (57 < (b.toNat : Int)) := by by_cases h : 57 < (b.toNat : Int) <;> simp only [h, decide_true, decide_false, Bool.not_true, Bool.not_false, decide_eq_true_eq, decide_eq_false_iff_not] <;> omega
    rw [d1, d2, d3, d4, d5, d6]
    generalize decide (97 ≤ (b.toNat : Int)) = q1
    generalize decide ((b.toNat : Int) ≤ 122) = q2
    generalize decide ((i : Int) = 0) = q3
    generalize decide ((b.toNat : Int) = 95) = q4
    generalize decide ((b.toNat : Int) < 48) = q5
    generalize decide (57 < (b.toNat : Int)) = q6
    cases q1 <;> cases q2 <;> cases q3 <;> cases q4 <;> cases q5 <;> cases q6 <;> rfl
  · unfold step_armplanref6_Name_L0 t_armplanref6_Name_L0
    simp only [Tr.optA, decide_eq_false (show ¬ ((s.size : Int) < (s.size : Int)) by omega), cond_false, id]

theorem nameFrom_get : ∀ {l : List UInt8} {i : Nat}, nameFrom i l = true ↔ ∀ k, k < l.length → nameByte (i + k) (l.getD k 0) = true
  | [], i => by simp [nameFrom]
  | b :: l, i => by
    rw [nameFrom, Bool.and_eq_true, nameFrom_get (l := l)]
    constructor
    · rintro ⟨h1, h2⟩ k hk
      cases k with
      | zero => simpa using h1
      | succ k =>
        have := h2 k (by simpa using hk)
        rw [show i + (k + 1) = i + 1 + k by omega]
        simpa using this
    · intro h
      refine ⟨by simpa using h 0 (by simp), fun k hk => ?_⟩
      have := h (k + 1) (by simp; omega)
      rw [show i + 1 + k = i + (k + 1) by omega]
      simpa using this

theorem name_eq (s : ByteArray) : dom_armplanref6_Name s = true ∧ armplanref6_Name s = token_Name s := by
  unfold dom_armplanref6_Name armplanref6_Name t_armplanref6_Name token_Name
  by_cases c1 : (s.size : Int) < 1
  · have e2 : decide (1 ≤ (s.size : Int)) = false := decide_eq_false (by omega)
    simp only [Tr.dom, Tr.ok, Tr.val, decide_eq_true c1, e2, cond_true, Bool.false_and, Bool.and_false, Bool.and_true, and_self]
    exact ⟨by first | trivial | rfl, by first | trivial | rfl⟩
  · by_cases c2 : 16 < (s.size : Int)
    · have e2 : decide ((s.size : Int) ≤ 16) = false := decide_eq_false (by omega)
      simp only [Tr.dom, Tr.ok, Tr.val, decide_eq_false c1, decide_eq_true c2, e2, cond_true, cond_false, Bool.false_and, Bool.and_false, Bool.and_true]
      exact ⟨by first | trivial | rfl, by first | trivial | rfl⟩
    · have e1 : decide (1 ≤ (s.size : Int)) = true := decide_eq_true (by omega)
      have e2 : decide ((s.size : Int) ≤ 16) = true := decide_eq_true (by omega)
      obtain ⟨d1, v1⟩ := nameL0 s (by omega)
      have hlist : (ByteArray.mk #[119, 111, 114, 108, 100]).toList = [119, 111, 114, 108, 100] := by kernel_rfl
      simp only [Tr.dom, Tr.ok, Tr.val, decide_eq_false c1, decide_eq_false c2, e1, e2, d1, v1, hlist, cond_true, cond_false, Bool.and_true, Bool.true_and]
      have hsz : s.data.toList.length = s.size := by simp
      rcases firstS_cases (fun i => if nameByte i (s.data.toList.getD i 0) then none else some ((.inr ((false, ()), ()) : Outs os_armplanref6_Name_L0))) (.inl ()) s.size with ⟨h1, h2⟩ | ⟨j, y, h1, h2, h3, h4⟩
      · rw [h1]
        have hn : nameFrom 0 s.data.toList = true := nameFrom_get.2 fun k hk => by
          have := h2 k (by omega)
          dsimp only at this
          split at this
          · rename_i h; rw [Nat.zero_add]; exact h
          · simp at this
        rw [hn]
        cases s.toList == [119, 111, 114, 108, 100] <;> exact ⟨rfl, rfl⟩
      · rw [h2]
        dsimp only at h3
        split at h3
        · simp at h3
        · rename_i hb
          simp only [Option.some.injEq] at h3
          have hn : nameFrom 0 s.data.toList = false := by
            cases hf : nameFrom 0 s.data.toList with
            | false => rfl
            | true => have := nameFrom_get.1 hf j (by omega); rw [Nat.zero_add] at this; exact absurd this hb
          rw [hn, ← h3]
          cases s.toList == [119, 111, 114, 108, 100] <;> exact ⟨rfl, rfl⟩

end Go.RX

/-
  The checks of joints, robots and scenes: program and reference are one.
-/
namespace Go.RX
open Go

theorem firstS_congr {Y : Type} {ex ex' : Nat → Option Y} {e : Y} : ∀ {n i : Nat}, (∀ k, i ≤ k → k < i + n → ex k = ex' k) → firstS ex e i n = firstS ex' e i n
  | 0, _, _ => rfl
  | n + 1, i, h => by
    simp only [firstS, h i (Nat.le_refl _) (by omega)]
    rw [firstS_congr (n := n) fun k a b => h k (by omega) (by omega)]

theorem firstS_any {α Y : Type} (p : α → Bool) (d : α) (mk : Nat → Y) (e : Y) (l : List α) :
    (l.any p = false ∧ firstS (fun i => if p (l.getD i d) = true then some (mk i) else none) e 0 l.length = e) ∨
    (l.any p = true ∧ ∃ j, j < l.length ∧ p (l.getD j d) = true ∧ firstS (fun i => if p (l.getD i d) = true then some (mk i) else none) e 0 l.length = mk j) := by
  rcases firstS_cases (fun i => if p (l.getD i d) = true then some (mk i) else none) e l.length with ⟨h1, h2⟩ | ⟨j, y, h1, h2, h3, h4⟩
  · refine .inl ⟨?_, h1⟩
    rw [List.any_eq_false]
    intro x hx
    obtain ⟨k, hk, rfl⟩ := List.getElem_of_mem hx
    have := h2 k hk
    split at this
    · simp at this
    · rename_i hp
      rwa [List.getD_eq_getElem?_getD, List.getElem?_eq_getElem hk] at hp
  · split at h3
    · rename_i hp
      simp only [Option.some.injEq] at h3
      refine .inr ⟨?_, j, h1, hp, h2.trans h3.symm⟩
      rw [List.any_eq_true]
      rw [List.getD_eq_getElem?_getD, List.getElem?_eq_getElem h1] at hp
      exact ⟨_, List.getElem_mem h1, hp⟩
    · simp at h3

theorem firstS_all {α Y : Type} (p : α → Bool) (d : α) (b : Y) (e : Y) (l : List α) :
    firstS (fun i => if p (l.getD i d) = true then none else some b) e 0 l.length = bif l.all p then e else b := by
  have h := firstS_any (fun x => !p x) d (fun _ => b) e l
  have hc : firstS (fun i => if p (l.getD i d) = true then none else some b) e 0 l.length = firstS (fun i => if (!p (l.getD i d)) = true then some b else none) e 0 l.length := by
    refine firstS_congr fun k _ _ => ?_
    cases p (l.getD k d) <;> rfl
  rw [hc]
  have ha : l.all p = !l.any fun x => !p x := by rw [List.all_eq_not_any_not]
  rcases h with ⟨h1, h2⟩ | ⟨h1, j, _, _, h2⟩
  · rw [h2, ha, h1]; rfl
  · rw [h2, ha, h1]; rfl

def nearV (B : Int) (v : DVec) : Bool := decide (-B ≤ v.1) && decide (v.1 ≤ B) && (decide (-B ≤ v.2.1) && decide (v.2.1 ≤ B)) && (decide (-B ≤ v.2.2) && decide (v.2.2 ≤ B))
def btw (a x b : Int) : Bool := decide (a ≤ x) && decide (x ≤ b)

theorem not_lt_dec (a b : Int) : decide (a ≤ b) = !decide (b < a) := by by_cases h : b < a <;> simp only [h, decide_true, decide_false, Bool.not_true, Bool.not_false, decide_eq_true_eq, decide_eq_false_iff_not] <;> omega

theorem rlong_eq (v : DVec) : robot_long v = !nearV 4194304 v := by
  unfold robot_long t_robot_long nearV
  simp only [Tr.val, not_lt_dec]
  cases decide (v.1 < -4194304) <;> cases decide (4194304 < v.1) <;> cases decide (v.2.1 < -4194304) <;> cases decide (4194304 < v.2.1) <;> cases decide (v.2.2 < -4194304) <;> cases decide (4194304 < v.2.2) <;> rfl
theorem slong_eq (v : DVec) : scene_long v = !nearV 4194304 v := by
  unfold scene_long t_scene_long scene_long_1 t_scene_long_1 nearV
  simp only [Tr.val, not_lt_dec]
  cases decide (v.1 < -4194304) <;> cases decide (4194304 < v.1) <;> cases decide (v.2.1 < -4194304) <;> cases decide (4194304 < v.2.1) <;> cases decide (v.2.2 < -4194304) <;> cases decide (4194304 < v.2.2) <;> rfl
theorem near_eq (v : DVec) (B : Int) (h1 : 0 ≤ B) (h2 : B ≤ 1099511627776) : armplanref6_Near v B = nearV B v := by
  unfold armplanref6_Near t_armplanref6_Near nearV
  have e : IntKind.wrap .i64 (0 - B) = -B := by rw [wrap64 (by omega) (by omega)]; omega
  simp only [Tr.val, not_lt_dec, e]
  cases decide (v.1 < -B) <;> cases decide (B < v.1) <;> cases decide (v.2.1 < -B) <;> cases decide (B < v.2.1) <;> cases decide (v.2.2 < -B) <;> cases decide (B < v.2.2) <;> rfl
theorem rbtw_eq (a x b : Int) : robot_between a x b = btw a x b := by
  unfold robot_between t_robot_between btw
  simp only [Tr.val]
  cases decide (a ≤ x) <;> rfl
theorem btw_eq (x a b : Int) : armplanref6_between x a b = btw a x b := by
  unfold armplanref6_between t_armplanref6_between btw
  simp only [Tr.val]
  cases decide (a ≤ x) <;> rfl
theorem reach_eq (k : Int) : armplanref6_reach k = robot_bound k := rfl
theorem bound_le (k : Int) : 0 ≤ robot_bound k ∧ robot_bound k ≤ 4194304 := by
  unfold robot_bound t_robot_bound
  simp only [Tr.val]
  cases decide (k = 0) <;> cases decide (k = 1) <;> cases decide (k = 2) <;> cases decide (k = 3) <;> simp only [cond_true, cond_false] <;> decide

def nameIs (s : ByteArray) (j : DJoint) : Bool := j.1.toList == s.toList

theorem place_ok (l : List DJoint) (s : ByteArray) (hl : l.length ≤ 1000000) : dom_robot_place l s = true ∧ decide (0 ≤ robot_place l s) = l.any (nameIs s) := by
  have key : dom_robot_place_slices_IndexFunc___api_Joint_api_Joint__L0 ((s, ()), (l, ()), (((l.length : Nat) : Int), ()), (0, ()), ()) = true ∧
      val_robot_place_slices_IndexFunc___api_Joint_api_Joint__L0 ((s, ()), (l, ()), (((l.length : Nat) : Int), ()), (0, ()), ()) =
        firstS (fun i => if nameIs s (l.getD i (Ty.dflt TJoint)) = true then some (.inr ((s, ()), ((i : Int), ()), ())) else none) (.inl ((s, ()), ())) 0 l.length := by
    unfold dom_robot_place_slices_IndexFunc___api_Joint_api_Joint__L0 val_robot_place_slices_IndexFunc___api_Joint_api_Joint__L0
    refine scan_end (loop_scan (step := step_robot_place_slices_IndexFunc___api_Joint_api_Joint__L0) (fun i => ((s, ()), (l, ()), (((l.length : Nat) : Int), ()), ((i : Int), ()), ())) _ _ l.length (fun i hi => ?_) ?_ l.length 0 rounds (by omega) (rounds_lt (by omega)))
    · have e : IntKind.wrap .i64 ((i : Int) + 1) = ((i + 1 : Nat) : Int) := wrap_succ (by omega)
      unfold step_robot_place_slices_IndexFunc___api_Joint_api_Joint__L0 t_robot_place_slices_IndexFunc___api_Joint_api_Joint__L0 nameIs
      simp only [Tr.optA, dT (show (i : Int) < (l.length : Int) by omega), dT (show 0 ≤ (i : Int) by omega), e, Int.toNat_natCast, Bool.and_self, cond_true, id]
      cases ((l.getD i (Ty.dflt TJoint)).1.toList == s.toList) <;> rfl
    · unfold step_robot_place_slices_IndexFunc___api_Joint_api_Joint__L0 t_robot_place_slices_IndexFunc___api_Joint_api_Joint__L0
      simp only [Tr.optA, dF (show ¬ ((l.length : Int) < (l.length : Int)) by omega), cond_false, id]
  unfold dom_robot_place robot_place t_robot_place
  simp only [Tr.dom, Tr.ok, Tr.val, key.1, key.2, cond_true]
  rcases firstS_any (Y := Outs os_robot_place_slices_IndexFunc___api_Joint_api_Joint__L0) (nameIs s) (Ty.dflt TJoint) (fun i => .inr ((s, ()), ((i : Int), ()), ())) (.inl ((s, ()), ())) l with ⟨h1, h2⟩ | ⟨h1, j, h3, _, h2⟩
  · rw [h1, h2]; exact ⟨by first | trivial | rfl, rfl⟩
  · rw [h1, h2]
    refine ⟨by first | trivial | rfl, ?_⟩
    exact decide_eq_true (show (0 : Int) ≤ (j : Int) by omega)

/-- The error of joint i. -/
def errJ (js : List DJoint) (i : Nat) : Int :=
  let j := js.getD i (Ty.dflt TJoint)
  let b := robot_bound j.2.1
  bif !token_Name j.1 then 802 else bif (js.take i).any (nameIs j.1) then 802 else bif decide (j.2.1 < 0) then 803 else bif decide (6 < j.2.1) then 803 else
  bif decide (j.2.2.1 < -1) then 804 else bif decide ((i : Int) ≤ j.2.2.1) then 804 else bif !nearV 4194304 j.2.2.2.1 then 805 else
  bif decide (j.2.2.2.2.2.1 < j.2.2.2.2.1) then 806 else bif decide (j.2.2.2.2.1 < -b) then 806 else bif decide (b < j.2.2.2.2.2.1) then 806 else
  bif !btw 1 j.2.2.2.2.2.2.1 1024 then 807 else bif !btw 1 j.2.2.2.2.2.2.2.1 1048576 then 807 else bif !btw 1 j.2.2.2.2.2.2.2.2.1 1048576 then 807 else bif !btw 1 j.2.2.2.2.2.2.2.2.2 1099511627776 then 807 else 0

theorem neg_wrap {b : Int} (h1 : 0 ≤ b) (h2 : b ≤ 1099511627776) : IntKind.wrap .i64 (0 - b) = -b := by rw [wrap64 (by omega) (by omega)]; omega

theorem cjF (js : List DJoint) (i : Nat) (hi : i < js.length) (hl : js.length ≤ 1000000) :
    dom_robot_checkJoint (js.take i) (js.getD i (Ty.dflt TJoint)) = true ∧ robot_checkJoint (js.take i) (js.getD i (Ty.dflt TJoint)) = errJ js i := by
  unfold dom_robot_checkJoint robot_checkJoint t_robot_checkJoint errJ
  generalize js.getD i (Ty.dflt TJoint) = j
  have hlen : (js.take i).length = i := by rw [List.length_take]; omega
  obtain ⟨d1, v1⟩ := place_ok (js.take i) j.1 (by omega)
  obtain ⟨b1, b2⟩ := bound_le j.2.1
  simp only [Tr.dom, Tr.ok, Tr.val, d1, v1, rlong_eq, rbtw_eq, hlen, neg_wrap b1 (by omega), cond_true]
  constructor
  · cases (!token_Name j.1) <;> rfl
  · first | trivial | rfl

theorem cjR (js : List DJoint) (i : Nat) (hi : i < js.length) (hl : js.length ≤ 1000000) :
    dom_armplanref6_checkJoint js (i : Int) = true ∧ armplanref6_checkJoint js (i : Int) = errJ js i := by
  have key : ∀ j : DJoint, dom_armplanref6_checkJoint_L0 ((j, ()), (js, ()), ((i : Int), ()), (0, ()), ()) = true ∧ val_armplanref6_checkJoint_L0 ((j, ()), (js, ()), ((i : Int), ()), (0, ()), ()) =
      bif (js.take i).any (nameIs j.1) then .inr ((j, ()), (802, ()), ()) else .inl ((j, ()), ((i : Int), ()), ()) := by
    intro j
    unfold dom_armplanref6_checkJoint_L0 val_armplanref6_checkJoint_L0
    have hs := loop_scan (step := step_armplanref6_checkJoint_L0) (fun k => ((j, ()), (js, ()), ((i : Int), ()), ((k : Int), ()), ()))
      (fun k => if nameIs j.1 (js.getD k (Ty.dflt TJoint)) = true then some (.inr ((j, ()), (802, ()), ())) else none) (.inl ((j, ()), ((i : Int), ()), ())) i (fun k hk => by
        have e : IntKind.wrap .i64 ((k : Int) + 1) = ((k + 1 : Nat) : Int) := wrap_succ (by omega)
        unfold step_armplanref6_checkJoint_L0 t_armplanref6_checkJoint_L0 nameIs
        simp only [Tr.optA, dT (show (k : Int) < (i : Int) by omega), dT (show (k : Int) < (js.length : Int) by omega), dT (show 0 ≤ (k : Int) by omega), e, Int.toNat_natCast, Bool.and_self, cond_true, id]
        cases ((js.getD k (Ty.dflt TJoint)).1.toList == j.1.toList) <;> rfl) (by
        unfold step_armplanref6_checkJoint_L0 t_armplanref6_checkJoint_L0
        simp only [Tr.optA, dF (show ¬ ((i : Int) < (i : Int)) by omega), cond_false, id]) i 0 rounds (by omega) (rounds_lt (by omega))
    obtain ⟨h1, h2⟩ := scan_end hs
    refine ⟨h1, h2.trans ?_⟩
    have hlen : (js.take i).length = i := by rw [List.length_take]; omega
    have hc := firstS_congr (Y := Outs os_armplanref6_checkJoint_L0) (ex := fun k => if nameIs j.1 (js.getD k (Ty.dflt TJoint)) = true then some (.inr ((j, ()), (802, ()), ())) else none)
      (ex' := fun k => if nameIs j.1 ((js.take i).getD k (Ty.dflt TJoint)) = true then some (.inr ((j, ()), (802, ()), ())) else none) (e := .inl ((j, ()), ((i : Int), ()), ())) (n := i) (i := 0) (fun k _ hk => by
        dsimp only
        have ht : (js.take i)[k]? = js[k]? := by rw [List.getElem?_take]; exact if_pos (by omega)
        rw [List.getD_eq_getElem?_getD, List.getD_eq_getElem?_getD, ht])
    rw [hc]
    have h3 := firstS_any (Y := Outs os_armplanref6_checkJoint_L0) (nameIs j.1) (Ty.dflt TJoint) (fun _ => .inr ((j, ()), (802, ()), ())) (.inl ((j, ()), ((i : Int), ()), ())) (js.take i)
    rw [hlen] at h3
    rcases h3 with ⟨h4, h5⟩ | ⟨h4, _, _, _, h5⟩
    · rw [h4, h5]; rfl
    · rw [h4, h5]; rfl
  unfold dom_armplanref6_checkJoint armplanref6_checkJoint t_armplanref6_checkJoint errJ
  simp only [Int.toNat_natCast]
  obtain ⟨d1, v1⟩ := key (js.getD i (Ty.dflt TJoint))
  obtain ⟨n1, n2⟩ := name_eq (js.getD i (Ty.dflt TJoint)).1
  obtain ⟨b1, b2⟩ := bound_le (js.getD i (Ty.dflt TJoint)).2.1
  simp only [Tr.dom, Tr.ok, Tr.val, dT (show 0 ≤ (i : Int) by omega), dT (show (i : Int) < (js.length : Int) by omega), n1, n2, d1, v1, Bool.and_self, cond_true]
  cases (js.take i).any (nameIs (js.getD i (Ty.dflt TJoint)).1) with
  | true =>
    cases (!token_Name (js.getD i (Ty.dflt TJoint)).1) <;> exact ⟨rfl, rfl⟩
  | false =>
    simp only [cond_false, isL, getL, near_eq _ 4194304 (by decide) (by decide), btw_eq, reach_eq, neg_wrap b1 (show robot_bound (js.getD i (Ty.dflt TJoint)).2.1 ≤ 1099511627776 by omega), cond_true]
    cases (!token_Name (js.getD i (Ty.dflt TJoint)).1) <;> exact ⟨rfl, rfl⟩

/-- Whether a mass is valid for n joints. -/
def massB (n : Int) (x : DMass) : Bool := !decide (x.1 < 0) && !decide (n ≤ x.1) && btw 1 x.2.1 65536 && nearV 4194304 x.2.2

def robotErr (r : DRobot) : Int :=
  bif decide (((r.1.length : Nat) : Int) < 1) then 801 else bif decide (10 < ((r.1.length : Nat) : Int)) then 801 else
  bif !decide (fe (errJ r.1) r.1.length = 0) then fe (errJ r.1) r.1.length else bif decide (32 < ((r.2.length : Nat) : Int)) then 808 else bif r.2.all (massB r.1.length) then 0 else 808

theorem fe_scan {X Y : Type} {step : X → Option (X ⊕ Y)} [Inhabited Y] (f : Nat → X) (g : Nat → Int) (mk : Int → Y) (e : Y) (N : Nat) (hN : N < 9223372036854775807)
    (hmore : ∀ i, i < N → step (f i) = some (if g i = 0 then .inl (f (i + 1)) else .inr (mk (g i)))) (hend : step (f N) = some (.inr e)) :
    (loopN step rounds (f 0)).isSome = true ∧ (loopN step rounds (f 0)).getD default = bif !decide (fe g N = 0) then mk (fe g N) else e := by
  have h := scan_end (loop_scan f (fun i => if g i = 0 then none else some (mk (g i))) e N (fun i hi => by
    rw [hmore i hi]
    by_cases h : g i = 0
    · rw [if_pos h, if_pos h]
    · rw [if_neg h, if_neg h]) hend N 0 rounds (by omega) (rounds_lt hN))
  refine ⟨h.1, h.2.trans ?_⟩
  rw [firstS_fe]
  show (if fe g N = 0 then e else mk (fe g N)) = _
  by_cases h0 : fe g N = 0
  · rw [if_pos h0, decide_eq_true h0]; rfl
  · rw [if_neg h0, decide_eq_false h0]; rfl

theorem all_scan {X Y α : Type} {step : X → Option (X ⊕ Y)} [Inhabited Y] (f : Nat → X) (p : α → Bool) (d : α) (b e : Y) (l : List α) (hN : l.length < 9223372036854775807)
    (hmore : ∀ i, i < l.length → step (f i) = some (bif p (l.getD i d) then .inl (f (i + 1)) else .inr b)) (hend : step (f l.length) = some (.inr e)) :
    (loopN step rounds (f 0)).isSome = true ∧ (loopN step rounds (f 0)).getD default = bif l.all p then e else b := by
  have h := scan_end (loop_scan f (fun i => if p (l.getD i d) = true then none else some b) e l.length (fun i hi => by
    rw [hmore i hi]
    cases p (l.getD i d) <;> rfl) hend l.length 0 rounds (by omega) (rounds_lt hN))
  refine ⟨h.1, h.2.trans ?_⟩
  rw [firstS_all]

theorem fe_dec (x : Int) {A : Type} (a b : A) : (bif !decide (x = 0) then a else b) = if x = 0 then b else a := by
  by_cases h : x = 0
  · rw [if_pos h, decide_eq_true h]; rfl
  · rw [if_neg h, decide_eq_false h]; rfl

theorem robotF (r : DRobot) : dom_robot_Check r = true ∧ robot_Check r = robotErr r := by
  unfold dom_robot_Check robot_Check t_robot_Check robotErr
  by_cases c1 : ((r.1.length : Nat) : Int) < 1
  · simp only [Tr.dom, Tr.ok, Tr.val, dT c1, cond_true, Bool.true_and, Bool.and_false, Bool.false_and, and_true]
    try rfl
  by_cases c2 : 10 < ((r.1.length : Nat) : Int)
  · simp only [Tr.dom, Tr.ok, Tr.val, dF c1, dT c2, cond_true, cond_false, Bool.true_and, Bool.and_false, Bool.false_and, and_true]
    try rfl
  have l0 : dom_robot_Check_L0 ((r, ()), (r.1, ()), (((r.1.length : Nat) : Int), ()), (0, ()), ()) = true ∧ val_robot_Check_L0 ((r, ()), (r.1, ()), (((r.1.length : Nat) : Int), ()), (0, ()), ()) =
      bif !decide (fe (errJ r.1) r.1.length = 0) then .inr ((r, ()), (fe (errJ r.1) r.1.length, ()), ()) else .inl ((r, ()), ()) := by
    unfold dom_robot_Check_L0 val_robot_Check_L0
    refine fe_scan (step := step_robot_Check_L0) (fun i => ((r, ()), (r.1, ()), (((r.1.length : Nat) : Int), ()), ((i : Int), ()), ())) (errJ r.1) (fun x => .inr ((r, ()), (x, ()), ())) _ r.1.length (by omega) (fun i hi => ?_) ?_
    · have e : IntKind.wrap .i64 ((i : Int) + 1) = ((i + 1 : Nat) : Int) := wrap_succ (by omega)
      obtain ⟨d1, v1⟩ := cjF r.1 i hi (by omega)
      unfold step_robot_Check_L0 t_robot_Check_L0
      simp only [Tr.optA, dT (show (i : Int) < (r.1.length : Int) by omega), dT (show (i : Int) ≤ (r.1.length : Int) by omega), dT (show 0 ≤ (i : Int) by omega), e, Int.toNat_natCast, List.drop_zero, d1, v1, Bool.and_self, cond_true, id]
      rw [fe_dec]
      split <;> rfl
    · unfold step_robot_Check_L0 t_robot_Check_L0
      simp only [Tr.optA, dF (show ¬ ((r.1.length : Int) < (r.1.length : Int)) by omega), cond_false, id]
  by_cases c3 : 32 < ((r.2.length : Nat) : Int)
  · skip
    simp only [Tr.dom, Tr.ok, Tr.val, dF c1, dF c2, l0.1, l0.2, cond_true, cond_false]
    cases (!decide (fe (errJ r.1) r.1.length = 0)) with
    | true => exact ⟨rfl, rfl⟩
    | false =>
      simp only [cond_false, isL, getL, dT c3, cond_true]
      exact ⟨by first | trivial | rfl, by first | trivial | rfl⟩
  have l2 : dom_robot_Check_L2 ((r, ()), (r.2, ()), (((r.2.length : Nat) : Int), ()), (0, ()), ()) = true ∧ val_robot_Check_L2 ((r, ()), (r.2, ()), (((r.2.length : Nat) : Int), ()), (0, ()), ()) =
      bif r.2.all (massB r.1.length) then .inl ((r, ()), ()) else .inr ((r, ()), (808, ()), ()) := by
    unfold dom_robot_Check_L2 val_robot_Check_L2
    refine all_scan (step := step_robot_Check_L2) (fun i => ((r, ()), (r.2, ()), (((r.2.length : Nat) : Int), ()), ((i : Int), ()), ())) (massB r.1.length) (Ty.dflt TMass) _ _ r.2 (by omega) (fun i hi => ?_) ?_
    · have e : IntKind.wrap .i64 ((i : Int) + 1) = ((i + 1 : Nat) : Int) := wrap_succ (by omega)
      unfold step_robot_Check_L2 t_robot_Check_L2 massB
      simp only [Tr.optA, dT (show (i : Int) < (r.2.length : Int) by omega), dT (show 0 ≤ (i : Int) by omega), e, Int.toNat_natCast, rlong_eq, rbtw_eq, Bool.and_self, cond_true, id]
      by_cases q1 : (r.2.getD i (Ty.dflt TMass)).1 < 0
      · simp only [dT q1, cond_true, Bool.not_true, Bool.false_and, cond_false]
      by_cases q2 : (r.1.length : Int) ≤ (r.2.getD i (Ty.dflt TMass)).1
      · simp only [dF q1, dT q2, cond_true, Bool.not_true, Bool.not_false, Bool.and_false, Bool.false_and, cond_false]
      cases q3 : btw 1 (r.2.getD i (Ty.dflt TMass)).2.1 65536 <;> cases q4 : nearV 4194304 (r.2.getD i (Ty.dflt TMass)).2.2 <;>
        simp only [dF q1, dF q2, q3, q4, cond_true, Bool.not_true, Bool.not_false, Bool.and_false, Bool.and_true, Bool.and_self, cond_false]
    · unfold step_robot_Check_L2 t_robot_Check_L2
      simp only [Tr.optA, dF (show ¬ ((r.2.length : Int) < (r.2.length : Int)) by omega), cond_false, id]
  simp only [Tr.dom, Tr.ok, Tr.val, dF c1, dF c2, l0.1, l0.2, cond_true, cond_false]
  cases (!decide (fe (errJ r.1) r.1.length = 0)) with
  | true => exact ⟨rfl, rfl⟩
  | false =>
    simp only [cond_false, isL, getL, dF c3, l2.1, l2.2, cond_true]
    cases r.2.all (massB r.1.length) <;> exact ⟨rfl, rfl⟩

theorem robotR (r : DRobot) : dom_armplanref6_CheckRobot r = true ∧ armplanref6_CheckRobot r = robotErr r := by
  unfold dom_armplanref6_CheckRobot armplanref6_CheckRobot t_armplanref6_CheckRobot robotErr
  by_cases c1 : ((r.1.length : Nat) : Int) < 1
  · simp only [Tr.dom, Tr.ok, Tr.val, dT c1, cond_true, Bool.true_and, Bool.and_false, Bool.false_and, and_true]
    try rfl
  by_cases c2 : 10 < ((r.1.length : Nat) : Int)
  · simp only [Tr.dom, Tr.ok, Tr.val, dF c1, dT c2, cond_true, cond_false, Bool.true_and, Bool.and_false, Bool.false_and, and_true]
    try rfl
  have l0 : dom_armplanref6_CheckRobot_L0 ((r, ()), (0, ()), ()) = true ∧ val_armplanref6_CheckRobot_L0 ((r, ()), (0, ()), ()) =
      bif !decide (fe (errJ r.1) r.1.length = 0) then .inr ((r, ()), (fe (errJ r.1) r.1.length, ()), ()) else .inl ((r, ()), ()) := by
    unfold dom_armplanref6_CheckRobot_L0 val_armplanref6_CheckRobot_L0
    refine fe_scan (step := step_armplanref6_CheckRobot_L0) (fun i => ((r, ()), ((i : Int), ()), ())) (errJ r.1) (fun x => .inr ((r, ()), (x, ()), ())) _ r.1.length (by omega) (fun i hi => ?_) ?_
    · have e : IntKind.wrap .i64 ((i : Int) + 1) = ((i + 1 : Nat) : Int) := wrap_succ (by omega)
      obtain ⟨d1, v1⟩ := cjR r.1 i hi (by omega)
      unfold step_armplanref6_CheckRobot_L0 t_armplanref6_CheckRobot_L0
      simp only [Tr.optA, dT (show (i : Int) < (r.1.length : Int) by omega), e, d1, v1, cond_true, id]
      rw [fe_dec]
      split <;> rfl
    · unfold step_armplanref6_CheckRobot_L0 t_armplanref6_CheckRobot_L0
      simp only [Tr.optA, dF (show ¬ ((r.1.length : Int) < (r.1.length : Int)) by omega), cond_false, id]
  by_cases c3 : 32 < ((r.2.length : Nat) : Int)
  · skip
    simp only [Tr.dom, Tr.ok, Tr.val, dF c1, dF c2, l0.1, l0.2, cond_true, cond_false]
    cases (!decide (fe (errJ r.1) r.1.length = 0)) with
    | true => exact ⟨rfl, rfl⟩
    | false =>
      simp only [cond_false, isL, getL, dT c3, cond_true]
      exact ⟨by first | trivial | rfl, by first | trivial | rfl⟩
  have l2 : dom_armplanref6_CheckRobot_L2 ((r, ()), (0, ()), ()) = true ∧ val_armplanref6_CheckRobot_L2 ((r, ()), (0, ()), ()) =
      bif r.2.all (massB r.1.length) then .inl ((r, ()), ()) else .inr ((r, ()), (808, ()), ()) := by
    unfold dom_armplanref6_CheckRobot_L2 val_armplanref6_CheckRobot_L2
    refine all_scan (step := step_armplanref6_CheckRobot_L2) (fun i => ((r, ()), ((i : Int), ()), ())) (massB r.1.length) (Ty.dflt TMass) _ _ r.2 (by omega) (fun i hi => ?_) ?_
    · have e : IntKind.wrap .i64 ((i : Int) + 1) = ((i + 1 : Nat) : Int) := wrap_succ (by omega)
      unfold step_armplanref6_CheckRobot_L2 t_armplanref6_CheckRobot_L2 massB
      simp only [Tr.optA, dT (show (i : Int) < (r.2.length : Int) by omega), dT (show 0 ≤ (i : Int) by omega), e, Int.toNat_natCast, near_eq _ 4194304 (by decide) (by decide), btw_eq, Bool.and_self, cond_true, id]
      by_cases q1 : (r.2.getD i (Ty.dflt TMass)).1 < 0
      · simp only [dT q1, cond_true, Bool.not_true, Bool.false_and, cond_false]
      by_cases q2 : (r.1.length : Int) ≤ (r.2.getD i (Ty.dflt TMass)).1
      · simp only [dF q1, dT q2, cond_true, Bool.not_true, Bool.not_false, Bool.and_false, Bool.false_and, cond_false]
      cases q3 : btw 1 (r.2.getD i (Ty.dflt TMass)).2.1 65536 <;> cases q4 : nearV 4194304 (r.2.getD i (Ty.dflt TMass)).2.2 <;>
        simp only [dF q1, dF q2, q3, q4, cond_true, Bool.not_true, Bool.not_false, Bool.and_false, Bool.and_true, Bool.and_self, cond_false]
    · unfold step_armplanref6_CheckRobot_L2 t_armplanref6_CheckRobot_L2
      simp only [Tr.optA, dF (show ¬ ((r.2.length : Int) < (r.2.length : Int)) by omega), cond_false, id]
  simp only [Tr.dom, Tr.ok, Tr.val, dF c1, dF c2, l0.1, l0.2, cond_true, cond_false]
  cases (!decide (fe (errJ r.1) r.1.length = 0)) with
  | true => exact ⟨rfl, rfl⟩
  | false =>
    simp only [cond_false, isL, getL, dF c3, l2.1, l2.2, cond_true]
    cases r.2.all (massB r.1.length) <;> exact ⟨rfl, rfl⟩

end Go.RX

/-
  The checks of scenes: program and reference are one.
-/
namespace Go.RX
open Go

def linkB (n k : Int) : Bool := decide (-1 ≤ k) && decide (k < n)
def ptsB (l : List DVec) : Bool := l.all (nearV 4194304)
def shapeErr (n : Int) (x : DShape) : Int :=
  bif !linkB n x.1 then 902 else bif !btw 1 x.2.1 1048576 then 902 else bif decide (((x.2.2.length : Nat) : Int) < 1) then 902 else bif decide (8 < ((x.2.2.length : Nat) : Int)) then 902 else bif ptsB x.2.2 then 0 else 805
def skipB (n : Int) (x : Int × Int) : Bool := linkB n x.1 && linkB n x.2
def sceneErr (s : DScene) : Int :=
  bif !decide (robotErr s.1 = 0) then robotErr s.1 else bif decide (24 < ((s.2.1.length : Nat) : Int)) then 901 else
  bif !decide (fe (fun i => shapeErr s.1.1.length (s.2.1.getD i (Ty.dflt TShape))) s.2.1.length = 0) then fe (fun i => shapeErr s.1.1.length (s.2.1.getD i (Ty.dflt TShape))) s.2.1.length else
  bif decide (64 < ((s.2.2.length : Nat) : Int)) then 903 else bif s.2.2.all (skipB s.1.1.length) then 0 else 903

theorem slink_eq (r : DRobot) (k : Int) : scene_link r k = linkB r.1.length k := by
  unfold scene_link t_scene_link linkB
  simp only [Tr.val]
  cases decide ((-1 : Int) ≤ k) <;> rfl
theorem rlink_eq (r : DRobot) (k : Int) : armplanref6_isLink r k = linkB r.1.length k := by
  unfold armplanref6_isLink t_armplanref6_isLink linkB
  simp only [Tr.val]
  cases decide ((-1 : Int) ≤ k) <;> rfl

/-- A search for a long point: nothing if all are near. -/
theorem pts_scan (l : List DVec) (hl : l.length ≤ 1000000) :
    dom_scene_Check_slices_IndexFunc___api_Vec_api_Vec__L0 ((l, ()), (((l.length : Nat) : Int), ()), (0, ()), ()) = true ∧
    ((ptsB l = true ∧ val_scene_Check_slices_IndexFunc___api_Vec_api_Vec__L0 ((l, ()), (((l.length : Nat) : Int), ()), (0, ()), ()) = .inl ()) ∨
     (ptsB l = false ∧ ∃ j : Nat, val_scene_Check_slices_IndexFunc___api_Vec_api_Vec__L0 ((l, ()), (((l.length : Nat) : Int), ()), (0, ()), ()) = .inr (((j : Int), ()), ()))) := by
  have key : dom_scene_Check_slices_IndexFunc___api_Vec_api_Vec__L0 ((l, ()), (((l.length : Nat) : Int), ()), (0, ()), ()) = true ∧
      val_scene_Check_slices_IndexFunc___api_Vec_api_Vec__L0 ((l, ()), (((l.length : Nat) : Int), ()), (0, ()), ()) =
        firstS (fun i => if (!nearV 4194304 (l.getD i (Ty.dflt TVec))) = true then some (.inr (((i : Int), ()), ())) else none) (.inl ()) 0 l.length := by
    unfold dom_scene_Check_slices_IndexFunc___api_Vec_api_Vec__L0 val_scene_Check_slices_IndexFunc___api_Vec_api_Vec__L0
    refine scan_end (loop_scan (step := step_scene_Check_slices_IndexFunc___api_Vec_api_Vec__L0) (fun i => ((l, ()), (((l.length : Nat) : Int), ()), ((i : Int), ()), ())) _ _ l.length (fun i hi => ?_) ?_ l.length 0 rounds (by omega) (rounds_lt (by omega)))
    · have e : IntKind.wrap .i64 ((i : Int) + 1) = ((i + 1 : Nat) : Int) := wrap_succ (by omega)
      unfold step_scene_Check_slices_IndexFunc___api_Vec_api_Vec__L0 t_scene_Check_slices_IndexFunc___api_Vec_api_Vec__L0
      simp only [Tr.optA, dT (show (i : Int) < (l.length : Int) by omega), dT (show 0 ≤ (i : Int) by omega), e, Int.toNat_natCast, slong_eq, Bool.and_self, cond_true, id]
      cases (nearV 4194304 (l.getD i (Ty.dflt TVec))) <;> rfl
    · unfold step_scene_Check_slices_IndexFunc___api_Vec_api_Vec__L0 t_scene_Check_slices_IndexFunc___api_Vec_api_Vec__L0
      simp only [Tr.optA, dF (show ¬ ((l.length : Int) < (l.length : Int)) by omega), cond_false, id]
  refine ⟨key.1, ?_⟩
  rw [key.2]
  have ha : ptsB l = !l.any fun v => !nearV 4194304 v := by unfold ptsB; rw [List.all_eq_not_any_not]
  rcases firstS_any (Y := Outs os_scene_Check_slices_IndexFunc___api_Vec_api_Vec__L0) (fun v => !nearV 4194304 v) (Ty.dflt TVec) (fun i => .inr (((i : Int), ()), ())) (.inl ()) l with ⟨h1, h2⟩ | ⟨h1, j, h3, _, h2⟩
  · exact .inl ⟨by rw [ha, h1]; rfl, h2⟩
  · exact .inr ⟨by rw [ha, h1]; rfl, j, h2⟩

theorem sceneF (s : DScene) : dom_scene_Check s = true ∧ scene_Check s = sceneErr s := by
  unfold dom_scene_Check scene_Check t_scene_Check sceneErr
  obtain ⟨d1, v1⟩ := robotF s.1
  by_cases c0 : ¬ robotErr s.1 = 0
  · simp only [Tr.dom, Tr.ok, Tr.val, d1, v1, dF c0, cond_true, Bool.not_false]
    exact ⟨by first | trivial | rfl, by first | trivial | rfl⟩
  replace c0 := Decidable.not_not.1 c0
  have hn : s.1.1.length ≤ 10 := by
    unfold robotErr at c0
    by_cases h1 : ((s.1.1.length : Nat) : Int) < 1
    · rw [dT h1] at c0; simp at c0
    by_cases h2 : 10 < ((s.1.1.length : Nat) : Int)
    · rw [dF h1, dT h2] at c0; simp at c0
    omega
  by_cases c1 : 24 < ((s.2.1.length : Nat) : Int)
  · simp only [Tr.dom, Tr.ok, Tr.val, d1, v1, dT c0, dT c1, cond_true, cond_false, Bool.not_true]
    exact ⟨by first | trivial | rfl, by first | trivial | rfl⟩
  have l0 : dom_scene_Check_L0 ((s, ()), (s.2.1, ()), (((s.2.1.length : Nat) : Int), ()), (0, ()), ()) = true ∧ val_scene_Check_L0 ((s, ()), (s.2.1, ()), (((s.2.1.length : Nat) : Int), ()), (0, ()), ()) =
      bif !decide (fe (fun i => shapeErr s.1.1.length (s.2.1.getD i (Ty.dflt TShape))) s.2.1.length = 0) then .inr ((s, ()), (fe (fun i => shapeErr s.1.1.length (s.2.1.getD i (Ty.dflt TShape))) s.2.1.length, ()), ()) else .inl ((s, ()), ()) := by
    unfold dom_scene_Check_L0 val_scene_Check_L0
    refine fe_scan (step := step_scene_Check_L0) (fun i => ((s, ()), (s.2.1, ()), (((s.2.1.length : Nat) : Int), ()), ((i : Int), ()), ())) _ (fun x => .inr ((s, ()), (x, ()), ())) _ s.2.1.length (by omega) (fun i hi => ?_) ?_
    · have e : IntKind.wrap .i64 ((i : Int) + 1) = ((i + 1 : Nat) : Int) := wrap_succ (by omega)
      unfold step_scene_Check_L0 t_scene_Check_L0 shapeErr
      simp only [Tr.optA, dT (show (i : Int) < (s.2.1.length : Int) by omega), dT (show 0 ≤ (i : Int) by omega), e, Int.toNat_natCast, slink_eq, Bool.and_self, cond_true, id]
      cases q1 : linkB s.1.1.length (s.2.1.getD i (Ty.dflt TShape)).1 with
      | false => simp only [Bool.not_false, cond_true]; rfl
      | true =>
      by_cases q2 : (s.2.1.getD i (Ty.dflt TShape)).2.1 < 1
      · simp only [Bool.not_true, cond_false, dT q2, cond_true, btw, not_lt_dec, Bool.not_true, Bool.false_and, Bool.not_false]; rfl
      by_cases q3 : 1048576 < (s.2.1.getD i (Ty.dflt TShape)).2.1
      · simp only [Bool.not_true, cond_false, dF q2, dT q3, cond_true, btw, not_lt_dec, Bool.not_true, Bool.and_false, Bool.not_false]; rfl
      by_cases q4 : (((s.2.1.getD i (Ty.dflt TShape)).2.2.length : Nat) : Int) < 1
      · simp only [Bool.not_true, cond_false, dF q2, dF q3, dT q4, cond_true, btw, not_lt_dec, Bool.not_true, Bool.and_self, Bool.not_false]; rfl
      by_cases q5 : 8 < (((s.2.1.getD i (Ty.dflt TShape)).2.2.length : Nat) : Int)
      · simp only [Bool.not_true, cond_false, dF q2, dF q3, dF q4, dT q5, cond_true, btw, not_lt_dec, Bool.not_true, Bool.and_self, Bool.not_false]; rfl
      obtain ⟨p1, p2⟩ := pts_scan (s.2.1.getD i (Ty.dflt TShape)).2.2 (by omega)
      simp only [Bool.not_true, cond_false, dF q2, dF q3, dF q4, dF q5, p1, cond_true, btw, not_lt_dec, Bool.not_true, Bool.and_self, Bool.not_false]
      rcases p2 with ⟨p3, p4⟩ | ⟨p3, j, p4⟩
      · rw [p3, p4]; rfl
      · rw [p3, p4]
        simp only [isL, getR, dT (show (0 : Int) ≤ (j : Int) by omega), cond_true, cond_false]
        rfl
    · unfold step_scene_Check_L0 t_scene_Check_L0
      simp only [Tr.optA, dF (show ¬ ((s.2.1.length : Int) < (s.2.1.length : Int)) by omega), cond_false, id]
  by_cases c3 : 64 < ((s.2.2.length : Nat) : Int)
  · simp only [Tr.dom, Tr.ok, Tr.val, d1, v1, dT c0, dF c1, l0.1, l0.2, cond_true, cond_false, Bool.not_true]
    cases (!decide (fe (fun i => shapeErr s.1.1.length (s.2.1.getD i (Ty.dflt TShape))) s.2.1.length = 0)) with
    | true => exact ⟨rfl, rfl⟩
    | false =>
      simp only [cond_false, isL, getL, dT c3, cond_true]
      exact ⟨by first | trivial | rfl, by first | trivial | rfl⟩
  have l2 : dom_scene_Check_L2 ((s, ()), (s.2.2, ()), (((s.2.2.length : Nat) : Int), ()), (0, ()), ()) = true ∧ val_scene_Check_L2 ((s, ()), (s.2.2, ()), (((s.2.2.length : Nat) : Int), ()), (0, ()), ()) =
      bif s.2.2.all (skipB s.1.1.length) then .inl ((s, ()), ()) else .inr ((s, ()), (903, ()), ()) := by
    unfold dom_scene_Check_L2 val_scene_Check_L2
    refine all_scan (step := step_scene_Check_L2) (fun i => ((s, ()), (s.2.2, ()), (((s.2.2.length : Nat) : Int), ()), ((i : Int), ()), ())) (skipB s.1.1.length) (Ty.dflt (.pair (.int .i64) (.int .i64))) _ _ s.2.2 (by omega) (fun i hi => ?_) ?_
    · have e : IntKind.wrap .i64 ((i : Int) + 1) = ((i + 1 : Nat) : Int) := wrap_succ (by omega)
      unfold step_scene_Check_L2 t_scene_Check_L2 skipB
      simp only [Tr.optA, dT (show (i : Int) < (s.2.2.length : Int) by omega), dT (show 0 ≤ (i : Int) by omega), e, Int.toNat_natCast, slink_eq, Bool.and_self, cond_true, id]
      cases q1 : linkB s.1.1.length (s.2.2.getD i (Ty.dflt (.pair (.int .i64) (.int .i64)))).1 <;> cases q2 : linkB s.1.1.length (s.2.2.getD i (Ty.dflt (.pair (.int .i64) (.int .i64)))).2 <;> rfl
    · unfold step_scene_Check_L2 t_scene_Check_L2
      simp only [Tr.optA, dF (show ¬ ((s.2.2.length : Int) < (s.2.2.length : Int)) by omega), cond_false, id]
  simp only [Tr.dom, Tr.ok, Tr.val, d1, v1, dT c0, dF c1, l0.1, l0.2, cond_true, cond_false, Bool.not_true]
  cases (!decide (fe (fun i => shapeErr s.1.1.length (s.2.1.getD i (Ty.dflt TShape))) s.2.1.length = 0)) with
  | true => exact ⟨rfl, rfl⟩
  | false =>
    simp only [cond_false, isL, getL, dF c3, l2.1, l2.2, cond_true]
    cases s.2.2.all (skipB s.1.1.length) <;> exact ⟨rfl, rfl⟩

theorem pts_scanR (x : DShape) (hl : x.2.2.length ≤ 1000000) :
    dom_armplanref6_CheckScene_L2 ((x, ()), (0, ()), ()) = true ∧ val_armplanref6_CheckScene_L2 ((x, ()), (0, ()), ()) = bif ptsB x.2.2 then .inl ((x, ()), ()) else .inr ((x, ()), (805, ()), ()) := by
  unfold dom_armplanref6_CheckScene_L2 val_armplanref6_CheckScene_L2 ptsB
  refine all_scan (step := step_armplanref6_CheckScene_L2) (fun i => ((x, ()), ((i : Int), ()), ())) (nearV 4194304) (Ty.dflt TVec) _ _ x.2.2 (by omega) (fun i hi => ?_) ?_
  · have e : IntKind.wrap .i64 ((i : Int) + 1) = ((i + 1 : Nat) : Int) := wrap_succ (by omega)
    unfold step_armplanref6_CheckScene_L2 t_armplanref6_CheckScene_L2
    simp only [Tr.optA, dT (show (i : Int) < (x.2.2.length : Int) by omega), dT (show 0 ≤ (i : Int) by omega), e, Int.toNat_natCast, near_eq _ 4194304 (by decide) (by decide), Bool.and_self, cond_true, id]
    cases (nearV 4194304 (x.2.2.getD i (Ty.dflt TVec))) <;> rfl
  · unfold step_armplanref6_CheckScene_L2 t_armplanref6_CheckScene_L2
    simp only [Tr.optA, dF (show ¬ ((x.2.2.length : Int) < (x.2.2.length : Int)) by omega), cond_false, id]

theorem sceneR (s : DScene) : dom_armplanref6_CheckScene s = true ∧ armplanref6_CheckScene s = sceneErr s := by
  unfold dom_armplanref6_CheckScene armplanref6_CheckScene t_armplanref6_CheckScene sceneErr
  obtain ⟨d1, v1⟩ := robotR s.1
  by_cases c0 : ¬ robotErr s.1 = 0
  · simp only [Tr.dom, Tr.ok, Tr.val, d1, v1, dF c0, cond_true, Bool.not_false]
    exact ⟨by first | trivial | rfl, by first | trivial | rfl⟩
  replace c0 := Decidable.not_not.1 c0
  by_cases c1 : 24 < ((s.2.1.length : Nat) : Int)
  · simp only [Tr.dom, Tr.ok, Tr.val, d1, v1, dT c0, dT c1, cond_true, cond_false, Bool.not_true]
    exact ⟨by first | trivial | rfl, by first | trivial | rfl⟩
  have l0 : dom_armplanref6_CheckScene_L0 ((s, ()), (0, ()), ()) = true ∧ val_armplanref6_CheckScene_L0 ((s, ()), (0, ()), ()) =
      bif !decide (fe (fun i => shapeErr s.1.1.length (s.2.1.getD i (Ty.dflt TShape))) s.2.1.length = 0) then .inr ((s, ()), (fe (fun i => shapeErr s.1.1.length (s.2.1.getD i (Ty.dflt TShape))) s.2.1.length, ()), ()) else .inl ((s, ()), ()) := by
    unfold dom_armplanref6_CheckScene_L0 val_armplanref6_CheckScene_L0
    refine fe_scan (step := step_armplanref6_CheckScene_L0) (fun i => ((s, ()), ((i : Int), ()), ())) _ (fun x => .inr ((s, ()), (x, ()), ())) _ s.2.1.length (by omega) (fun i hi => ?_) ?_
    · have e : IntKind.wrap .i64 ((i : Int) + 1) = ((i + 1 : Nat) : Int) := wrap_succ (by omega)
      unfold step_armplanref6_CheckScene_L0 t_armplanref6_CheckScene_L0 shapeErr
      simp only [Tr.optA, dT (show (i : Int) < (s.2.1.length : Int) by omega), dT (show 0 ≤ (i : Int) by omega), e, Int.toNat_natCast, rlink_eq, btw_eq, Bool.and_self, cond_true, id]
      cases q1 : linkB s.1.1.length (s.2.1.getD i (Ty.dflt TShape)).1 with
      | false => simp only [Bool.not_false, cond_true]; rfl
      | true =>
      cases q2 : btw 1 (s.2.1.getD i (Ty.dflt TShape)).2.1 1048576 with
      | false => simp only [Bool.not_true, Bool.not_false, cond_true, cond_false]; rfl
      | true =>
      by_cases q4 : (((s.2.1.getD i (Ty.dflt TShape)).2.2.length : Nat) : Int) < 1
      · simp only [Bool.not_true, cond_false, dT q4, cond_true]; rfl
      by_cases q5 : 8 < (((s.2.1.getD i (Ty.dflt TShape)).2.2.length : Nat) : Int)
      · simp only [Bool.not_true, cond_false, dF q4, dT q5, cond_true]; rfl
      obtain ⟨p1, p2⟩ := pts_scanR (s.2.1.getD i (Ty.dflt TShape)) (by omega)
      simp only [Bool.not_true, cond_false, dF q4, dF q5, p1, p2, cond_true]
      cases ptsB (s.2.1.getD i (Ty.dflt TShape)).2.2 <;> rfl
    · unfold step_armplanref6_CheckScene_L0 t_armplanref6_CheckScene_L0
      simp only [Tr.optA, dF (show ¬ ((s.2.1.length : Int) < (s.2.1.length : Int)) by omega), cond_false, id]
  by_cases c3 : 64 < ((s.2.2.length : Nat) : Int)
  · simp only [Tr.dom, Tr.ok, Tr.val, d1, v1, dT c0, dF c1, l0.1, l0.2, cond_true, cond_false, Bool.not_true]
    cases (!decide (fe (fun i => shapeErr s.1.1.length (s.2.1.getD i (Ty.dflt TShape))) s.2.1.length = 0)) with
    | true => exact ⟨rfl, rfl⟩
    | false =>
      simp only [cond_false, isL, getL, dT c3, cond_true]
      exact ⟨by first | trivial | rfl, by first | trivial | rfl⟩
  have l2 : dom_armplanref6_CheckScene_L4 ((s, ()), (0, ()), ()) = true ∧ val_armplanref6_CheckScene_L4 ((s, ()), (0, ()), ()) =
      bif s.2.2.all (skipB s.1.1.length) then .inl ((s, ()), ()) else .inr ((s, ()), (903, ()), ()) := by
    unfold dom_armplanref6_CheckScene_L4 val_armplanref6_CheckScene_L4
    refine all_scan (step := step_armplanref6_CheckScene_L4) (fun i => ((s, ()), ((i : Int), ()), ())) (skipB s.1.1.length) (Ty.dflt (.pair (.int .i64) (.int .i64))) _ _ s.2.2 (by omega) (fun i hi => ?_) ?_
    · have e : IntKind.wrap .i64 ((i : Int) + 1) = ((i + 1 : Nat) : Int) := wrap_succ (by omega)
      unfold step_armplanref6_CheckScene_L4 t_armplanref6_CheckScene_L4 skipB
      simp only [Tr.optA, dT (show (i : Int) < (s.2.2.length : Int) by omega), dT (show 0 ≤ (i : Int) by omega), e, Int.toNat_natCast, rlink_eq, Bool.and_self, cond_true, id]
      cases q1 : linkB s.1.1.length (s.2.2.getD i (Ty.dflt (.pair (.int .i64) (.int .i64)))).1 <;> cases q2 : linkB s.1.1.length (s.2.2.getD i (Ty.dflt (.pair (.int .i64) (.int .i64)))).2 <;> rfl
    · unfold step_armplanref6_CheckScene_L4 t_armplanref6_CheckScene_L4
      simp only [Tr.optA, dF (show ¬ ((s.2.2.length : Int) < (s.2.2.length : Int)) by omega), cond_false, id]
  simp only [Tr.dom, Tr.ok, Tr.val, d1, v1, dT c0, dF c1, l0.1, l0.2, cond_true, cond_false, Bool.not_true]
  cases (!decide (fe (fun i => shapeErr s.1.1.length (s.2.1.getD i (Ty.dflt TShape))) s.2.1.length = 0)) with
  | true => exact ⟨rfl, rfl⟩
  | false =>
    simp only [cond_false, isL, getL, dF c3, l2.1, l2.2, cond_true]
    cases s.2.2.all (skipB s.1.1.length) <;> exact ⟨rfl, rfl⟩

end Go.RX

/-
  Joints, links and points: program and reference are one.
-/
namespace Go.RX
open Go

/-- The motion of a joint of a kind. -/
def moveP (k : Int) (v : Int × Int) : P4 :=
  bif decide (k = 1) then (turnM 0 v, zeroV) else bif decide (k = 2) then (turnM 1 v, zeroV) else bif decide (k = 3) then (turnM 2 v, zeroV) else
  bif decide (k = 4) then (unitM, (v, ((0, 0), (0, 0)))) else bif decide (k = 5) then (unitM, ((0, 0), (v, (0, 0)))) else bif decide (k = 6) then (unitM, ((0, 0), ((0, 0), v))) else (unitM, zeroV)
def jointP (j : DJoint) (v : Int × Int) : P4 := compP (unitM, pointV j.2.2.2.1) (moveP j.2.1 v)

theorem slide_0 (v : Int × Int) : dom_kinematics_slide 0 v = true ∧ kinematics_slide 0 v = (unitM, (v, ((0, 0), (0, 0)))) := ⟨rfl, shiftF _⟩
theorem slide_1 (v : Int × Int) : dom_kinematics_slide 1 v = true ∧ kinematics_slide 1 v = (unitM, ((0, 0), (v, (0, 0)))) := ⟨rfl, shiftF _⟩
theorem slide_2 (v : Int × Int) : dom_kinematics_slide 2 v = true ∧ kinematics_slide 2 v = (unitM, ((0, 0), ((0, 0), v))) := ⟨rfl, shiftF _⟩

theorem w11 : IntKind.wrap .i64 (1 - 1) = 0 := by decide
theorem w21 : IntKind.wrap .i64 (2 - 1) = 1 := by decide
theorem w31 : IntKind.wrap .i64 (3 - 1) = 2 := by decide
theorem w44 : IntKind.wrap .i64 (4 - 4) = 0 := by decide
theorem w54 : IntKind.wrap .i64 (5 - 4) = 1 := by decide
theorem w64 : IntKind.wrap .i64 (6 - 4) = 2 := by decide

theorem jointF (j : DJoint) (v : Int × Int) : dom_kinematics_Joint j v = true ∧ kinematics_Joint j v = jointP j v := by
  unfold dom_kinematics_Joint kinematics_Joint t_kinematics_Joint jointP moveP
  generalize j.2.2.2.1 = off
  generalize j.2.1 = k
  by_cases h1 : k = 1
  · subst h1
    simp only [Tr.dom, Tr.ok, Tr.val, dT rfl, cond_true, w11, shiftF, turnPF, pointF, compPF]
    exact ⟨by first | trivial | rfl, by first | trivial | rfl⟩
  by_cases h2 : k = 2
  · subst h2
    simp only [Tr.dom, Tr.ok, Tr.val, dF h1, dT rfl, cond_true, cond_false, w21, shiftF, turnPF, pointF, compPF]
    exact ⟨by first | trivial | rfl, by first | trivial | rfl⟩
  by_cases h3 : k = 3
  · subst h3
    simp only [Tr.dom, Tr.ok, Tr.val, dF h1, dF h2, dT rfl, cond_true, cond_false, w31, shiftF, turnPF, pointF, compPF]
    exact ⟨by first | trivial | rfl, by first | trivial | rfl⟩
  by_cases h4 : k = 4
  · subst h4
    simp only [Tr.dom, Tr.ok, Tr.val, dF h1, dF h2, dF h3, dT rfl, cond_true, cond_false, w44, (slide_0 v).1, (slide_0 v).2, shiftF, turnPF, pointF, compPF]
    exact ⟨by first | trivial | rfl, by first | trivial | rfl⟩
  by_cases h5 : k = 5
  · subst h5
    simp only [Tr.dom, Tr.ok, Tr.val, dF h1, dF h2, dF h3, dF h4, dT rfl, cond_true, cond_false, w54, (slide_1 v).1, (slide_1 v).2, shiftF, turnPF, pointF, compPF]
    exact ⟨by first | trivial | rfl, by first | trivial | rfl⟩
  by_cases h6 : k = 6
  · subst h6
    simp only [Tr.dom, Tr.ok, Tr.val, dF h1, dF h2, dF h3, dF h4, dF h5, dT rfl, cond_true, cond_false, w64, (slide_2 v).1, (slide_2 v).2, shiftF, turnPF, pointF, compPF]
    exact ⟨by first | trivial | rfl, by first | trivial | rfl⟩
  · have hr : kinematics_rest 0 v = (unitM, zeroV) := restF
    simp only [Tr.dom, Tr.ok, Tr.val, dF h1, dF h2, dF h3, dF h4, dF h5, dF h6, cond_true, cond_false, hr, shiftF, turnPF, pointF, compPF]
    exact ⟨by first | trivial | rfl, by first | trivial | rfl⟩

theorem jointR (j : DJoint) (v : Int × Int) : dom_armplanref10_Joint j v = true ∧ armplanref10_Joint j v = jointP j v := by
  unfold dom_armplanref10_Joint armplanref10_Joint t_armplanref10_Joint jointP moveP
  generalize j.2.2.2.1 = off
  generalize j.2.1 = k
  have n10 : ¬ (1 : Int) = 0 := by decide
  have n20 : ¬ (2 : Int) = 0 := by decide
  have n21 : ¬ (2 : Int) = 1 := by decide
  by_cases h1 : k = 1
  · subst h1
    simp only [Tr.dom, Tr.ok, Tr.val, dT rfl, cond_true, w11, shiftR, turnPR, pointR, compPR]
    exact ⟨by first | trivial | rfl, by first | trivial | rfl⟩
  by_cases h2 : k = 2
  · subst h2
    simp only [Tr.dom, Tr.ok, Tr.val, dF h1, dT rfl, cond_true, cond_false, w21, shiftR, turnPR, pointR, compPR]
    exact ⟨by first | trivial | rfl, by first | trivial | rfl⟩
  by_cases h3 : k = 3
  · subst h3
    simp only [Tr.dom, Tr.ok, Tr.val, dF h1, dF h2, dT rfl, cond_true, cond_false, w31, shiftR, turnPR, pointR, compPR]
    exact ⟨by first | trivial | rfl, by first | trivial | rfl⟩
  by_cases h4 : k = 4
  · subst h4
    simp only [Tr.dom, Tr.ok, Tr.val, dF h1, dF h2, dF h3, dT rfl, cond_true, cond_false, w44, shiftR, turnPR, pointR, compPR]
    exact ⟨by first | trivial | rfl, by first | trivial | rfl⟩
  by_cases h5 : k = 5
  · subst h5
    simp only [Tr.dom, Tr.ok, Tr.val, dF h1, dF h2, dF h3, dF h4, dT rfl, dF n10, cond_true, cond_false, w54, shiftR, turnPR, pointR, compPR]
    exact ⟨by first | trivial | rfl, by first | trivial | rfl⟩
  by_cases h6 : k = 6
  · subst h6
    simp only [Tr.dom, Tr.ok, Tr.val, dF h1, dF h2, dF h3, dF h4, dF h5, dT rfl, dF n20, dF n21, cond_true, cond_false, w64, shiftR, turnPR, pointR, compPR]
    exact ⟨by first | trivial | rfl, by first | trivial | rfl⟩
  · simp only [Tr.dom, Tr.ok, Tr.val, dF h1, dF h2, dF h3, dF h4, dF h5, dF h6, cond_true, cond_false, restR, shiftR, turnPR, pointR, compPR]
    exact ⟨by first | trivial | rfl, by first | trivial | rfl⟩

/- BOXES -/

abbrev dB : Int × Int := Ty.dflt (.pair (.int .i64) (.int .i64))
def validB (b : List (Int × Int)) : Bool := b.all vld
def isBoxB (r : DRobot) (b : List (Int × Int)) : Bool := decide (((b.length : Nat) : Int) = ((r.1.length : Nat) : Int)) && validB b

theorem isBoxF (r : DRobot) (b : List (Int × Int)) (hr : r.1.length ≤ 1000000) : dom_kinematics_isBox r b = true ∧ kinematics_isBox r b = isBoxB r b := by
  unfold dom_kinematics_isBox kinematics_isBox t_kinematics_isBox isBoxB
  by_cases h0 : ¬ ((b.length : Nat) : Int) = ((r.1.length : Nat) : Int)
  · simp only [Tr.dom, Tr.ok, Tr.val, dF h0, cond_false, Bool.false_and]
    exact ⟨by first | trivial | rfl, by first | trivial | rfl⟩
  replace h0 := Decidable.not_not.1 h0
  have key : dom_kinematics_isBox_slices_IndexFunc___api_Interval_api_Interval__L0 ((b, ()), (((b.length : Nat) : Int), ()), (0, ()), ()) = true ∧
      val_kinematics_isBox_slices_IndexFunc___api_Interval_api_Interval__L0 ((b, ()), (((b.length : Nat) : Int), ()), (0, ()), ()) =
        firstS (fun i => if (!vld (b.getD i dB)) = true then some (.inr (((i : Int), ()), ())) else none) (.inl ()) 0 b.length := by
    unfold dom_kinematics_isBox_slices_IndexFunc___api_Interval_api_Interval__L0 val_kinematics_isBox_slices_IndexFunc___api_Interval_api_Interval__L0
    refine scan_end (loop_scan (step := step_kinematics_isBox_slices_IndexFunc___api_Interval_api_Interval__L0) (fun i => ((b, ()), (((b.length : Nat) : Int), ()), ((i : Int), ()), ())) _ _ b.length (fun i hi => ?_) ?_ b.length 0 rounds (by omega) (rounds_lt (by omega)))
    · have e : IntKind.wrap .i64 ((i : Int) + 1) = ((i + 1 : Nat) : Int) := wrap_succ (by omega)
      have hv : ∀ x, kinematics_isBox_1 x = !vld x := fun x => by
        unfold kinematics_isBox_1 t_kinematics_isBox_1
        simp only [Tr.val, valF]
      unfold step_kinematics_isBox_slices_IndexFunc___api_Interval_api_Interval__L0 t_kinematics_isBox_slices_IndexFunc___api_Interval_api_Interval__L0
      simp only [Tr.optA, dT (show (i : Int) < (b.length : Int) by omega), dT (show 0 ≤ (i : Int) by omega), e, Int.toNat_natCast, hv, Bool.and_self, cond_true, id]
      cases vld (b.getD i dB) <;> rfl
    · unfold step_kinematics_isBox_slices_IndexFunc___api_Interval_api_Interval__L0 t_kinematics_isBox_slices_IndexFunc___api_Interval_api_Interval__L0
      simp only [Tr.optA, dF (show ¬ ((b.length : Int) < (b.length : Int)) by omega), cond_false, id]
  have ha : validB b = !b.any fun v => !vld v := by unfold validB; rw [List.all_eq_not_any_not]
  simp only [Tr.dom, Tr.ok, Tr.val, dT h0, key.1, key.2, cond_true, Bool.true_and]
  rcases firstS_any (Y := Outs os_kinematics_isBox_slices_IndexFunc___api_Interval_api_Interval__L0) (fun v => !vld v) dB (fun i => .inr (((i : Int), ()), ())) (.inl ()) b with ⟨h1, h2⟩ | ⟨h1, j, h3, _, h2⟩
  · rw [ha, h1, h2]; exact ⟨rfl, rfl⟩
  · rw [ha, h1, h2]
    simp only [isL, getR, dT (show (0 : Int) ≤ (j : Int) by omega), cond_false]
    exact ⟨by first | trivial | rfl, by first | trivial | rfl⟩

theorem validR (b : List (Int × Int)) (hb : b.length ≤ 4000000000000000000) : dom_armplanref10_allValid b = true ∧ armplanref10_allValid b = validB b := by
  have key : dom_armplanref10_allValid_L0 ((b, ()), (0, ()), ()) = true ∧ val_armplanref10_allValid_L0 ((b, ()), (0, ()), ()) = bif b.all vld then .inl () else .inr ((false, ()), ()) := by
    unfold dom_armplanref10_allValid_L0 val_armplanref10_allValid_L0
    refine all_scan (step := step_armplanref10_allValid_L0) (fun i => ((b, ()), ((i : Int), ()), ())) vld dB _ _ b (by omega) (fun i hi => ?_) ?_
    · have e : IntKind.wrap .i64 ((i : Int) + 1) = ((i + 1 : Nat) : Int) := wrap_succ (by omega)
      unfold step_armplanref10_allValid_L0 t_armplanref10_allValid_L0
      simp only [Tr.optA, dT (show (i : Int) < (b.length : Int) by omega), dT (show 0 ≤ (i : Int) by omega), e, Int.toNat_natCast, valR, Bool.and_self, cond_true, id]
      cases vld (b.getD i dB) <;> rfl
    · unfold step_armplanref10_allValid_L0 t_armplanref10_allValid_L0
      simp only [Tr.optA, dF (show ¬ ((b.length : Int) < (b.length : Int)) by omega), cond_false, id]
  unfold dom_armplanref10_allValid armplanref10_allValid t_armplanref10_allValid validB
  simp only [Tr.dom, Tr.ok, Tr.val, key.1, key.2, cond_true]
  cases b.all vld <;> exact ⟨rfl, rfl⟩

theorem isBoxR (r : DRobot) (b : List (Int × Int)) (hr : r.1.length ≤ 1000000) : dom_armplanref10_IsBox r b = true ∧ armplanref10_IsBox r b = isBoxB r b := by
  unfold dom_armplanref10_IsBox armplanref10_IsBox t_armplanref10_IsBox isBoxB
  by_cases h0 : ¬ ((b.length : Nat) : Int) = ((r.1.length : Nat) : Int)
  · simp only [Tr.dom, Tr.ok, Tr.val, dF h0, cond_false, Bool.false_and]
    exact ⟨by first | trivial | rfl, by first | trivial | rfl⟩
  replace h0 := Decidable.not_not.1 h0
  obtain ⟨d, v⟩ := validR b (by omega)
  simp only [Tr.dom, Tr.ok, Tr.val, dT h0, d, v, cond_true, Bool.true_and]
  exact ⟨by first | trivial | rfl, by first | trivial | rfl⟩

/- LINKS -/

abbrev dJ : DJoint := Ty.dflt TJoint
abbrev dP : DPose := Ty.dflt TPose
def parentJ (j : DJoint) : Int := j.2.2.1

/-- The pose of link i, those of the links before being known. -/
def nextP (r : DRobot) (b : List (Int × Int)) (ps : List DPose) (i : Nat) : DPose :=
  bif decide (parentJ (r.1.getD i dJ) = -1) then jointP (r.1.getD i dJ) (b.getD i dB) else compP (ps.getD (parentJ (r.1.getD i dJ)).toNat dP) (jointP (r.1.getD i dJ) (b.getD i dB))
def linksN (r : DRobot) (b : List (Int × Int)) : Nat → List DPose
  | 0 => []
  | i + 1 => linksN r b i ++ [nextP r b (linksN r b i) i]
theorem linksN_len (r : DRobot) (b : List (Int × Int)) : ∀ n, (linksN r b n).length = n
  | 0 => rfl
  | n + 1 => by simp [linksN, linksN_len r b n]

/-- Parents come first. -/
def parentsOk (r : DRobot) : Prop := ∀ i, i < r.1.length → parentJ (r.1.getD i dJ) = -1 ∨ (0 ≤ parentJ (r.1.getD i dJ) ∧ parentJ (r.1.getD i dJ) < (i : Int))

theorem robot_ok0 {r : DRobot} (h : robotErr r = 0) : 1 ≤ r.1.length ∧ r.1.length ≤ 10 ∧ (∀ i, i < r.1.length → errJ r.1 i = 0) ∧ r.2.length ≤ 32 ∧ r.2.all (massB r.1.length) = true := by
  unfold robotErr at h
  by_cases h1 : ((r.1.length : Nat) : Int) < 1
  · rw [dT h1] at h; simp at h
  by_cases h2 : 10 < ((r.1.length : Nat) : Int)
  · rw [dF h1, dT h2] at h; simp at h
  rw [dF h1, dF h2] at h
  by_cases h3 : fe (errJ r.1) r.1.length = 0
  · rw [dT h3] at h
    by_cases h4 : 32 < ((r.2.length : Nat) : Int)
    · rw [dT h4] at h; simp at h
    rw [dF h4] at h
    cases h5 : r.2.all (massB r.1.length) with
    | false => rw [h5] at h; simp at h
    | true => exact ⟨by omega, by omega, fe_zero.1 h3, by omega, rfl⟩
  · rw [dF h3] at h
    exact absurd h h3

theorem parents_ok {r : DRobot} (h : robotErr r = 0) : parentsOk r := by
  obtain ⟨_, _, h3, _⟩ := robot_ok0 h
  intro i hi
  have := h3 i hi
  unfold errJ at this
  unfold parentJ
  generalize r.1.getD i dJ = j at *
  dsimp only at this
  by_cases p1 : j.2.2.1 < -1
  · exfalso
    rw [dT p1] at this
    revert this
    cases (!token_Name j.1) <;> cases (r.1.take i).any (nameIs j.1) <;> cases decide (j.2.1 < 0) <;> cases decide (6 < j.2.1) <;> (simp only [cond_true, cond_false]; decide)
  · by_cases p2 : (i : Int) ≤ j.2.2.1
    · exfalso
      rw [dF p1, dT p2] at this
      revert this
      cases (!token_Name j.1) <;> cases (r.1.take i).any (nameIs j.1) <;> cases decide (j.2.1 < 0) <;> cases decide (6 < j.2.1) <;> (simp only [cond_true, cond_false]; decide)
    · omega

theorem addF_ok {r : DRobot} (hp : parentsOk r) (b : List (Int × Int)) (hb : b.length = r.1.length) (hr : r.1.length ≤ 1000000) {i : Nat} (hi : i < r.1.length) :
    dom_kinematics_tree_add r b (linksN r b i) = true ∧ kinematics_tree_add r b (linksN r b i) = (r, b, linksN r b (i + 1)) := by
  unfold dom_kinematics_tree_add kinematics_tree_add t_kinematics_tree_add
  have hl := linksN_len r b i
  rw [show linksN r b (i + 1) = linksN r b i ++ [nextP r b (linksN r b i) i] from rfl]
  unfold nextP
  have hpi := hp i hi
  unfold parentJ at *
  obtain ⟨d1, v1⟩ := jointF (r.1.getD i dJ) (b.getD i dB)
  have hrm : room (i + 1) = true := room_ok (by omega)
  simp only [hl, Tr.dom, Tr.ok, Tr.val, dT (show 0 ≤ (i : Int) by omega), dT (show (i : Int) < (r.1.length : Int) by omega), dT (show (i : Int) < (b.length : Int) by omega), Int.toNat_natCast, d1, v1, compPF, List.length_singleton, hrm, Bool.and_self, cond_true]
  by_cases c : (r.1.getD i dJ).2.2.1 = -1
  · simp only [dT c, Bool.not_true, cond_false, cond_true]
    exact ⟨by first | trivial | rfl, by first | trivial | rfl⟩
  · obtain h1 := hpi.resolve_left c
    simp only [dF c, Bool.not_false, cond_true, cond_false, dT h1.1, dT h1.2, Bool.and_self]
    exact ⟨by first | trivial | rfl, by first | trivial | rfl⟩

/-- A loop that counts to N. -/
theorem loop_to {X Y : Type} {step : X → Option (X ⊕ Y)} [Inhabited Y] (f : Nat → X) (e : Y) (N : Nat) (hN : N < 9223372036854775807)
    (hmore : ∀ i, i < N → step (f i) = some (.inl (f (i + 1)))) (hend : step (f N) = some (.inr e)) :
    (loopN step rounds (f 0)).isSome = true ∧ (loopN step rounds (f 0)).getD default = e := by
  have h := scan_end (loop_scan f (fun _ => none) e N (fun i hi => hmore i hi) hend N 0 rounds (by omega) (rounds_lt hN))
  refine ⟨h.1, h.2.trans (firstS_none fun _ _ _ => rfl)⟩

def linksL (r : DRobot) (b : List (Int × Int)) : List DPose := bif !decide (robotErr r = 0) then [] else bif !isBoxB r b then [] else linksN r b r.1.length

theorem linksF (r : DRobot) (b : List (Int × Int)) : dom_kinematics_Links r b = true ∧ kinematics_Links r b = linksL r b := by
  unfold dom_kinematics_Links kinematics_Links t_kinematics_Links linksL
  obtain ⟨d1, v1⟩ := robotF r
  by_cases c0 : ¬ robotErr r = 0
  · simp only [Tr.dom, Tr.ok, Tr.val, d1, v1, dF c0, cond_true, Bool.not_false]
    exact ⟨by first | trivial | rfl, by first | trivial | rfl⟩
  replace c0 := Decidable.not_not.1 c0
  obtain ⟨r1, r2, _⟩ := robot_ok0 c0
  obtain ⟨d2, v2⟩ := isBoxF r b (by omega)
  cases c1 : isBoxB r b with
  | false =>
    simp only [Tr.dom, Tr.ok, Tr.val, d1, v1, dT c0, d2, v2, c1, cond_true, cond_false, Bool.not_false, Bool.not_true]
    exact ⟨by first | trivial | rfl, by first | trivial | rfl⟩
  | true =>
    have hb : b.length = r.1.length := by
      unfold isBoxB at c1
      rw [Bool.and_eq_true, decide_eq_true_eq] at c1
      omega
    have key : dom_kinematics_Links_L0 ((r, b, [], ()), (((r.1.length : Nat) : Int), ()), (0, ()), ()) = true ∧ val_kinematics_Links_L0 ((r, b, [], ()), (((r.1.length : Nat) : Int), ()), (0, ()), ()) = ((r, b, linksN r b r.1.length, ()), ()) := by
      unfold dom_kinematics_Links_L0 val_kinematics_Links_L0
      refine loop_to (step := step_kinematics_Links_L0) (fun i => ((r, b, linksN r b i, ()), (((r.1.length : Nat) : Int), ()), ((i : Int), ()), ())) _ r.1.length (by omega) (fun i hi => ?_) ?_
      · have e : IntKind.wrap .i64 ((i : Int) + 1) = ((i + 1 : Nat) : Int) := wrap_succ (by omega)
        obtain ⟨d3, v3⟩ := addF_ok (parents_ok c0) b hb (by omega) hi
        unfold step_kinematics_Links_L0 t_kinematics_Links_L0
        simp only [Tr.optA, dT (show (i : Int) < (r.1.length : Int) by omega), d3, v3, e, cond_true, id]
      · unfold step_kinematics_Links_L0 t_kinematics_Links_L0
        simp only [Tr.optA, dF (show ¬ ((r.1.length : Int) < (r.1.length : Int)) by omega), cond_false, id]
    simp only [Tr.dom, Tr.ok, Tr.val, d1, v1, dT c0, d2, v2, c1, key.1, key.2, cond_true, cond_false, Bool.not_false, Bool.not_true]
    exact ⟨by first | trivial | rfl, by first | trivial | rfl⟩

theorem linksR (r : DRobot) (b : List (Int × Int)) : dom_armplanref10_Links r b = true ∧ armplanref10_Links r b = linksL r b := by
  unfold dom_armplanref10_Links armplanref10_Links t_armplanref10_Links linksL
  obtain ⟨d1, v1⟩ := robotR r
  by_cases c0 : ¬ robotErr r = 0
  · simp only [Tr.dom, Tr.ok, Tr.val, d1, v1, dF c0, cond_true, Bool.not_false]
    exact ⟨by first | trivial | rfl, by first | trivial | rfl⟩
  replace c0 := Decidable.not_not.1 c0
  obtain ⟨r1, r2, _⟩ := robot_ok0 c0
  obtain ⟨d2, v2⟩ := isBoxR r b (by omega)
  cases c1 : isBoxB r b with
  | false =>
    simp only [Tr.dom, Tr.ok, Tr.val, d1, v1, dT c0, d2, v2, c1, cond_true, cond_false, Bool.not_false, Bool.not_true]
    exact ⟨by first | trivial | rfl, by first | trivial | rfl⟩
  | true =>
    have hb : b.length = r.1.length := by
      unfold isBoxB at c1
      rw [Bool.and_eq_true, decide_eq_true_eq] at c1
      omega
    have key : dom_armplanref10_Links_L0 ((r, ()), (b, ()), ([], ()), (0, ()), ()) = true ∧ val_armplanref10_Links_L0 ((r, ()), (b, ()), ([], ()), (0, ()), ()) = ((r, ()), (linksN r b b.length, ()), ()) := by
      unfold dom_armplanref10_Links_L0 val_armplanref10_Links_L0
      refine loop_to (step := step_armplanref10_Links_L0) (fun i => ((r, ()), (b, ()), (linksN r b i, ()), ((i : Int), ()), ())) _ b.length (by omega) (fun i hi => ?_) ?_
      · have e : IntKind.wrap .i64 ((i : Int) + 1) = ((i + 1 : Nat) : Int) := wrap_succ (by omega)
        have hl := linksN_len r b i
        obtain ⟨d3, v3⟩ := jointR (r.1.getD i dJ) (b.getD i dB)
        have hrm : room (i + 1) = true := room_ok (by omega)
        have hpi := parents_ok c0 i (by omega)
        rw [show linksN r b (i + 1) = linksN r b i ++ [nextP r b (linksN r b i) i] from rfl]
        unfold step_armplanref10_Links_L0 t_armplanref10_Links_L0 nextP
        unfold parentJ at *
        simp only [hl, Tr.optA, dT (show 0 ≤ (i : Int) by omega), dT (show (i : Int) < (r.1.length : Int) by omega), dT (show (i : Int) < (b.length : Int) by omega), Int.toNat_natCast, d3, v3, compPR, List.length_singleton, hrm, e, Bool.and_self, cond_true, id]
        by_cases c : (r.1.getD i dJ).2.2.1 = -1
        · simp only [dT c, Bool.not_true, cond_false, cond_true]
        · obtain h1 := hpi.resolve_left c
          simp only [dF c, Bool.not_false, cond_true, cond_false, dT h1.1, dT h1.2, Bool.and_self]
      · unfold step_armplanref10_Links_L0 t_armplanref10_Links_L0
        simp only [Tr.optA, dF (show ¬ ((b.length : Int) < (b.length : Int)) by omega), cond_false, id]
    simp only [Tr.dom, Tr.ok, Tr.val, d1, v1, dT c0, d2, v2, c1, key.1, key.2, hb, cond_true, cond_false, Bool.not_false, Bool.not_true]
    exact ⟨by first | trivial | rfl, by first | trivial | rfl⟩

end Go.RX

/-
  What is made is valid: robots, scenes, boxes; joints.
-/
namespace Go.RX
open Go

theorem letter_name {i : Nat} (h : i < 10) : token_Name (armplanmake_letter (i : Int)) = true ∧ ∀ k : Nat, k < i → ((armplanmake_letter (k : Int)).toList == (armplanmake_letter (i : Int)).toList) = false := by
  have : ∀ i : Nat, i < 10 → token_Name (armplanmake_letter (i : Int)) = true ∧ ∀ k : Nat, k < i → ((armplanmake_letter (k : Int)).toList == (armplanmake_letter (i : Int)).toList) = false := by decide +kernel
  exact this i h

theorem getD_get {α : Type} {l : List α} {d : α} {i : Nat} (h : i < l.length) : l[i]? = some (l.getD i d) := by
  rw [List.getD_eq_getElem?_getD, List.getElem?_eq_getElem h]; rfl

theorem turnB {k : Int} (h1 : 0 ≤ k) (h2 : k ≤ 5) : k = 0 ∨ 524288 ≤ robot_bound k := by
  have : k = 0 ∨ k = 1 ∨ k = 2 ∨ k = 3 ∨ k = 4 ∨ k = 5 := by omega
  rcases this with rfl | rfl | rfl | rfl | rfl | rfl
  · exact .inl rfl
  all_goals exact .inr (by decide)

theorem good_err {js : List DJoint} (h : goodL js) (hl : js.length ≤ 10) {i : Nat} (hi : i < js.length) : errJ js i = 0 := by
  have hj := h i (js.getD i dJ) (getD_get hi)
  have hfj : fixedJ (js.getD i dJ) := hj.2
  replace hj := hj.1
  unfold errJ
  have hdup : (js.take i).any (nameIs (js.getD i dJ).1) = false := by
    rw [List.any_eq_false]
    intro x hx
    obtain ⟨k, hk, rfl⟩ := List.getElem_of_mem hx
    rw [List.length_take] at hk
    have hk1 := h k (js.getD k dJ) (getD_get (by omega))
    have e : (js.take i)[k]'(by rw [List.length_take]; omega) = js.getD k dJ := by
      rw [List.getElem_take, List.getD_eq_getElem?_getD, List.getElem?_eq_getElem (by omega)]; rfl
    rw [e]
    unfold nameIs
    rw [hk1.1.1, hj.1]
    rw [(letter_name (by omega : i < 10)).2 k (by omega)]
    decide
  obtain ⟨n1, ⟨n2, n3⟩, n4, n5, ⟨n6, n7, n8, n9⟩, ⟨n10, n11⟩, n12, ⟨n13, n14⟩, n15⟩ := hj
  have hname : token_Name (js.getD i dJ).1 = true := by rw [n1]; exact (letter_name (by omega)).1
  obtain ⟨⟨o1, o2⟩, ⟨o3, o4⟩, ⟨o5, o6⟩⟩ := n5
  dsimp only
  rw [hdup, hname]
  generalize js.getD i dJ = j at *
  have hb := turnB n2 (by omega)
  have hbl := bound_le j.2.1
  have hlim : -robot_bound j.2.1 ≤ j.2.2.2.2.1 ∧ j.2.2.2.2.2.1 ≤ robot_bound j.2.1 := by
    rcases hb with h0 | h0
    · obtain ⟨f1, f2⟩ := hfj h0
      rw [f1, f2]; omega
    · omega
  have hnear : nearV 4194304 j.2.2.2.1 = true := by
    unfold nearV
    rw [dT (show (-4194304 : Int) ≤ j.2.2.2.1.1 by omega), dT (show j.2.2.2.1.1 ≤ (4194304 : Int) by omega), dT (show (-4194304 : Int) ≤ j.2.2.2.1.2.1 by omega), dT (show j.2.2.2.1.2.1 ≤ (4194304 : Int) by omega),
      dT (show (-4194304 : Int) ≤ j.2.2.2.1.2.2 by omega), dT (show j.2.2.2.1.2.2 ≤ (4194304 : Int) by omega)]; rfl
  have hbt : ∀ {a x b : Int}, a ≤ x → x ≤ b → btw a x b = true := fun h1 h2 => by unfold btw; rw [dT h1, dT h2]; rfl
  rw [dF (show ¬ j.2.1 < 0 by omega), dF (show ¬ 6 < j.2.1 by omega), dF (show ¬ j.2.2.1 < -1 by omega), dF (show ¬ (i : Int) ≤ j.2.2.1 by omega), hnear, dF (show ¬ j.2.2.2.2.2.1 < j.2.2.2.2.1 by omega),
    dF (show ¬ j.2.2.2.2.1 < -robot_bound j.2.1 by omega), dF (show ¬ robot_bound j.2.1 < j.2.2.2.2.2.1 by omega), hbt (x := j.2.2.2.2.2.2.1) (by omega) (by omega), hbt (x := j.2.2.2.2.2.2.2.1) (by omega) (by omega),
    hbt (x := j.2.2.2.2.2.2.2.2.1) (by omega) (by omega), hbt (x := j.2.2.2.2.2.2.2.2.2) (by omega) (by omega)]
  rfl

theorem good_robot {r : DRobot} (h : goodR r) : robotErr r = 0 := by
  obtain ⟨h1, ⟨h2, h3⟩, h4, h5⟩ := h
  unfold robotErr
  have hm : r.2.all (massB r.1.length) = true := by
    rw [List.all_eq_true]
    intro x hx
    obtain ⟨⟨m1, m2⟩, ⟨m3, m4⟩, ⟨⟨p1, p2⟩, ⟨p3, p4⟩, ⟨p5, p6⟩⟩⟩ := h4 x hx
    unfold massB btw nearV
    rw [dF (show ¬ x.1 < 0 by omega), dF (show ¬ (r.1.length : Int) ≤ x.1 by omega), dT m3, dT (show x.2.1 ≤ 65536 by omega), dT (show (-4194304 : Int) ≤ x.2.2.1 by omega), dT (show x.2.2.1 ≤ (4194304 : Int) by omega),
      dT (show (-4194304 : Int) ≤ x.2.2.2.1 by omega), dT (show x.2.2.2.1 ≤ (4194304 : Int) by omega), dT (show (-4194304 : Int) ≤ x.2.2.2.2 by omega), dT (show x.2.2.2.2 ≤ (4194304 : Int) by omega)]
    rfl
  rw [dF (show ¬ ((r.1.length : Nat) : Int) < 1 by omega), dF (show ¬ 10 < ((r.1.length : Nat) : Int) by omega), fe_zero.2 fun i hi => good_err h1 (by omega) hi, dF (show ¬ 32 < ((r.2.length : Nat) : Int) by omega), hm]
  rfl

end Go.RX

/-
  Points: program and reference are one; the law of links and points.
-/
namespace Go.RX
open Go

def shapeB (x : DShape) : Bool := btw 1 x.2.1 1048576 && (decide (1 ≤ ((x.2.2.length : Nat) : Int)) && decide (((x.2.2.length : Nat) : Int) ≤ 8)) && ptsB x.2.2

theorem shlong_eq (v : DVec) : shape_long v = !nearV 4194304 v := by
  unfold shape_long t_shape_long shape_long_1 t_shape_long_1 nearV
  simp only [Tr.val, not_lt_dec]
  cases decide (v.1 < -4194304) <;> cases decide (4194304 < v.1) <;> cases decide (v.2.1 < -4194304) <;> cases decide (4194304 < v.2.1) <;> cases decide (v.2.2 < -4194304) <;> cases decide (4194304 < v.2.2) <;> rfl

theorem pts_scanS (l : List DVec) (hl : l.length ≤ 1000000) :
    dom_shape_Check_slices_IndexFunc___api_Vec_api_Vec__L0 ((l, ()), (((l.length : Nat) : Int), ()), (0, ()), ()) = true ∧
    ((ptsB l = true ∧ val_shape_Check_slices_IndexFunc___api_Vec_api_Vec__L0 ((l, ()), (((l.length : Nat) : Int), ()), (0, ()), ()) = .inl ()) ∨
     (ptsB l = false ∧ ∃ j : Nat, val_shape_Check_slices_IndexFunc___api_Vec_api_Vec__L0 ((l, ()), (((l.length : Nat) : Int), ()), (0, ()), ()) = .inr (((j : Int), ()), ()))) := by
  have key : dom_shape_Check_slices_IndexFunc___api_Vec_api_Vec__L0 ((l, ()), (((l.length : Nat) : Int), ()), (0, ()), ()) = true ∧
      val_shape_Check_slices_IndexFunc___api_Vec_api_Vec__L0 ((l, ()), (((l.length : Nat) : Int), ()), (0, ()), ()) =
        firstS (fun i => if (!nearV 4194304 (l.getD i (Ty.dflt TVec))) = true then some (.inr (((i : Int), ()), ())) else none) (.inl ()) 0 l.length := by
    unfold dom_shape_Check_slices_IndexFunc___api_Vec_api_Vec__L0 val_shape_Check_slices_IndexFunc___api_Vec_api_Vec__L0
    refine scan_end (loop_scan (step := step_shape_Check_slices_IndexFunc___api_Vec_api_Vec__L0) (fun i => ((l, ()), (((l.length : Nat) : Int), ()), ((i : Int), ()), ())) _ _ l.length (fun i hi => ?_) ?_ l.length 0 rounds (by omega) (rounds_lt (by omega)))
    · have e : IntKind.wrap .i64 ((i : Int) + 1) = ((i + 1 : Nat) : Int) := wrap_succ (by omega)
      unfold step_shape_Check_slices_IndexFunc___api_Vec_api_Vec__L0 t_shape_Check_slices_IndexFunc___api_Vec_api_Vec__L0
      simp only [Tr.optA, dT (show (i : Int) < (l.length : Int) by omega), dT (show 0 ≤ (i : Int) by omega), e, Int.toNat_natCast, shlong_eq, Bool.and_self, cond_true, id]
      cases (nearV 4194304 (l.getD i (Ty.dflt TVec))) <;> rfl
    · unfold step_shape_Check_slices_IndexFunc___api_Vec_api_Vec__L0 t_shape_Check_slices_IndexFunc___api_Vec_api_Vec__L0
      simp only [Tr.optA, dF (show ¬ ((l.length : Int) < (l.length : Int)) by omega), cond_false, id]
  refine ⟨key.1, ?_⟩
  rw [key.2]
  have ha : ptsB l = !l.any fun v => !nearV 4194304 v := by unfold ptsB; rw [List.all_eq_not_any_not]
  rcases firstS_any (Y := Outs os_shape_Check_slices_IndexFunc___api_Vec_api_Vec__L0) (fun v => !nearV 4194304 v) (Ty.dflt TVec) (fun i => .inr (((i : Int), ()), ())) (.inl ()) l with ⟨h1, h2⟩ | ⟨h1, j, h3, _, h2⟩
  · exact .inl ⟨by rw [ha, h1]; rfl, h2⟩
  · exact .inr ⟨by rw [ha, h1]; rfl, j, h2⟩

theorem shapeF (x : DShape) : dom_shape_Check x = true ∧ shape_Check x = shapeB x := by
  unfold dom_shape_Check shape_Check t_shape_Check shapeB btw
  by_cases c1 : ¬ 1 ≤ x.2.1
  · simp only [Tr.dom, Tr.ok, Tr.val, dF c1, cond_false, Bool.false_and]
    exact ⟨by first | trivial | rfl, by first | trivial | rfl⟩
  replace c1 := Decidable.not_not.1 c1
  by_cases c2 : ¬ x.2.1 ≤ 1048576
  · simp only [Tr.dom, Tr.ok, Tr.val, dT c1, dF c2, cond_true, cond_false, Bool.and_false, Bool.false_and]
    exact ⟨by first | trivial | rfl, by first | trivial | rfl⟩
  replace c2 := Decidable.not_not.1 c2
  by_cases c3 : ¬ 1 ≤ ((x.2.2.length : Nat) : Int)
  · simp only [Tr.dom, Tr.ok, Tr.val, dT c1, dT c2, dF c3, cond_true, cond_false, Bool.and_false, Bool.false_and]
    exact ⟨by first | trivial | rfl, by first | trivial | rfl⟩
  replace c3 := Decidable.not_not.1 c3
  by_cases c4 : ¬ ((x.2.2.length : Nat) : Int) ≤ 8
  · simp only [Tr.dom, Tr.ok, Tr.val, dT c1, dT c2, dT c3, dF c4, cond_true, cond_false, Bool.and_false, Bool.false_and]
    exact ⟨by first | trivial | rfl, by first | trivial | rfl⟩
  replace c4 := Decidable.not_not.1 c4
  obtain ⟨p1, p2⟩ := pts_scanS x.2.2 (by omega)
  simp only [Tr.dom, Tr.ok, Tr.val, dT c1, dT c2, dT c3, dT c4, p1, cond_true, Bool.and_self, Bool.true_and]
  rcases p2 with ⟨p3, p4⟩ | ⟨p3, j, p4⟩
  · rw [p3, p4]; exact ⟨rfl, rfl⟩
  · rw [p3, p4]
    simp only [isL, getR, dT (show (0 : Int) ≤ (j : Int) by omega), cond_true, cond_false]
    exact ⟨by first | trivial | rfl, by first | trivial | rfl⟩

theorem shapeR (x : DShape) : dom_armplanref10_CheckShape x = true ∧ armplanref10_CheckShape x = shapeB x := by
  unfold dom_armplanref10_CheckShape armplanref10_CheckShape t_armplanref10_CheckShape shapeB btw
  simp only [not_lt_dec]
  by_cases c1 : x.2.1 < 1
  · simp only [Tr.dom, Tr.ok, Tr.val, dT c1, cond_true, Bool.not_true, Bool.false_and]
    exact ⟨by first | trivial | rfl, by first | trivial | rfl⟩
  by_cases c2 : 1048576 < x.2.1
  · simp only [Tr.dom, Tr.ok, Tr.val, dF c1, dT c2, cond_true, cond_false, Bool.not_true, Bool.and_false, Bool.false_and]
    exact ⟨by first | trivial | rfl, by first | trivial | rfl⟩
  by_cases c3 : ((x.2.2.length : Nat) : Int) < 1
  · simp only [Tr.dom, Tr.ok, Tr.val, dF c1, dF c2, dT c3, cond_true, cond_false, Bool.not_true, Bool.and_false, Bool.false_and]
    exact ⟨by first | trivial | rfl, by first | trivial | rfl⟩
  by_cases c4 : 8 < ((x.2.2.length : Nat) : Int)
  · simp only [Tr.dom, Tr.ok, Tr.val, dF c1, dF c2, dF c3, dT c4, cond_true, cond_false, Bool.not_true, Bool.and_false, Bool.false_and]
    exact ⟨by first | trivial | rfl, by first | trivial | rfl⟩
  have key : dom_armplanref10_CheckShape_L0 ((x, ()), (0, ()), ()) = true ∧ val_armplanref10_CheckShape_L0 ((x, ()), (0, ()), ()) = bif ptsB x.2.2 then .inl ((x, ()), ()) else .inr ((x, ()), (false, ()), ()) := by
    unfold dom_armplanref10_CheckShape_L0 val_armplanref10_CheckShape_L0 ptsB
    refine all_scan (step := step_armplanref10_CheckShape_L0) (fun i => ((x, ()), ((i : Int), ()), ())) (nearV 4194304) (Ty.dflt TVec) _ _ x.2.2 (by omega) (fun i hi => ?_) ?_
    · have e : IntKind.wrap .i64 ((i : Int) + 1) = ((i + 1 : Nat) : Int) := wrap_succ (by omega)
      unfold step_armplanref10_CheckShape_L0 t_armplanref10_CheckShape_L0
      simp only [Tr.optA, dT (show (i : Int) < (x.2.2.length : Int) by omega), dT (show 0 ≤ (i : Int) by omega), e, Int.toNat_natCast, near_eq _ 4194304 (by decide) (by decide), Bool.and_self, cond_true, id]
      cases (nearV 4194304 (x.2.2.getD i (Ty.dflt TVec))) <;> rfl
    · unfold step_armplanref10_CheckShape_L0 t_armplanref10_CheckShape_L0
      simp only [Tr.optA, dF (show ¬ ((x.2.2.length : Int) < (x.2.2.length : Int)) by omega), cond_false, id]
  simp only [Tr.dom, Tr.ok, Tr.val, dF c1, dF c2, dF c3, dF c4, key.1, key.2, cond_true, cond_false, Bool.not_false, Bool.and_self, Bool.true_and]
  cases ptsB x.2.2 <;> exact ⟨by first | trivial | rfl, by first | trivial | rfl⟩

def placeL (x : DShape) (p : DPose) : List DIVec := bif !shapeB x then [] else x.2.2.map fun v => apP p (pointV v)

theorem take_succ {α : Type} (l : List α) (d : α) {i : Nat} (h : i < l.length) : l.take (i + 1) = l.take i ++ [l.getD i d] := by
  rw [List.take_add_one, List.getElem?_eq_getElem h, List.getD_eq_getElem?_getD, List.getElem?_eq_getElem h]; rfl
theorem shapeB_len {x : DShape} (h : shapeB x = true) : 1 ≤ x.2.2.length ∧ x.2.2.length ≤ 8 := by
  unfold shapeB at h
  simp only [Bool.and_eq_true, decide_eq_true_eq] at h
  omega

theorem placeF (x : DShape) (p : DPose) : dom_shape_Place x p = true ∧ shape_Place x p = placeL x p := by
  unfold dom_shape_Place shape_Place t_shape_Place placeL
  obtain ⟨d1, v1⟩ := shapeF x
  cases c : shapeB x with
  | false =>
    simp only [Tr.dom, Tr.ok, Tr.val, d1, v1, c, Bool.not_false, cond_true]
    exact ⟨by first | trivial | rfl, by first | trivial | rfl⟩
  | true =>
    have hl := shapeB_len c
    have key : dom_shape_Place_L0 ((p, ()), ([], ()), (x.2.2, ()), (((x.2.2.length : Nat) : Int), ()), (0, ()), ()) = true ∧
        val_shape_Place_L0 ((p, ()), ([], ()), (x.2.2, ()), (((x.2.2.length : Nat) : Int), ()), (0, ()), ()) = ((p, ()), ((x.2.2.take x.2.2.length).map fun v => apP p (pointV v), ()), ()) := by
      unfold dom_shape_Place_L0 val_shape_Place_L0
      refine loop_to (step := step_shape_Place_L0) (fun i => ((p, ()), ((x.2.2.take i).map fun v => apP p (pointV v), ()), (x.2.2, ()), (((x.2.2.length : Nat) : Int), ()), ((i : Int), ()), ())) _ x.2.2.length (by omega) (fun i hi => ?_) ?_
      · have e : IntKind.wrap .i64 ((i : Int) + 1) = ((i + 1 : Nat) : Int) := wrap_succ (by omega)
        have hm : ((x.2.2.take i).map fun v => apP p (pointV v)).length = i := by rw [List.length_map, List.length_take]; omega
        have hrm : room (i + 1) = true := room_ok (by omega)
        rw [take_succ x.2.2 (Ty.dflt TVec) hi]
        unfold step_shape_Place_L0 t_shape_Place_L0
        simp only [Tr.optA, dT (show (i : Int) < (x.2.2.length : Int) by omega), dT (show 0 ≤ (i : Int) by omega), e, Int.toNat_natCast, pointF, apPF, hm, List.length_singleton, hrm, List.map_append, List.map_cons, List.map_nil, Bool.and_self, cond_true, id]
      · unfold step_shape_Place_L0 t_shape_Place_L0
        simp only [Tr.optA, dF (show ¬ ((x.2.2.length : Int) < (x.2.2.length : Int)) by omega), cond_false, id]
    simp only [Tr.dom, Tr.ok, Tr.val, d1, v1, c, key.1, key.2, Bool.not_true, cond_true, cond_false, List.take_length]
    exact ⟨by first | trivial | rfl, by first | trivial | rfl⟩

theorem placeR (x : DShape) (p : DPose) : dom_armplanref10_Place x p = true ∧ armplanref10_Place x p = placeL x p := by
  unfold dom_armplanref10_Place armplanref10_Place t_armplanref10_Place placeL
  obtain ⟨d1, v1⟩ := shapeR x
  cases c : shapeB x with
  | false =>
    simp only [Tr.dom, Tr.ok, Tr.val, d1, v1, c, Bool.not_false, cond_true]
    exact ⟨by first | trivial | rfl, by first | trivial | rfl⟩
  | true =>
    have hl := shapeB_len c
    have key : dom_armplanref10_Place_L0 ((x, ()), (p, ()), ([], ()), (0, ()), ()) = true ∧
        val_armplanref10_Place_L0 ((x, ()), (p, ()), ([], ()), (0, ()), ()) = ((x, ()), (p, ()), ((x.2.2.take x.2.2.length).map fun v => apP p (pointV v), ()), ()) := by
      unfold dom_armplanref10_Place_L0 val_armplanref10_Place_L0
      refine loop_to (step := step_armplanref10_Place_L0) (fun i => ((x, ()), (p, ()), ((x.2.2.take i).map fun v => apP p (pointV v), ()), ((i : Int), ()), ())) _ x.2.2.length (by omega) (fun i hi => ?_) ?_
      · have e : IntKind.wrap .i64 ((i : Int) + 1) = ((i + 1 : Nat) : Int) := wrap_succ (by omega)
        have hm : ((x.2.2.take i).map fun v => apP p (pointV v)).length = i := by rw [List.length_map, List.length_take]; omega
        have hrm : room (i + 1) = true := room_ok (by omega)
        rw [take_succ x.2.2 (Ty.dflt TVec) hi]
        unfold step_armplanref10_Place_L0 t_armplanref10_Place_L0
        simp only [Tr.optA, dT (show (i : Int) < (x.2.2.length : Int) by omega), dT (show 0 ≤ (i : Int) by omega), e, Int.toNat_natCast, pointR, apPR, hm, List.length_singleton, hrm, List.map_append, List.map_cons, List.map_nil, Bool.and_self, cond_true, id]
      · unfold step_armplanref10_Place_L0 t_armplanref10_Place_L0
        simp only [Tr.optA, dF (show ¬ ((x.2.2.length : Int) < (x.2.2.length : Int)) by omega), cond_false, id]
    simp only [Tr.dom, Tr.ok, Tr.val, d1, v1, c, key.1, key.2, Bool.not_true, cond_true, cond_false, List.take_length]
    exact ⟨by first | trivial | rfl, by first | trivial | rfl⟩

abbrev dS : DShape := Ty.dflt TShape
/-- The points of a shape, given the links' poses. -/
def pointsOf (ps : List DPose) (x : DShape) : List DIVec := placeL x (bif decide (x.1 = -1) then (unitM, zeroV) else ps.getD x.1.toNat dP)
def pointsL (s : DScene) (b : List (Int × Int)) : List (List DIVec) := bif !decide (sceneErr s = 0) then [] else bif !isBoxB s.1 b then [] else s.2.1.map (pointsOf (linksN s.1 b s.1.1.length))

theorem scene_ok0 {s : DScene} (h : sceneErr s = 0) : robotErr s.1 = 0 ∧ s.2.1.length ≤ 24 ∧ (∀ i, i < s.2.1.length → shapeErr s.1.1.length (s.2.1.getD i dS) = 0) ∧ s.2.2.length ≤ 64 ∧ s.2.2.all (skipB s.1.1.length) = true := by
  unfold sceneErr at h
  by_cases h1 : robotErr s.1 = 0
  · rw [dT h1] at h
    by_cases h2 : 24 < ((s.2.1.length : Nat) : Int)
    · rw [dT h2] at h; simp at h
    rw [dF h2] at h
    by_cases h3 : fe (fun i => shapeErr s.1.1.length (s.2.1.getD i dS)) s.2.1.length = 0
    · rw [dT h3] at h
      by_cases h4 : 64 < ((s.2.2.length : Nat) : Int)
      · rw [dT h4] at h; simp at h
      rw [dF h4] at h
      cases h5 : s.2.2.all (skipB s.1.1.length) with
      | false => rw [h5] at h; simp at h
      | true => exact ⟨h1, by omega, fe_zero.1 h3, by omega, rfl⟩
    · rw [dF h3] at h
      exact absurd h h3
  · rw [dF h1] at h
    exact absurd h h1

theorem shape_link {n : Int} {x : DShape} (h : shapeErr n x = 0) : linkB n x.1 = true ∧ shapeB x = true := by
  unfold shapeErr at h
  unfold shapeB
  simp only [not_lt_dec 1 ((x.2.2.length : Nat) : Int), not_lt_dec ((x.2.2.length : Nat) : Int) 8]
  revert h
  cases linkB n x.1 <;> cases btw 1 x.2.1 1048576 <;> cases decide (((x.2.2.length : Nat) : Int) < 1) <;> cases decide (8 < ((x.2.2.length : Nat) : Int)) <;> cases ptsB x.2.2 <;> simp only [cond_true, cond_false, Bool.not_true, Bool.not_false] <;> decide

theorem pointsF (s : DScene) (b : List (Int × Int)) : dom_kinematics_Points s b = true ∧ kinematics_Points s b = pointsL s b := by
  unfold dom_kinematics_Points kinematics_Points t_kinematics_Points pointsL
  obtain ⟨d1, v1⟩ := sceneF s
  by_cases c0 : ¬ sceneErr s = 0
  · simp only [Tr.dom, Tr.ok, Tr.val, d1, v1, dF c0, cond_true, Bool.not_false]
    exact ⟨by first | trivial | rfl, by first | trivial | rfl⟩
  replace c0 := Decidable.not_not.1 c0
  obtain ⟨r0, r1, r2, _⟩ := scene_ok0 c0
  obtain ⟨q1, q2, _⟩ := robot_ok0 r0
  obtain ⟨d2, v2⟩ := isBoxF s.1 b (by omega)
  obtain ⟨d3, v3⟩ := linksF s.1 b
  cases c1 : isBoxB s.1 b with
  | false =>
    simp only [Tr.dom, Tr.ok, Tr.val, d1, v1, dT c0, d2, v2, c1, cond_true, cond_false, Bool.not_false, Bool.not_true]
    exact ⟨by first | trivial | rfl, by first | trivial | rfl⟩
  | true =>
    have hL : linksL s.1 b = linksN s.1 b s.1.1.length := by unfold linksL; rw [dT r0, c1]; rfl
    have hlen := linksN_len s.1 b s.1.1.length
    rw [hL] at v3
    generalize linksN s.1 b s.1.1.length = ps at *
    have key : dom_kinematics_Points_L0 ((ps, ()), ([], ()), (s.2.1, ()), (((s.2.1.length : Nat) : Int), ()), (0, ()), ()) = true ∧
        val_kinematics_Points_L0 ((ps, ()), ([], ()), (s.2.1, ()), (((s.2.1.length : Nat) : Int), ()), (0, ()), ()) = (((s.2.1.take s.2.1.length).map (pointsOf ps), ()), ()) := by
      unfold dom_kinematics_Points_L0 val_kinematics_Points_L0
      refine loop_to (step := step_kinematics_Points_L0) (fun i => ((ps, ()), ((s.2.1.take i).map (pointsOf ps), ()), (s.2.1, ()), (((s.2.1.length : Nat) : Int), ()), ((i : Int), ()), ())) _ s.2.1.length (by omega) (fun i hi => ?_) ?_
      · have e : IntKind.wrap .i64 ((i : Int) + 1) = ((i + 1 : Nat) : Int) := wrap_succ (by omega)
        have hm : ((s.2.1.take i).map (pointsOf ps)).length = i := by rw [List.length_map, List.length_take]; omega
        have hrm : room (i + 1) = true := room_ok (by omega)
        obtain ⟨k1, k2⟩ := shape_link (r2 i hi)
        rw [take_succ s.2.1 dS hi]
        unfold step_kinematics_Points_L0 t_kinematics_Points_L0
        simp only [Tr.optA, dT (show (i : Int) < (s.2.1.length : Int) by omega), dT (show 0 ≤ (i : Int) by omega), e, Int.toNat_natCast, restF, (placeF _ _).1, (placeF _ _).2, hm, List.length_singleton, hrm, List.map_append, List.map_cons, List.map_nil, Bool.and_self, cond_true, id]
        unfold pointsOf
        by_cases c : (s.2.1.getD i dS).1 = -1
        · simp only [dT c, Bool.not_true, cond_false, cond_true]
        · unfold linkB at k1
          rw [Bool.and_eq_true, decide_eq_true_eq, decide_eq_true_eq] at k1
          simp only [dF c, Bool.not_false, cond_false, cond_true, dT (show 0 ≤ (s.2.1.getD i dS).1 by omega), dT (show (s.2.1.getD i dS).1 < (ps.length : Int) by omega), Bool.and_self]
      · unfold step_kinematics_Points_L0 t_kinematics_Points_L0
        simp only [Tr.optA, dF (show ¬ ((s.2.1.length : Int) < (s.2.1.length : Int)) by omega), cond_false, id]
    simp only [Tr.dom, Tr.ok, Tr.val, d1, v1, dT c0, d2, v2, c1, d3, v3, key.1, key.2, cond_true, cond_false, Bool.not_true, List.take_length]
    exact ⟨by first | trivial | rfl, by first | trivial | rfl⟩

theorem pointsR (s : DScene) (b : List (Int × Int)) : dom_armplanref10_Points s b = true ∧ armplanref10_Points s b = pointsL s b := by
  unfold dom_armplanref10_Points armplanref10_Points t_armplanref10_Points pointsL
  obtain ⟨d1, v1⟩ := sceneR s
  by_cases c0 : ¬ sceneErr s = 0
  · simp only [Tr.dom, Tr.ok, Tr.val, d1, v1, dF c0, cond_true, Bool.not_false]
    exact ⟨by first | trivial | rfl, by first | trivial | rfl⟩
  replace c0 := Decidable.not_not.1 c0
  obtain ⟨r0, r1, r2, _⟩ := scene_ok0 c0
  obtain ⟨q1, q2, _⟩ := robot_ok0 r0
  obtain ⟨d2, v2⟩ := isBoxR s.1 b (by omega)
  obtain ⟨d3, v3⟩ := linksR s.1 b
  cases c1 : isBoxB s.1 b with
  | false =>
    simp only [Tr.dom, Tr.ok, Tr.val, d1, v1, dT c0, d2, v2, c1, cond_true, cond_false, Bool.not_false, Bool.not_true]
    exact ⟨by first | trivial | rfl, by first | trivial | rfl⟩
  | true =>
    have hL : linksL s.1 b = linksN s.1 b s.1.1.length := by unfold linksL; rw [dT r0, c1]; rfl
    have hlen := linksN_len s.1 b s.1.1.length
    rw [hL] at v3
    generalize linksN s.1 b s.1.1.length = ps at *
    have key : dom_armplanref10_Points_L0 ((s, ()), (ps, ()), ([], ()), (0, ()), ()) = true ∧
        val_armplanref10_Points_L0 ((s, ()), (ps, ()), ([], ()), (0, ()), ()) = ((s, ()), ((s.2.1.take s.2.1.length).map (pointsOf ps), ()), ()) := by
      unfold dom_armplanref10_Points_L0 val_armplanref10_Points_L0
      refine loop_to (step := step_armplanref10_Points_L0) (fun i => ((s, ()), (ps, ()), ((s.2.1.take i).map (pointsOf ps), ()), ((i : Int), ()), ())) _ s.2.1.length (by omega) (fun i hi => ?_) ?_
      · have e : IntKind.wrap .i64 ((i : Int) + 1) = ((i + 1 : Nat) : Int) := wrap_succ (by omega)
        have hm : ((s.2.1.take i).map (pointsOf ps)).length = i := by rw [List.length_map, List.length_take]; omega
        have hrm : room (i + 1) = true := room_ok (by omega)
        obtain ⟨k1, k2⟩ := shape_link (r2 i hi)
        rw [take_succ s.2.1 dS hi]
        unfold step_armplanref10_Points_L0 t_armplanref10_Points_L0
        simp only [Tr.optA, dT (show (i : Int) < (s.2.1.length : Int) by omega), dT (show 0 ≤ (i : Int) by omega), e, Int.toNat_natCast, restR, (placeR _ _).1, (placeR _ _).2, hm, List.length_singleton, hrm, List.map_append, List.map_cons, List.map_nil, Bool.and_self, cond_true, id]
        unfold pointsOf
        by_cases c : (s.2.1.getD i dS).1 = -1
        · simp only [dT c, Bool.not_true, cond_false, cond_true]
        · unfold linkB at k1
          rw [Bool.and_eq_true, decide_eq_true_eq, decide_eq_true_eq] at k1
          simp only [dF c, Bool.not_false, cond_false, cond_true, dT (show 0 ≤ (s.2.1.getD i dS).1 by omega), dT (show (s.2.1.getD i dS).1 < (ps.length : Int) by omega), Bool.and_self]
      · unfold step_armplanref10_Points_L0 t_armplanref10_Points_L0
        simp only [Tr.optA, dF (show ¬ ((s.2.1.length : Int) < (s.2.1.length : Int)) by omega), cond_false, id]
    simp only [Tr.dom, Tr.ok, Tr.val, d1, v1, dT c0, d2, v2, c1, d3, v3, key.1, key.2, cond_true, cond_false, Bool.not_true, List.take_length]
    exact ⟨by first | trivial | rfl, by first | trivial | rfl⟩

end Go.RX

/-
  What is made is valid: scenes and boxes.
-/
namespace Go.RX
open Go

theorem near_of {v : DVec} {B C : Int} (h : bdE v B) (hBC : B ≤ C) : nearV C v = true := by
  obtain ⟨⟨p1, p2⟩, ⟨p3, p4⟩, ⟨p5, p6⟩⟩ := h
  unfold nearV
  rw [dT (show -C ≤ v.1 by omega), dT (show v.1 ≤ C by omega), dT (show -C ≤ v.2.1 by omega), dT (show v.2.1 ≤ C by omega), dT (show -C ≤ v.2.2 by omega), dT (show v.2.2 ≤ C by omega)]; rfl

theorem good_shape {n : Int} {x : DShape} (h : goodS n x) : shapeErr n x = 0 := by
  obtain ⟨⟨a1, a2⟩, ⟨b1, b2⟩, c, d1, d2⟩ := h
  unfold shapeErr linkB btw
  have hp : ptsB x.2.2 = true := by
    unfold ptsB
    rw [List.all_eq_true]
    intro v hv
    exact near_of (c v hv) (by omega)
  rw [dT a1, dT a2, dT (show 1 ≤ x.2.1 by omega), dT (show x.2.1 ≤ 1048576 by omega), dF (show ¬ ((x.2.2.length : Nat) : Int) < 1 by omega), dF (show ¬ 8 < ((x.2.2.length : Nat) : Int) by omega), hp]
  rfl

theorem good_scene {s : DScene} (h : goodC s) : sceneErr s = 0 := by
  obtain ⟨h1, h2, ⟨h3, h4⟩, h5⟩ := h
  unfold sceneErr
  have hs : fe (fun i => shapeErr s.1.1.length (s.2.1.getD i (Ty.dflt TShape))) s.2.1.length = 0 := fe_zero.2 fun i hi => good_shape (h2 _ (by
    rw [List.getD_eq_getElem?_getD, List.getElem?_eq_getElem hi]; exact List.getElem_mem hi))
  have hk : s.2.2.length ≤ 1 ∧ s.2.2.all (skipB s.1.1.length) = true := by
    rcases h5 with e | ⟨b, e, b1, b2⟩
    · rw [e]; exact ⟨by simp, rfl⟩
    · rw [e]
      refine ⟨by simp, ?_⟩
      unfold skipB linkB
      simp only [List.all_cons, List.all_nil]
      rw [dT (show (-1 : Int) ≤ -1 by omega), dT (show (-1 : Int) < (s.1.1.length : Int) by omega), dT (show -1 ≤ b by omega), dT b2]; rfl
  rw [good_robot h1, hs, dF (show ¬ 24 < ((s.2.1.length : Nat) : Int) by omega), dF (show ¬ 64 < ((s.2.2.length : Nat) : Int) by omega), hk.2]
  rfl

/-- A box of a robot as it is made. -/
def goodB (js : List DJoint) (b : List (Int × Int)) : Prop := b.length = js.length ∧ ∀ i, i < js.length → inJ (js.getD i dJ) (b.getD i dB)

theorem boxL_ok {r : DRobot} (hr : goodR r) {s0 : List Int × Int} (hs : srcOk s0) :
    dom_armplanmake_Box_L0 ((r, ()), (s0, ()), ([], ()), (0, ()), ()) = true ∧ ∃ s b, val_armplanmake_Box_L0 ((r, ()), (s0, ()), ([], ()), (0, ()), ()) = ((r, ()), (s, ()), (b, ()), ()) ∧ goodB r.1 b := by
  have hn := hr.2.1
  unfold dom_armplanmake_Box_L0 val_armplanmake_Box_L0
  refine loop_end (Q := fun y : Outs os_armplanmake_Box_L0 => ∃ s b, y = ((r, ()), (s, ()), (b, ()), ()) ∧ goodB r.1 b)
    (loop_run step_armplanmake_Box_L0 (fun m x => ∃ (s : List Int × Int) (b : List (Int × Int)) (i : Nat), x = ((r, ()), (s, ()), (b, ()), ((i : Int), ()), ()) ∧ srcOk s ∧ b.length = i ∧ i + m = r.1.length ∧ ∀ k, k < i → inJ (r.1.getD k dJ) (b.getD k dB)) _ ?_ rounds r.1.length _
      ⟨s0, [], 0, rfl, hs, rfl, by omega, fun k hk => by omega⟩ (rounds_lt (by omega)))
  rintro m x ⟨s, b, i, rfl, h1, h2, h3, h4⟩
  by_cases hi : i < r.1.length
  · obtain ⟨s', c, o, hc, e⟩ := box_more (bs := b) h1 hr.1 (show 0 ≤ (i : Int) by omega) (by omega) (by omega) (by omega)
    refine .inl ⟨_, m - 1, e, by omega, s', b ++ [c], i + 1, rfl, o, by simp [h2], by omega, fun k hk => ?_⟩
    rw [Int.toNat_natCast] at hc
    by_cases hk' : k < i
    · have := h4 k hk'
      rwa [List.getD_eq_getElem?_getD, List.getD_eq_getElem?_getD, List.getElem?_append_left (by omega), ← List.getD_eq_getElem?_getD, ← List.getD_eq_getElem?_getD] at *
    · have : k = i := by omega
      subst this
      rw [List.getD_eq_getElem?_getD (l := b ++ [c]), List.getElem?_append_right (by omega), h2, Nat.sub_self]
      exact hc
  · refine .inr ⟨((r, ()), (s, ()), (b, ()), ()), ?_, s, b, rfl, by omega, fun k hk => h4 k (by omega)⟩
    unfold step_armplanmake_Box_L0 t_armplanmake_Box_L0
    simp only [Tr.optA, dF (show ¬ ((i : Int) < (r.1.length : Int)) by omega), cond_false, id]

theorem boxes_ok {r : DRobot} (hr : goodR r) {l : List Int} (hl : l.length ≤ maxLen) : dom_armplanmake_Box r l = true ∧ goodB r.1 (armplanmake_Box r l) := by
  unfold dom_armplanmake_Box armplanmake_Box t_armplanmake_Box
  obtain ⟨d, s, b, e, g⟩ := boxL_ok hr (src0 hl)
  simp only [Tr.dom, Tr.ok, Tr.val, d, e, cond_true]
  exact ⟨by first | trivial | rfl, g⟩

theorem goodB_valid {r : DRobot} (hr : goodR r) {b : List (Int × Int)} (h : goodB r.1 b) : validB b = true := by
  unfold validB
  rw [List.all_eq_true]
  intro x hx
  obtain ⟨k, hk, rfl⟩ := List.getElem_of_mem hx
  have h1 := h.2 k (by rw [← h.1]; exact hk)
  have h2 := (hr.1 k (r.1.getD k dJ) (getD_get (by rw [← h.1]; exact hk))).1
  obtain ⟨_, _, _, _, ⟨l1, l2, l3, l4⟩, _⟩ := h2
  have e : b.getD k dB = b[k] := by rw [List.getD_eq_getElem?_getD, List.getElem?_eq_getElem hk]; rfl
  rw [e] at h1
  obtain ⟨i1, i2, i3⟩ := h1
  unfold loJ at i1
  unfold hiJ at i3
  exact vld_mk (by omega) (by omega) (by omega)

theorem goodB_box {r : DRobot} (hr : goodR r) {b : List (Int × Int)} (h : goodB r.1 b) : isBoxB r b = true := by
  unfold isBoxB
  rw [goodB_valid hr h, dT (show ((b.length : Nat) : Int) = ((r.1.length : Nat) : Int) by rw [h.1])]; rfl

end Go.RX

/-
  The law of joints.
-/
namespace Go.RX
open Go

theorem dEq {α : Type} (a : α) (i : Decidable (a = a)) : @decide (a = a) i = true := dT rfl i

theorem awake11 : dom_armplanlaw11_awake = true ∧ armplanlaw11_awake = true := ⟨by kernel_rfl, by kernel_rfl⟩

end Go.RX

/-
  The laws of joints and links.
-/
namespace Go.RX
open Go

theorem same_pose (l : List DPose) (hl : l.length ≤ 1000000) : dom_armplanmake_Same_api_Pose_ l l = true ∧ armplanmake_Same_api_Pose_ l l = true := by
  have key : dom_armplanmake_Same_api_Pose__L0 ((l, ()), (l, ()), (0, ()), ()) = true ∧ val_armplanmake_Same_api_Pose__L0 ((l, ()), (l, ()), (0, ()), ()) = .inl () := by
    unfold dom_armplanmake_Same_api_Pose__L0 val_armplanmake_Same_api_Pose__L0
    refine loop_to (step := step_armplanmake_Same_api_Pose__L0) (fun i => ((l, ()), (l, ()), ((i : Int), ()), ())) _ l.length (by omega) (fun i hi => ?_) ?_
    · have e : IntKind.wrap .i64 ((i : Int) + 1) = ((i + 1 : Nat) : Int) := wrap_succ (by omega)
      unfold step_armplanmake_Same_api_Pose__L0 t_armplanmake_Same_api_Pose__L0
      simp only [Tr.optA, dT (show (i : Int) < (l.length : Int) by omega), dT (show 0 ≤ (i : Int) by omega), e, dEq, dT trivial, Bool.and_self, Bool.not_true, cond_true, cond_false, id]
    · unfold step_armplanmake_Same_api_Pose__L0 t_armplanmake_Same_api_Pose__L0
      simp only [Tr.optA, dF (show ¬ ((l.length : Int) < (l.length : Int)) by omega), cond_false, id]
  unfold dom_armplanmake_Same_api_Pose_ armplanmake_Same_api_Pose_ t_armplanmake_Same_api_Pose_
  simp only [Tr.dom, Tr.ok, Tr.val, dEq, key.1, key.2, Bool.not_true, cond_true, cond_false]
  exact ⟨by first | trivial | rfl, by first | trivial | rfl⟩

theorem same_ivec (l : List DIVec) (hl : l.length ≤ 1000000) : dom_armplanmake_Same_api_IVec_ l l = true ∧ armplanmake_Same_api_IVec_ l l = true := by
  have key : dom_armplanmake_Same_api_IVec__L0 ((l, ()), (l, ()), (0, ()), ()) = true ∧ val_armplanmake_Same_api_IVec__L0 ((l, ()), (l, ()), (0, ()), ()) = .inl () := by
    unfold dom_armplanmake_Same_api_IVec__L0 val_armplanmake_Same_api_IVec__L0
    refine loop_to (step := step_armplanmake_Same_api_IVec__L0) (fun i => ((l, ()), (l, ()), ((i : Int), ()), ())) _ l.length (by omega) (fun i hi => ?_) ?_
    · have e : IntKind.wrap .i64 ((i : Int) + 1) = ((i + 1 : Nat) : Int) := wrap_succ (by omega)
      unfold step_armplanmake_Same_api_IVec__L0 t_armplanmake_Same_api_IVec__L0
      simp only [Tr.optA, dT (show (i : Int) < (l.length : Int) by omega), dT (show 0 ≤ (i : Int) by omega), e, dEq, dT trivial, Bool.and_self, Bool.not_true, cond_true, cond_false, id]
    · unfold step_armplanmake_Same_api_IVec__L0 t_armplanmake_Same_api_IVec__L0
      simp only [Tr.optA, dF (show ¬ ((l.length : Int) < (l.length : Int)) by omega), cond_false, id]
  unfold dom_armplanmake_Same_api_IVec_ armplanmake_Same_api_IVec_ t_armplanmake_Same_api_IVec_
  simp only [Tr.dom, Tr.ok, Tr.val, dEq, key.1, key.2, Bool.not_true, cond_true, cond_false]
  exact ⟨by first | trivial | rfl, by first | trivial | rfl⟩

theorem same_ivecs (l : List (List DIVec)) (hl : l.length ≤ 1000000) (hx : ∀ x ∈ l, x.length ≤ 1000000) : dom_armplanmake_SameLists_api_IVec_ l l = true ∧ armplanmake_SameLists_api_IVec_ l l = true := by
  have key : dom_armplanmake_SameLists_api_IVec__L0 ((l, ()), (l, ()), (0, ()), ()) = true ∧ val_armplanmake_SameLists_api_IVec__L0 ((l, ()), (l, ()), (0, ()), ()) = .inl () := by
    unfold dom_armplanmake_SameLists_api_IVec__L0 val_armplanmake_SameLists_api_IVec__L0
    refine loop_to (step := step_armplanmake_SameLists_api_IVec__L0) (fun i => ((l, ()), (l, ()), ((i : Int), ()), ())) _ l.length (by omega) (fun i hi => ?_) ?_
    · have e : IntKind.wrap .i64 ((i : Int) + 1) = ((i + 1 : Nat) : Int) := wrap_succ (by omega)
      have hm : l.getD i (Ty.dflt (.list TIVec)) ∈ l := by rw [List.getD_eq_getElem?_getD, List.getElem?_eq_getElem hi]; exact List.getElem_mem hi
      obtain ⟨d, v⟩ := same_ivec (l.getD i (Ty.dflt (.list TIVec))) (hx _ hm)
      unfold step_armplanmake_SameLists_api_IVec__L0 t_armplanmake_SameLists_api_IVec__L0
      simp only [Tr.optA, dT (show (i : Int) < (l.length : Int) by omega), dT (show 0 ≤ (i : Int) by omega), Int.toNat_natCast, d, v, e, Bool.and_self, Bool.not_true, cond_true, cond_false, id]
    · unfold step_armplanmake_SameLists_api_IVec__L0 t_armplanmake_SameLists_api_IVec__L0
      simp only [Tr.optA, dF (show ¬ ((l.length : Int) < (l.length : Int)) by omega), cond_false, id]
  unfold dom_armplanmake_SameLists_api_IVec_ armplanmake_SameLists_api_IVec_ t_armplanmake_SameLists_api_IVec_
  simp only [Tr.dom, Tr.ok, Tr.val, dEq, key.1, key.2, Bool.not_true, cond_true, cond_false]
  exact ⟨by first | trivial | rfl, by first | trivial | rfl⟩

theorem linksL_len (r : DRobot) (b : List (Int × Int)) : (linksL r b).length ≤ 10 := by
  unfold linksL
  by_cases c : robotErr r = 0
  · rw [dT c]
    obtain ⟨_, h, _⟩ := robot_ok0 c
    cases isBoxB r b
    · simp
    · simp [linksN_len]; exact h
  · rw [dF c]; simp

theorem pointsL_len (s : DScene) (b : List (Int × Int)) : (pointsL s b).length ≤ 24 ∧ ∀ x ∈ pointsL s b, x.length ≤ 8 := by
  unfold pointsL
  by_cases c : sceneErr s = 0
  · rw [dT c]
    obtain ⟨_, h, _⟩ := scene_ok0 c
    cases isBoxB s.1 b
    · simp
    · simp only [Bool.not_true, cond_false, List.length_map]
      refine ⟨h, fun x hx => ?_⟩
      obtain ⟨y, _, rfl⟩ := List.mem_map.1 hx
      unfold pointsOf placeL
      cases hy : shapeB y with
      | false => simp
      | true => simp only [Bool.not_true, cond_false, List.length_map]; exact (shapeB_len hy).2
  · rw [dF c]; simp

theorem links_same (s : DScene) (b : List (Int × Int)) : dom_armplanlaw11_links s b = true ∧ armplanlaw11_links s b = true := by
  unfold dom_armplanlaw11_links armplanlaw11_links t_armplanlaw11_links
  have h1 := linksL_len s.1 b
  obtain ⟨h2, h3⟩ := pointsL_len s b
  obtain ⟨d1, v1⟩ := same_pose (linksL s.1 b) (by omega)
  obtain ⟨d2, v2⟩ := same_ivecs (pointsL s b) (by omega) (fun x hx => by have := h3 x hx; omega)
  simp only [Tr.dom, Tr.ok, Tr.val, (linksF _ _).1, (linksF _ _).2, (linksR _ _).1, (linksR _ _).2, (pointsF _ _).1, (pointsF _ _).2, (pointsR _ _).1, (pointsR _ _).2, d1, v1, d2, v2, cond_true]
  exact ⟨by first | trivial | rfl, by first | trivial | rfl⟩

theorem klinks_law (s : DScene) {b : List (Int × Int)} (hb : b.length ≤ 1048576) {l m : List Int} (hl : l.length ≤ maxLen) (hm : m.length ≤ maxLen) :
    dom_armplanlaw11_KinematicsLinks s b l m = true ∧ armplanlaw11_KinematicsLinks s b l m = true := by
  unfold dom_armplanlaw11_KinematicsLinks armplanlaw11_KinematicsLinks t_armplanlaw11_KinematicsLinks
  obtain ⟨d1, g1⟩ := scene_ok hl
  generalize armplanmake_Scene l = x at *
  obtain ⟨d2, q, c, e2, g2⟩ := boxL_ok g1.1 (src0 hm)
  have d2' : dom_armplanlaw11_KinematicsLinks_armplanmake_Box_L0 ((x.1, ()), ((m, 0), ()), ([], ()), (0, ()), ()) = true := d2
  have e2' : val_armplanlaw11_KinematicsLinks_armplanmake_Box_L0 ((x.1, ()), ((m, 0), ()), ([], ()), (0, ()), ()) = ((x.1, ()), (q, ()), (c, ()), ()) := e2
  have hn := g1.1.2.1
  have hc := g2.1
  have hrm : room (c.length + b.length) = true := room_ok (by omega)
  simp only [Tr.dom, Tr.ok, Tr.val, d1, d2', e2', awake11.1, awake11.2, (links_same _ _).1, (links_same _ _).2, hrm, cond_true]
  exact ⟨by first | trivial | rfl, by first | trivial | rfl⟩

end Go.RX

/-
  Boxes within boxes; how far the points lie.
-/
namespace Go.RX
open Go

theorem v_point (t : E3) : vV (pointV t) := by
  have h1 := lim_bd t.1
  have h2 := lim_bd t.2.1
  have h3 := lim_bd t.2.2
  exact ⟨vld_mk h1.1 (Int.le_refl _) h1.2, vld_mk h2.1 (Int.le_refl _) h2.2, vld_mk h3.1 (Int.le_refl _) h3.2⟩
theorem wtnV_refl {v : V3} (h : vV v) : wtnV v v = true := wtnV_iff.2 ⟨wtn_refl h.1, wtn_refl h.2.1, wtn_refl h.2.2⟩
theorem wtnM_refl {m : M3} (h : vM m) : wtnM m m = true := wtnM_iff.2 ⟨wtnV_refl h.1, wtnV_refl h.2.1, wtnV_refl h.2.2⟩
theorem wtnP_refl {p : P4} (h1 : vM p.1) (h2 : vV p.2) : wtnP p p = true := wtnP_iff.2 ⟨wtnM_refl h1, wtnV_refl h2⟩
theorem v_zero : vV zeroV := ⟨rfl, rfl, rfl⟩

theorem move_mono (k : Int) {a b : Int × Int} (h : wtn a b = true) : wtnP (moveP k a) (moveP k b) = true := by
  unfold moveP
  have hu : wtnM unitM unitM = true := wtnM_refl (sm_vM sm_unit)
  have hz : wtnV zeroV zeroV = true := wtnV_refl v_zero
  have h0 : wtn (0, 0) (0, 0) = true := wtn_zero
  cases decide (k = 1) with
  | true => exact wtnP_iff.2 ⟨turn_mono h, hz⟩
  | false =>
  cases decide (k = 2) with
  | true => exact wtnP_iff.2 ⟨turn_mono h, hz⟩
  | false =>
  cases decide (k = 3) with
  | true => exact wtnP_iff.2 ⟨turn_mono h, hz⟩
  | false =>
  cases decide (k = 4) with
  | true => exact wtnP_iff.2 ⟨hu, wtnV_iff.2 ⟨h, h0, h0⟩⟩
  | false =>
  cases decide (k = 5) with
  | true => exact wtnP_iff.2 ⟨hu, wtnV_iff.2 ⟨h0, h, h0⟩⟩
  | false =>
  cases decide (k = 6) with
  | true => exact wtnP_iff.2 ⟨hu, wtnV_iff.2 ⟨h0, h0, h⟩⟩
  | false => exact wtnP_iff.2 ⟨hu, hz⟩

theorem joint_mono (j : DJoint) {a b : Int × Int} (h : wtn a b = true) : wtnP (jointP j a) (jointP j b) = true :=
  compP_mono (wtnP_refl (p := (unitM, pointV j.2.2.2.1)) (sm_vM sm_unit) (v_point _)) (move_mono _ h)

theorem getD_snoc_lt {α : Type} {l : List α} {x d : α} {k : Nat} (h : k < l.length) : (l ++ [x]).getD k d = l.getD k d := by
  rw [List.getD_eq_getElem?_getD, List.getD_eq_getElem?_getD, List.getElem?_append_left h]
theorem getD_snoc_eq {α : Type} {l : List α} {x d : α} {k : Nat} (h : k = l.length) : (l ++ [x]).getD k d = x := by
  rw [List.getD_eq_getElem?_getD, List.getElem?_append_right (by omega), h, Nat.sub_self]; rfl

theorem links_mono {r : DRobot} (hp : parentsOk r) {a b : List (Int × Int)} (h : ∀ i, i < r.1.length → wtn (a.getD i dB) (b.getD i dB) = true) :
    ∀ n, n ≤ r.1.length → ∀ k, k < n → wtnP ((linksN r a n).getD k dP) ((linksN r b n).getD k dP) = true
  | 0, _, k, hk => by omega
  | n + 1, hn, k, hk => by
    have ih := links_mono hp h n (by omega)
    have la := linksN_len r a n
    have lb := linksN_len r b n
    rw [show linksN r a (n + 1) = linksN r a n ++ [nextP r a (linksN r a n) n] from rfl, show linksN r b (n + 1) = linksN r b n ++ [nextP r b (linksN r b n) n] from rfl]
    by_cases hk' : k < n
    · rw [getD_snoc_lt (by omega), getD_snoc_lt (by omega)]; exact ih k hk'
    · rw [getD_snoc_eq (by omega), getD_snoc_eq (by omega)]
      unfold nextP
      have hj := joint_mono (r.1.getD n dJ) (h n (by omega))
      rcases hp n (by omega) with hw | ⟨h1, h2⟩
      · rw [dT hw]; exact hj
      · rw [dF (show ¬ parentJ (r.1.getD n dJ) = -1 by omega)]
        exact compP_mono (ih _ (by omega)) hj

theorem within_ok {b : List (Int × Int)} (hv : validB b = true) (hb : b.length ≤ 100) {l : List Int} (hl : l.length ≤ maxLen) :
    dom_armplanmake_Within b l = true ∧ (armplanmake_Within b l).length = b.length ∧ ∀ i, i < b.length → wtn ((armplanmake_Within b l).getD i dB) (b.getD i dB) = true := by
  have key : dom_armplanmake_Within_L0 (((l, 0), ()), (b, ()), ([], ()), (0, ()), ()) = true ∧ ∃ s c, val_armplanmake_Within_L0 (((l, 0), ()), (b, ()), ([], ()), (0, ()), ()) = ((s, ()), (c, ()), ()) ∧ c.length = b.length ∧
      ∀ i, i < b.length → wtn (c.getD i dB) (b.getD i dB) = true := by
    unfold dom_armplanmake_Within_L0 val_armplanmake_Within_L0
    refine loop_end (Q := fun y : Outs os_armplanmake_Within_L0 => ∃ s c, y = ((s, ()), (c, ()), ()) ∧ c.length = b.length ∧ ∀ i, i < b.length → wtn (c.getD i dB) (b.getD i dB) = true)
      (loop_run step_armplanmake_Within_L0 (fun m x => ∃ (s : List Int × Int) (c : List (Int × Int)) (i : Nat), x = ((s, ()), (b, ()), (c, ()), ((i : Int), ()), ()) ∧ srcOk s ∧ c.length = i ∧ i + m = b.length ∧ ∀ k, k < i → wtn (c.getD k dB) (b.getD k dB) = true) _ ?_ rounds b.length _
        ⟨(l, 0), [], 0, rfl, src0 hl, rfl, by omega, fun k hk => by omega⟩ (rounds_lt (by omega)))
    rintro m x ⟨s, c, i, rfl, h1, h2, h3, h4⟩
    by_cases hi : i < b.length
    · obtain ⟨d1, o1, _, _⟩ := next_ok h1 (k := 1073741824) (by omega) (by omega)
      generalize hr1 : armplanmake_Source_Next s 1073741824 = r1 at *
      obtain ⟨d2, o2, _, _⟩ := next_ok o1 (k := 1073741824) (by omega) (by omega)
      generalize hr2 : armplanmake_Source_Next r1.2 1073741824 = r2 at *
      have hvi : vld (b.getD i dB) = true := by
        unfold validB at hv
        rw [List.all_eq_true] at hv
        rw [List.getD_eq_getElem?_getD, List.getElem?_eq_getElem hi]
        exact hv _ (List.getElem_mem hi)
      obtain ⟨d3, w3⟩ := part_wtn hvi r1.1 r2.1
      have e : IntKind.wrap .i64 ((i : Int) + 1) = ((i + 1 : Nat) : Int) := wrap_succ (by omega)
      have hrm : room (i + 1) = true := room_ok (by omega)
      refine .inl ⟨((r2.2, ()), (b, ()), (c ++ [armplanmake_Part (b.getD i dB) r1.1 r2.1], ()), (((i + 1 : Nat) : Int), ()), ()), m - 1, ?_, by omega, r2.2, _, i + 1, rfl, o2, by simp [h2], by omega, fun k hk => ?_⟩
      · unfold step_armplanmake_Within_L0 t_armplanmake_Within_L0
        simp only [Tr.optA, dT (show (i : Int) < (b.length : Int) by omega), dT (show 0 ≤ (i : Int) by omega), Int.toNat_natCast, hr1, hr2, d1, d2, d3, h2, List.length_singleton, hrm, e, Bool.and_self, cond_true, id]
      · by_cases hk' : k < i
        · rw [getD_snoc_lt (by omega)]; exact h4 k hk'
        · rw [getD_snoc_eq (by omega), show k = i by omega]; exact w3
    · refine .inr ⟨((s, ()), (c, ()), ()), ?_, s, c, rfl, by omega, fun k hk => h4 k (by omega)⟩
      unfold step_armplanmake_Within_L0 t_armplanmake_Within_L0
      simp only [Tr.optA, dF (show ¬ ((i : Int) < (b.length : Int)) by omega), cond_false, id]
  obtain ⟨d, s, c, e, g1, g2⟩ := key
  unfold dom_armplanmake_Within armplanmake_Within t_armplanmake_Within
  simp only [Tr.dom, Tr.ok, Tr.val, d, e, cond_true]
  exact ⟨by first | trivial | rfl, g1, g2⟩

theorem wtn_valid {a b : List (Int × Int)} (hl : a.length = b.length) (h : ∀ i, i < b.length → wtn (a.getD i dB) (b.getD i dB) = true) : validB a = true := by
  unfold validB
  rw [List.all_eq_true]
  intro x hx
  obtain ⟨k, hk, rfl⟩ := List.getElem_of_mem hx
  have := h k (by omega)
  rw [List.getD_eq_getElem?_getD, List.getElem?_eq_getElem hk] at this
  exact (wtn_iff.1 this).1

theorem map_getD {α β : Type} (f : α → β) (l : List α) (d : α) (e : β) {i : Nat} (h : i < l.length) : (l.map f).getD i e = f (l.getD i d) := by
  rw [List.getD_eq_getElem?_getD, List.getD_eq_getElem?_getD, List.getElem?_map, List.getElem?_eq_getElem h]; rfl

theorem kmonotone_law {l m n : List Int} (hl : l.length ≤ maxLen) (hm : m.length ≤ maxLen) (hn : n.length ≤ maxLen) :
    dom_armplanlaw11_KinematicsMonotone l m n = true ∧ armplanlaw11_KinematicsMonotone l m n = true := by
  unfold dom_armplanlaw11_KinematicsMonotone armplanlaw11_KinematicsMonotone t_armplanlaw11_KinematicsMonotone
  obtain ⟨d1, g1⟩ := scene_ok hl
  generalize armplanmake_Scene l = s at *
  obtain ⟨d2, g2⟩ := boxes_ok g1.1 hm
  generalize hB : armplanmake_Box s.1 m = b at *
  have hvb := goodB_valid g1.1 g2
  have hlen := g1.1.2.1
  obtain ⟨d3, w1, w2⟩ := within_ok hvb (by rw [g2.1]; omega) hn
  generalize hA : armplanmake_Within b n = a at *
  have hr := good_robot g1.1
  have hsc := good_scene g1
  have hbox := goodB_box g1.1 g2
  have habox : isBoxB s.1 a = true := by
    unfold isBoxB
    rw [wtn_valid w1 w2, dT (show ((a.length : Nat) : Int) = ((s.1.1.length : Nat) : Int) by rw [w1, g2.1])]; rfl
  have e1 : ∀ c, isBoxB s.1 c = true → linksL s.1 c = linksN s.1 c s.1.1.length := fun c hc => by unfold linksL; rw [dT hr, hc]; rfl
  have e2 : ∀ c, isBoxB s.1 c = true → pointsL s c = s.2.1.map (pointsOf (linksN s.1 c s.1.1.length)) := fun c hc => by unfold pointsL; rw [dT hsc, hc]; rfl
  have hw := links_mono (parents_ok hr) (a := a) (b := b) (fun i hi => w2 i (by rw [g2.1]; exact hi)) s.1.1.length (Nat.le_refl _)
  obtain ⟨s0, s1, s2, _⟩ := scene_ok0 hsc
  have lA := linksN_len s.1 a s.1.1.length
  have lB := linksN_len s.1 b s.1.1.length
  have e1a := e1 a habox
  have e1b := e1 b hbox
  have e2a := e2 a habox
  have e2b := e2 b hbox
  clear e1 e2
  generalize linksN s.1 a s.1.1.length = pa at *
  generalize linksN s.1 b s.1.1.length = pb at *
  have l0 : dom_armplanlaw11_KinematicsMonotone_L0 ((pa, ()), (pb, ()), (0, ()), ()) = true ∧ val_armplanlaw11_KinematicsMonotone_L0 ((pa, ()), (pb, ()), (0, ()), ()) = .inl () := by
    unfold dom_armplanlaw11_KinematicsMonotone_L0 val_armplanlaw11_KinematicsMonotone_L0
    refine loop_to (step := step_armplanlaw11_KinematicsMonotone_L0) (fun i => ((pa, ()), (pb, ()), ((i : Int), ()), ())) _ pa.length (by omega) (fun i hi => ?_) ?_
    · have e : IntKind.wrap .i64 ((i : Int) + 1) = ((i + 1 : Nat) : Int) := wrap_succ (by omega)
      unfold step_armplanlaw11_KinematicsMonotone_L0 t_armplanlaw11_KinematicsMonotone_L0
      simp only [Tr.optA, dT (show (i : Int) < (pa.length : Int) by omega), dT (show (i : Int) < (pb.length : Int) by omega), dT (show 0 ≤ (i : Int) by omega), Int.toNat_natCast, wtnPR, hw i (by omega), e, Bool.not_true, Bool.and_self, cond_true, cond_false, id]
    · unfold step_armplanlaw11_KinematicsMonotone_L0 t_armplanlaw11_KinematicsMonotone_L0
      simp only [Tr.optA, dF (show ¬ ((pa.length : Int) < (pa.length : Int)) by omega), cond_false, id]
  have hpt : ∀ i, i < s.2.1.length → ((s.2.1.map (pointsOf pa)).getD i []).length = (s.2.1.getD i dS).2.2.length ∧ ((s.2.1.map (pointsOf pb)).getD i []).length = (s.2.1.getD i dS).2.2.length ∧ (s.2.1.getD i dS).2.2.length ≤ 8 ∧
      ∀ k, k < (s.2.1.getD i dS).2.2.length → wtnV (((s.2.1.map (pointsOf pa)).getD i []).getD k (Ty.dflt TIVec)) (((s.2.1.map (pointsOf pb)).getD i []).getD k (Ty.dflt TIVec)) = true := by
    intro i hi
    obtain ⟨k1, k2⟩ := shape_link (s2 i hi)
    rw [map_getD _ _ dS _ hi, map_getD _ _ dS _ hi]
    have hl8 := (shapeB_len k2).2
    unfold pointsOf placeL
    rw [k2]
    simp only [Bool.not_true, cond_false, List.length_map]
    refine ⟨trivial, trivial, hl8, fun k hk => ?_⟩
    rw [map_getD _ _ (Ty.dflt TVec) _ hk, map_getD _ _ (Ty.dflt TVec) _ hk]
    refine apP_mono ?_ (wtnV_refl (v_point _))
    by_cases c : (s.2.1.getD i dS).1 = -1
    · rw [dT c]; exact wtnP_refl (p := (unitM, zeroV)) (sm_vM sm_unit) v_zero
    · rw [dF c]
      unfold linkB at k1
      rw [Bool.and_eq_true, decide_eq_true_eq, decide_eq_true_eq] at k1
      exact hw _ (by omega)
  have l4 : ∀ i, i < s.2.1.length → dom_armplanlaw11_KinematicsMonotone_L4 ((s.2.1.map (pointsOf pa), ()), (s.2.1.map (pointsOf pb), ()), ((i : Int), ()), (0, ()), ()) = true ∧
      val_armplanlaw11_KinematicsMonotone_L4 ((s.2.1.map (pointsOf pa), ()), (s.2.1.map (pointsOf pb), ()), ((i : Int), ()), (0, ()), ()) = .inl ((s.2.1.map (pointsOf pa), ()), (s.2.1.map (pointsOf pb), ()), ((i : Int), ()), ()) := by
    intro i hi
    obtain ⟨q1, q2, q3, q4⟩ := hpt i hi
    have ha : (s.2.1.map (pointsOf pa)).length = s.2.1.length := by simp
    have hb : (s.2.1.map (pointsOf pb)).length = s.2.1.length := by simp
    generalize s.2.1.map (pointsOf pa) = xa at *
    generalize s.2.1.map (pointsOf pb) = xb at *
    unfold dom_armplanlaw11_KinematicsMonotone_L4 val_armplanlaw11_KinematicsMonotone_L4
    refine loop_to (step := step_armplanlaw11_KinematicsMonotone_L4) (fun k => ((xa, ()), (xb, ()), ((i : Int), ()), ((k : Int), ()), ())) _ (s.2.1.getD i dS).2.2.length (by omega) (fun k hk => ?_) ?_
    · have e : IntKind.wrap .i64 ((k : Int) + 1) = ((k + 1 : Nat) : Int) := wrap_succ (by omega)
      have q1' : (xa.getD i (Ty.dflt (.list TIVec))).length = (s.2.1.getD i dS).2.2.length := q1
      have q2' : (xb.getD i (Ty.dflt (.list TIVec))).length = (s.2.1.getD i dS).2.2.length := q2
      have q4' : wtnV ((xa.getD i (Ty.dflt (.list TIVec))).getD k (Ty.dflt TIVec)) ((xb.getD i (Ty.dflt (.list TIVec))).getD k (Ty.dflt TIVec)) = true := q4 k hk
      unfold step_armplanlaw11_KinematicsMonotone_L4 t_armplanlaw11_KinematicsMonotone_L4
      simp only [Tr.optA, Int.toNat_natCast, q1', q2', dT (show (i : Int) < (xa.length : Int) by omega), dT (show (i : Int) < (xb.length : Int) by omega), dT (show 0 ≤ (i : Int) by omega), dT (show 0 ≤ (k : Int) by omega),
        dT (show (k : Int) < (((s.2.1.getD i dS).2.2.length : Nat) : Int) by omega), withinVR, q4', e, Bool.not_true, Bool.and_self, cond_true, cond_false, id]
    · have q1' : (xa.getD i (Ty.dflt (.list TIVec))).length = (s.2.1.getD i dS).2.2.length := q1
      unfold step_armplanlaw11_KinematicsMonotone_L4 t_armplanlaw11_KinematicsMonotone_L4
      simp only [Tr.optA, Int.toNat_natCast, q1', dT (show (i : Int) < (xa.length : Int) by omega), dT (show 0 ≤ (i : Int) by omega), dF (show ¬ ((((s.2.1.getD i dS).2.2.length : Nat) : Int) < (((s.2.1.getD i dS).2.2.length : Nat) : Int)) by omega), Bool.and_self, cond_true, cond_false, id]
  have l2 : dom_armplanlaw11_KinematicsMonotone_L2 ((s, ()), (s.2.1.map (pointsOf pa), ()), (s.2.1.map (pointsOf pb), ()), (0, ()), ()) = true ∧
      val_armplanlaw11_KinematicsMonotone_L2 ((s, ()), (s.2.1.map (pointsOf pa), ()), (s.2.1.map (pointsOf pb), ()), (0, ()), ()) = .inl ((s, ()), ()) := by
    unfold dom_armplanlaw11_KinematicsMonotone_L2 val_armplanlaw11_KinematicsMonotone_L2
    have ha : (s.2.1.map (pointsOf pa)).length = s.2.1.length := by simp
    have hb : (s.2.1.map (pointsOf pb)).length = s.2.1.length := by simp
    generalize s.2.1.map (pointsOf pa) = xa at *
    generalize s.2.1.map (pointsOf pb) = xb at *
    refine loop_to (step := step_armplanlaw11_KinematicsMonotone_L2) (fun i => ((s, ()), (xa, ()), (xb, ()), ((i : Int), ()), ())) _ s.2.1.length (by omega) (fun i hi => ?_) ?_
    · have e : IntKind.wrap .i64 ((i : Int) + 1) = ((i + 1 : Nat) : Int) := wrap_succ (by omega)
      obtain ⟨q1, q2, q3, q4⟩ := hpt i hi
      have q1' : (xa.getD i (Ty.dflt (.list TIVec))).length = (s.2.1.getD i dS).2.2.length := q1
      have q2' : (xb.getD i (Ty.dflt (.list TIVec))).length = (s.2.1.getD i dS).2.2.length := q2
      obtain ⟨k1, k2⟩ := l4 i hi
      unfold step_armplanlaw11_KinematicsMonotone_L2 t_armplanlaw11_KinematicsMonotone_L2
      simp only [Tr.optA, Int.toNat_natCast, q1', q2', dT (show (i : Int) < (xa.length : Int) by omega), dT (show (i : Int) < (xb.length : Int) by omega), dT (show (i : Int) < (s.2.1.length : Int) by omega), dT (show 0 ≤ (i : Int) by omega),
        dEq, dT trivial, k1, k2, e, Bool.not_true, Bool.and_self, cond_true, cond_false, id, isL, getL]
    · unfold step_armplanlaw11_KinematicsMonotone_L2 t_armplanlaw11_KinematicsMonotone_L2
      simp only [Tr.optA, dF (show ¬ ((xa.length : Int) < (xa.length : Int)) by omega), ← ha, cond_false, id]
  have m1 : ∀ q : List DPose, (s.2.1.map (pointsOf q)).length = s.2.1.length := fun q => by simp
  have hab : pa.length = b.length := by rw [lA, g2.1]
  have hbb : pb.length = b.length := by rw [lB, g2.1]
  simp only [Tr.dom, Tr.ok, Tr.val, d1, d2, hB, d3, hA, (linksF _ _).1, (linksF _ _).2, (pointsF _ _).1, (pointsF _ _).2, e1a, e1b, e2a, e2b, m1, hab, hbb, dEq, dT trivial, l0.1, l0.2, l2.1, l2.2, awake11.1, awake11.2, Bool.not_true, cond_true, cond_false, isL, getL]
  exact ⟨by first | trivial | rfl, by first | trivial | rfl⟩

end Go.RX

/-
  How far the points lie: the law of placed points.
-/
namespace Go.RX
open Go

def bdI (B : Int) (x : Int × Int) : Prop := -B ≤ x.1 ∧ x.1 ≤ x.2 ∧ x.2 ≤ B
def bdV (B : Int) (v : V3) : Prop := bdI B v.1 ∧ bdI B v.2.1 ∧ bdI B v.2.2

theorem getD_mem {α : Type} {l : List α} {d : α} {i : Nat} (h : i < l.length) : l.getD i d ∈ l := by
  rw [List.getD_eq_getElem?_getD, List.getElem?_eq_getElem h]; exact List.getElem_mem h
theorem bdI_mono {A B : Int} {x : Int × Int} (h : bdI A x) (hAB : A ≤ B) : bdI B x := ⟨by have := h.1; omega, h.2.1, by have := h.2.2; omega⟩
theorem bdV_mono {A B : Int} {v : V3} (h : bdV A v) (hAB : A ≤ B) : bdV B v := ⟨bdI_mono h.1 hAB, bdI_mono h.2.1 hAB, bdI_mono h.2.2 hAB⟩
theorem add_bd {A B : Int} {x y : Int × Int} (hx : bdI A x) (hy : bdI B y) (hAB : A + B ≤ 2147483648) : bdI (A + B) (addI x y) := by
  obtain ⟨x1, x2, x3⟩ := hx
  obtain ⟨y1, y2, y3⟩ := hy
  unfold addI
  rw [vld_mk (x := x) (by omega) x2 (by omega), vld_mk (x := y) (by omega) y2 (by omega)]
  rw [Bool.and_self, cond_true, lim_in (by omega) (by omega), lim_in (by omega) (by omega)]
  exact ⟨by dsimp only; omega, by dsimp only; omega, by dsimp only; omega⟩

theorem small_mul {B p q : Int} (hB : 0 ≤ B) (p1 : -65536 ≤ p) (p2 : p ≤ 65536) (q1 : -B ≤ q) (q2 : q ≤ B) : -(65536 * B) ≤ p * q ∧ p * q ≤ 65536 * B := by
  have e1 : (65536 : Int) * -B = -(65536 * B) := by omega
  have e2 : (-65536 : Int) * B = -(65536 * B) := by omega
  have e3 : (-65536 : Int) * -B = 65536 * B := by omega
  exact mul_box (p := -65536) (q := 65536) (r := -B) (t := B) p1 p2 q1 q2 (by omega) (by omega) (by omega) (by omega) (by omega) (by omega) (by omega) (by omega)

theorem mulS_bd {B : Int} (hB : 0 ≤ B) (hB2 : B ≤ 1073741824) {m v : Int × Int} (hm : smI m) (hv : bdI B v) : bdI B (mulI m v) := by
  obtain ⟨m1, m2, m3⟩ := hm
  obtain ⟨v1, v2, v3⟩ := hv
  have a1 := small_mul hB (p := m.1) (q := v.1) m1 (by omega) v1 (by omega)
  have a2 := small_mul hB (p := m.1) (q := v.2) m1 (by omega) (by omega) v3
  have a3 := small_mul hB (p := m.2) (q := v.1) (by omega) m3 v1 (by omega)
  have a4 := small_mul hB (p := m.2) (q := v.2) (by omega) m3 (by omega) v3
  unfold mulI mn4 mx4
  rw [vld_mk (x := m) (by omega) m2 (by omega), vld_mk (x := v) (by omega) v2 (by omega), Bool.and_self, cond_true]
  generalize m.1 * v.1 = p1 at *
  generalize m.1 * v.2 = p2 at *
  generalize m.2 * v.1 = p3 at *
  generalize m.2 * v.2 = p4 at *
  rw [lim_in (by omega) (by omega), lim_in (by omega) (by omega)]
  exact ⟨by dsimp only; omega, by dsimp only; omega, by dsimp only; omega⟩

theorem dot_bd {B : Int} (hB : 0 ≤ B) (hB2 : B ≤ 536870912) {m v : V3} (hm : smV m) (hv : bdV B v) : bdI (B + B + B) (dotI m v) :=
  add_bd (add_bd (mulS_bd hB (by omega) hm.1 hv.1) (mulS_bd hB (by omega) hm.2.1 hv.2.1) (by omega)) (mulS_bd hB (by omega) hm.2.2 hv.2.2) (by omega)
theorem apply_bd {B : Int} (hB : 0 ≤ B) (hB2 : B ≤ 536870912) {m : M3} {v : V3} (hm : smM m) (hv : bdV B v) : bdV (B + B + B) (applyM m v) :=
  ⟨dot_bd hB hB2 hm.1 hv, dot_bd hB hB2 hm.2.1 hv, dot_bd hB hB2 hm.2.2 hv⟩
theorem addV_bd {A B : Int} {u v : V3} (hu : bdV A u) (hv : bdV B v) (hAB : A + B ≤ 2147483648) : bdV (A + B) (addV u v) :=
  ⟨add_bd hu.1 hv.1 hAB, add_bd hu.2.1 hv.2.1 hAB, add_bd hu.2.2 hv.2.2 hAB⟩
theorem point_bd {t : E3} {B : Int} (h : bdE t B) (hB : B ≤ 1073741824) : bdV B (pointV t) := by
  rw [pt_point h (by omega)]
  obtain ⟨⟨p1, p2⟩, ⟨p3, p4⟩, ⟨p5, p6⟩⟩ := h
  exact ⟨⟨p1, Int.le_refl _, p2⟩, ⟨p3, Int.le_refl _, p4⟩, ⟨p5, Int.le_refl _, p6⟩⟩

/-- A pose that lies near. -/
def bdP (B : Int) (p : P4) : Prop := smM p.1 ∧ bdV B p.2

theorem zero_bd {B : Int} (hB : 0 ≤ B) : bdV B zeroV := ⟨⟨by show -B ≤ 0; omega, Int.le_refl _, hB⟩, ⟨by show -B ≤ 0; omega, Int.le_refl _, hB⟩, ⟨by show -B ≤ 0; omega, Int.le_refl _, hB⟩⟩
theorem move_bd (k : Int) {v : Int × Int} (h : bdI 131072 v) : bdP 131072 (moveP k v) := by
  unfold moveP
  have z : bdI 131072 (0, 0) := ⟨by decide, by decide, by decide⟩
  have hz : bdV 131072 zeroV := zero_bd (by decide)
  cases decide (k = 1) with
  | true => exact ⟨sm_turn _ _, hz⟩
  | false =>
  cases decide (k = 2) with
  | true => exact ⟨sm_turn _ _, hz⟩
  | false =>
  cases decide (k = 3) with
  | true => exact ⟨sm_turn _ _, hz⟩
  | false =>
  cases decide (k = 4) with
  | true => exact ⟨sm_unit, h, z, z⟩
  | false =>
  cases decide (k = 5) with
  | true => exact ⟨sm_unit, z, h, z⟩
  | false =>
  cases decide (k = 6) with
  | true => exact ⟨sm_unit, z, z, h⟩
  | false => exact ⟨sm_unit, hz⟩

theorem comp_bd {A B : Int} (hB : 0 ≤ B) (hB2 : B ≤ 536870912) (hAB : A + (B + B + B) ≤ 2147483648) {p q : P4} (hp : bdP A p) (hq : bdP B q) : bdP (A + (B + B + B)) (compP p q) :=
  ⟨sm_comp _ _, addV_bd hp.2 (apply_bd hB hB2 hp.1 hq.2) hAB⟩

theorem joint_bd {j : DJoint} {v : Int × Int} (ho : bdE j.2.2.2.1 131072) (hv : bdI 131072 v) : bdP 524288 (jointP j v) :=
  comp_bd (A := 131072) (B := 131072) (by decide) (by decide) (by decide) ⟨sm_unit, point_bd ho (by decide)⟩ (move_bd _ hv)

theorem links_bd {r : DRobot} (hr : goodR r) {b : List (Int × Int)} (hb : ∀ i, i < r.1.length → bdI 131072 (b.getD i dB)) (hp : parentsOk r) :
    ∀ n, n ≤ r.1.length → ∀ k, k < n → bdP (524288 + 1572864 * (k : Int)) ((linksN r b n).getD k dP)
  | 0, _, k, hk => by omega
  | n + 1, hn, k, hk => by
    have ih := links_bd hr hb hp n (by omega)
    have la := linksN_len r b n
    have h3 := hr.2.1
    rw [show linksN r b (n + 1) = linksN r b n ++ [nextP r b (linksN r b n) n] from rfl]
    by_cases hk' : k < n
    · rw [getD_snoc_lt (by omega)]; exact ih k hk'
    · rw [getD_snoc_eq (by omega), show k = n by omega]
      unfold nextP
      have hjj := (hr.1 n (r.1.getD n dJ) (getD_get (by omega))).1
      have hj := joint_bd (j := r.1.getD n dJ) hjj.2.2.2.1 (hb n (by omega))
      rcases hp n (by omega) with hw | ⟨h1, h2⟩
      · rw [dT hw]; exact ⟨hj.1, bdV_mono hj.2 (by omega)⟩
      · rw [dF (show ¬ parentJ (r.1.getD n dJ) = -1 by omega)]
        have hpar := ih (parentJ (r.1.getD n dJ)).toNat (by omega)
        have hc := comp_bd (A := 524288 + 1572864 * (((parentJ (r.1.getD n dJ)).toNat : Nat) : Int)) (B := 524288) (by decide) (by decide) (by omega) hpar hj
        exact ⟨hc.1, bdV_mono hc.2 (by omega)⟩

theorem reached_ok {v : V3} (h : bdV 268435456 v) : armplanref10_reached v = true := by
  obtain ⟨⟨a1, a2, a3⟩, ⟨b1, b2, b3⟩, ⟨c1, c2, c3⟩⟩ := h
  unfold armplanref10_reached t_armplanref10_reached
  simp only [Tr.val, dF (show ¬ v.1.1 < -268435456 by omega), dF (show ¬ v.1.2 < v.1.1 by omega), dF (show ¬ 268435456 < v.1.2 by omega), dF (show ¬ v.2.1.1 < -268435456 by omega), dF (show ¬ v.2.1.2 < v.2.1.1 by omega), dF (show ¬ 268435456 < v.2.1.2 by omega),
    dF (show ¬ v.2.2.1 < -268435456 by omega), dF (show ¬ v.2.2.2 < v.2.2.1 by omega), dF (show ¬ 268435456 < v.2.2.2 by omega), cond_false]

theorem placed_ok {l : List DIVec} (h1 : 1 ≤ l.length) (h2 : l.length ≤ 8) (h : ∀ i, i < l.length → bdV 268435456 (l.getD i (Ty.dflt TIVec))) : dom_armplanref10_Placed l = true ∧ armplanref10_Placed l = true := by
  have key : dom_armplanref10_Placed_L0 ((l, ()), (0, ()), ()) = true ∧ val_armplanref10_Placed_L0 ((l, ()), (0, ()), ()) = .inl ((l, ()), ()) := by
    unfold dom_armplanref10_Placed_L0 val_armplanref10_Placed_L0
    refine loop_to (step := step_armplanref10_Placed_L0) (fun i => ((l, ()), ((i : Int), ()), ())) _ l.length (by omega) (fun i hi => ?_) ?_
    · have e : IntKind.wrap .i64 ((i : Int) + 1) = ((i + 1 : Nat) : Int) := wrap_succ (by omega)
      unfold step_armplanref10_Placed_L0 t_armplanref10_Placed_L0
      simp only [Tr.optA, dT (show (i : Int) < (l.length : Int) by omega), dT (show (i : Int) ≤ 8 by omega), dT (show 0 ≤ (i : Int) by omega), Int.toNat_natCast, reached_ok (h i hi), e, Bool.not_true, Bool.and_self, cond_true, cond_false, id]
    · unfold step_armplanref10_Placed_L0 t_armplanref10_Placed_L0
      simp only [Tr.optA, dF (show ¬ ((l.length : Int) < (l.length : Int)) by omega), cond_false, id]
  unfold dom_armplanref10_Placed armplanref10_Placed t_armplanref10_Placed
  simp only [Tr.dom, Tr.ok, Tr.val, key.1, key.2, dT (show 1 ≤ ((l.length : Nat) : Int) by omega), dT (show ((l.length : Nat) : Int) ≤ 8 by omega), cond_true, isL, getL]
  exact ⟨by first | trivial | rfl, by first | trivial | rfl⟩

theorem goodB_bd {r : DRobot} (hr : goodR r) {b : List (Int × Int)} (h : goodB r.1 b) {i : Nat} (hi : i < r.1.length) : bdI 131072 (b.getD i dB) := by
  have h1 := h.2 i hi
  have h2 := (hr.1 i (r.1.getD i dJ) (getD_get hi)).1
  obtain ⟨_, _, _, _, ⟨l1, l2, l3, l4⟩, _⟩ := h2
  obtain ⟨i1, i2, i3⟩ := h1
  unfold loJ at i1
  unfold hiJ at i3
  exact ⟨by omega, i2, by omega⟩

theorem scene_bd {s : DScene} (hg : goodC s) {b : List (Int × Int)} (hb : ∀ i, i < s.1.1.length → bdI 131072 (b.getD i dB)) {i : Nat} (hi : i < s.2.1.length) :
    (pointsOf (linksN s.1 b s.1.1.length) (s.2.1.getD i dS)).length = (s.2.1.getD i dS).2.2.length ∧ ∀ k, k < (s.2.1.getD i dS).2.2.length → bdV 268435456 ((pointsOf (linksN s.1 b s.1.1.length) (s.2.1.getD i dS)).getD k (Ty.dflt TIVec)) := by
  have hr := good_robot hg.1
  have hsc := good_scene hg
  obtain ⟨s0, s1, s2, _⟩ := scene_ok0 hsc
  obtain ⟨k1, k2⟩ := shape_link (s2 i hi)
  have hm : s.2.1.getD i dS ∈ s.2.1 := by rw [List.getD_eq_getElem?_getD, List.getElem?_eq_getElem hi]; exact List.getElem_mem hi
  have hs := hg.2.1 _ hm
  have h3 := hg.1.2.1
  have hl := links_bd hg.1 hb (parents_ok hr) s.1.1.length (Nat.le_refl _)
  unfold pointsOf placeL
  rw [k2]
  simp only [Bool.not_true, cond_false, List.length_map]
  refine ⟨trivial, fun k hk => ?_⟩
  rw [map_getD _ _ (Ty.dflt TVec) _ hk]
  have hv : bdE ((s.2.1.getD i dS).2.2.getD k (Ty.dflt TVec)) 393216 := hs.2.2.1 _ (getD_mem hk)
  have hpt := point_bd hv (by decide)
  unfold linkB at k1
  rw [Bool.and_eq_true, decide_eq_true_eq, decide_eq_true_eq] at k1
  have key : ∀ p : P4, bdP 10000000 p → bdV 268435456 (apP p (pointV ((s.2.1.getD i dS).2.2.getD k (Ty.dflt TVec)))) := fun p hp =>
    bdV_mono (addV_bd hp.2 (apply_bd (B := 393216) (by decide) (by decide) hp.1 hpt) (by decide)) (by decide)
  refine key _ ?_
  by_cases c : (s.2.1.getD i dS).1 = -1
  · rw [dT c]; exact ⟨sm_unit, zero_bd (by decide)⟩
  · rw [dF c]
    have := hl (s.2.1.getD i dS).1.toNat (by omega)
    exact ⟨this.1, bdV_mono this.2 (by omega)⟩

theorem kplaced_law {l m : List Int} (hl : l.length ≤ maxLen) (hm : m.length ≤ maxLen) : dom_armplanlaw11_KinematicsPlaced l m = true ∧ armplanlaw11_KinematicsPlaced l m = true := by
  unfold dom_armplanlaw11_KinematicsPlaced armplanlaw11_KinematicsPlaced t_armplanlaw11_KinematicsPlaced
  obtain ⟨d1, g1⟩ := scene_ok hl
  generalize armplanmake_Scene l = s at *
  obtain ⟨d2, g2⟩ := boxes_ok g1.1 hm
  generalize hB : armplanmake_Box s.1 m = b at *
  have hsc := good_scene g1
  have hbox := goodB_box g1.1 g2
  have e2 : pointsL s b = s.2.1.map (pointsOf (linksN s.1 b s.1.1.length)) := by unfold pointsL; rw [dT hsc, hbox]; rfl
  obtain ⟨s0, s1, s2, _⟩ := scene_ok0 hsc
  have hpt := fun i (hi : i < s.2.1.length) => scene_bd g1 (fun i hi => goodB_bd g1.1 g2 hi) hi
  have m1 : (s.2.1.map (pointsOf (linksN s.1 b s.1.1.length))).length = s.2.1.length := by simp
  have hpl : ∀ i, i < s.2.1.length → dom_armplanref10_Placed ((s.2.1.map (pointsOf (linksN s.1 b s.1.1.length))).getD i (Ty.dflt (.list TIVec))) = true ∧ armplanref10_Placed ((s.2.1.map (pointsOf (linksN s.1 b s.1.1.length))).getD i (Ty.dflt (.list TIVec))) = true := by
    intro i hi
    rw [map_getD _ _ dS _ hi]
    obtain ⟨q1, q2⟩ := hpt i hi
    have := shapeB_len (shape_link (s2 i hi)).2
    exact placed_ok (by omega) (by omega) fun k hk => q2 k (by omega)
  generalize s.2.1.map (pointsOf (linksN s.1 b s.1.1.length)) = x at *
  have key : dom_armplanlaw11_KinematicsPlaced_L0 ((x, ()), (0, ()), ()) = true ∧ val_armplanlaw11_KinematicsPlaced_L0 ((x, ()), (0, ()), ()) = .inl () := by
    unfold dom_armplanlaw11_KinematicsPlaced_L0 val_armplanlaw11_KinematicsPlaced_L0
    refine loop_to (step := step_armplanlaw11_KinematicsPlaced_L0) (fun i => ((x, ()), ((i : Int), ()), ())) _ x.length (by omega) (fun i hi => ?_) ?_
    · have e : IntKind.wrap .i64 ((i : Int) + 1) = ((i + 1 : Nat) : Int) := wrap_succ (by omega)
      obtain ⟨p1, p2⟩ := hpl i (by omega)
      unfold step_armplanlaw11_KinematicsPlaced_L0 t_armplanlaw11_KinematicsPlaced_L0
      simp only [Tr.optA, dT (show (i : Int) < (x.length : Int) by omega), dT (show 0 ≤ (i : Int) by omega), Int.toNat_natCast, p1, p2, e, Bool.not_true, Bool.and_self, cond_true, cond_false, id]
    · unfold step_armplanlaw11_KinematicsPlaced_L0 t_armplanlaw11_KinematicsPlaced_L0
      simp only [Tr.optA, dF (show ¬ ((x.length : Int) < (x.length : Int)) by omega), cond_false, id]
  simp only [Tr.dom, Tr.ok, Tr.val, d1, d2, hB, (pointsF _ _).1, (pointsF _ _).2, e2, m1, dEq, dT trivial, key.1, key.2, awake11.1, awake11.2, Bool.not_true, cond_true, cond_false, isL, getL]
  exact ⟨by first | trivial | rfl, by first | trivial | rfl⟩

end Go.RX

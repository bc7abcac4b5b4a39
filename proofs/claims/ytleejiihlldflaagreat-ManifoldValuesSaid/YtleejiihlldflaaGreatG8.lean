/-
  What is made out of sources: joints, robots, scenes, boxes; loops by invariants.
-/
import Derived.Test.YtleejiihlldflaaGreatG4
import Derived.Test.YtleejiihlldflaaGreatG7
import Derived.Test.YtleejiihlldflaaGreatG5
namespace Go.RX
open Go

/-- A loop by a measure and an invariant. -/
theorem loop_run {X Y : Type} (step : X → Option (X ⊕ Y)) (I : Nat → X → Prop) (Q : Y → Prop) (h : ∀ n x, I n x → (∃ x' m, step x = some (.inl x') ∧ m < n ∧ I m x') ∨ ∃ y, step x = some (.inr y) ∧ Q y) :
    ∀ (k n : Nat) (x : X), I n x → n < k → ∃ y, loopN step k x = some y ∧ Q y
  | 0, n, x, _, hk => by omega
  | k + 1, n, x, hi, hk => by
    simp only [loopN]
    rcases h n x hi with ⟨x', m, hs, hm, hi'⟩ | ⟨y, hs, hq⟩
    · rw [hs]; exact loop_run step I Q h k m x' hi' (by omega)
    · rw [hs]; exact ⟨y, rfl, hq⟩

theorem loop_end {X Y : Type} [Inhabited Y] {step : X → Option (X ⊕ Y)} {x : X} {Q : Y → Prop} (h : ∃ y, loopN step rounds x = some y ∧ Q y) : (loopN step rounds x).isSome = true ∧ Q ((loopN step rounds x).getD default) := by
  obtain ⟨y, h1, h2⟩ := h
  rw [h1]; exact ⟨rfl, h2⟩

abbrev Jt := ByteArray × (Int × (Int × ((Int × (Int × Int)) × (Int × (Int × (Int × (Int × (Int × Int))))))))

/-- Joint i as it is made, but for a fixed one. -/
def goodJ0 (i : Int) (j : Jt) : Prop := j.1 = armplanmake_letter i ∧ (0 ≤ j.2.1 ∧ j.2.1 ≤ 5) ∧ (j.2.2.1 = -1 ∨ j.2.2.1 = i - 1) ∧ bdE j.2.2.2.1 131072 ∧
  (-131072 ≤ j.2.2.2.2.1 ∧ j.2.2.2.2.1 ≤ 0 ∧ 0 ≤ j.2.2.2.2.2.1 ∧ j.2.2.2.2.2.1 ≤ 131072) ∧ (1 ≤ j.2.2.2.2.2.2.1 ∧ j.2.2.2.2.2.2.1 ≤ 4) ∧ j.2.2.2.2.2.2.2.1 = 65536 ∧ (65536 ≤ j.2.2.2.2.2.2.2.2.1 ∧ j.2.2.2.2.2.2.2.2.1 ≤ 65538) ∧ j.2.2.2.2.2.2.2.2.2 = 327680

theorem letter_ok {i : Int} (h1 : 0 ≤ i) (h2 : i ≤ 9) : dom_armplanmake_letter i = true := by
  unfold dom_armplanmake_letter t_armplanmake_letter
  have e : IntKind.wrap .i64 (i + 1) = i + 1 := wrap64 (by omega) (by omega)
  simp only [Tr.dom, Tr.ok, e]
  rw [decide_eq_true h1, decide_eq_true (show i ≤ i + 1 by omega), decide_eq_true (show i + 1 ≤ 10 by omega)]; rfl

theorem kind_tab {r : Int} (h1 : 0 ≤ r) (h2 : r < 8) : 0 ≤ List.getD [3, 3, 1, 2, 4, 5, 3, 0] r.toNat (0 : Int) ∧ List.getD [3, 3, 1, 2, 4, 5, 3, 0] r.toNat (0 : Int) ≤ 5 := by
  have : ∀ n : Nat, n < 8 → 0 ≤ List.getD [3, 3, 1, 2, 4, 5, 3, 0] n (0 : Int) ∧ List.getD [3, 3, 1, 2, 4, 5, 3, 0] n (0 : Int) ≤ 5 := by decide
  exact this r.toNat (by omega)

theorem lim_slide {a b : Int} (a1 : 0 ≤ a) (a2 : a < 3) (b1 : 0 ≤ b) (b2 : b < 4) : IntKind.wrap .i64 (IntKind.wrap .i64 (0 - a) * 65536) = -(a * 65536) ∧ IntKind.wrap .i64 (b * 32768) = b * 32768 := by
  rw [wrap64 (x := 0 - a) (by omega) (by omega), wrap64 (by omega) (by omega), wrap64 (by omega) (by omega)]
  exact ⟨by omega, rfl⟩
theorem lim_turn {a b c : Int} (a1 : 0 ≤ a) (a2 : a < 5) (b1 : 0 ≤ b) (b2 : b < 4) (c1 : 0 ≤ c) (c2 : c < 3) : IntKind.wrap .i64 (Int.tdiv (IntKind.wrap .i64 (IntKind.wrap .i64 (0 - a) * 65536)) 8) = -(a * 8192) ∧
    IntKind.wrap .i64 (IntKind.wrap .i64 (Int.tdiv (IntKind.wrap .i64 (IntKind.wrap .i64 (1 + b) * 65536)) 8) + c) = (1 + b) * 8192 + c := by
  have td : ∀ z : Int, Int.tdiv (z * 65536) 8 = z * 8192 := fun z => by rw [show z * 65536 = 8 * (z * 8192) by omega]; exact Int.mul_tdiv_cancel_left _ (by decide)
  rw [wrap64 (x := 0 - a) (by omega) (by omega), wrap64 (x := (0 - a) * 65536) (by omega) (by omega), td, wrap64 (x := (0 - a) * 8192) (by omega) (by omega),
    wrap64 (x := 1 + b) (by omega) (by omega), wrap64 (x := (1 + b) * 65536) (by omega) (by omega), td, wrap64 (x := (1 + b) * 8192) (by omega) (by omega), wrap64 (by omega) (by omega)]
  exact ⟨by omega, rfl⟩

set_option maxHeartbeats 2000000 in
theorem joint_ok0 {s : List Int × Int} (h : srcOk s) {i : Int} (i1 : 0 ≤ i) (i2 : i ≤ 9) : dom_armplanmake_joint s i = true ∧ srcOk (armplanmake_joint s i).2 ∧ goodJ0 i (armplanmake_joint s i).1 := by
  unfold dom_armplanmake_joint armplanmake_joint t_armplanmake_joint
  have hl := letter_ok i1 i2
  obtain ⟨d3, o3, a3, b3⟩ := next_ok h (k := 4) (by omega) (by omega)
  generalize hr3 : armplanmake_Source_Next s 4 = r3 at *
  obtain ⟨d5, o5, a5, b5⟩ := next_ok o3 (k := 3) (by omega) (by omega)
  generalize hr5 : armplanmake_Source_Next r3.2 3 = r5 at *
  obtain ⟨d7, o7, a7, b7⟩ := next_ok o5 (k := 8) (by omega) (by omega)
  generalize hr7 : armplanmake_Source_Next r5.2 8 = r7 at *
  obtain ⟨d9, o9, a9, b9⟩ := next_ok o7 (k := 4) (by omega) (by omega)
  generalize hr9 : armplanmake_Source_Next r7.2 4 = r9 at *
  obtain ⟨k1, k2⟩ := kind_tab a7 b7
  generalize hkd : List.getD [3, 3, 1, 2, 4, 5, 3, 0] r7.1.toNat (0 : Int) = kd at *
  obtain ⟨d12, o12, a12, b12⟩ := signed_ok o9 (k := 2) (by omega) (by omega)
  generalize hr12 : armplanmake_Source_Signed r9.2 2 = r12 at *
  obtain ⟨d14, o14, a14, b14⟩ := signed_ok o12 (k := 1) (by omega) (by omega)
  generalize hr14 : armplanmake_Source_Signed r12.2 1 = r14 at *
  obtain ⟨dp1, op1, ap1, bp1⟩ := next_ok o9 (k := 3) (by omega) (by omega)
  generalize hp1 : armplanmake_Source_Next r9.2 3 = p1 at *
  obtain ⟨dp2, op2, ap2, bp2⟩ := next_ok op1 (k := 4) (by omega) (by omega)
  generalize hp2 : armplanmake_Source_Next p1.2 4 = p2 at *
  obtain ⟨dp3, op3, ap3, bp3⟩ := next_ok o9 (k := 5) (by omega) (by omega)
  generalize hp3 : armplanmake_Source_Next r9.2 5 = p3 at *
  obtain ⟨dp4, op4, ap4, bp4⟩ := next_ok op3 (k := 4) (by omega) (by omega)
  generalize hp4 : armplanmake_Source_Next p3.2 4 = p4 at *
  obtain ⟨dp5, op5, ap5, bp5⟩ := next_ok op4 (k := 3) (by omega) (by omega)
  generalize hp5 : armplanmake_Source_Next p4.2 3 = p5 at *
  obtain ⟨dq1, oq1, aq1, bq1⟩ := next_ok o14 (k := 3) (by omega) (by omega)
  generalize hq1 : armplanmake_Source_Next r14.2 3 = q1 at *
  obtain ⟨dq2, oq2, aq2, bq2⟩ := next_ok oq1 (k := 4) (by omega) (by omega)
  generalize hq2 : armplanmake_Source_Next q1.2 4 = q2 at *
  obtain ⟨dq3, oq3, aq3, bq3⟩ := next_ok o14 (k := 5) (by omega) (by omega)
  generalize hq3 : armplanmake_Source_Next r14.2 5 = q3 at *
  obtain ⟨dq4, oq4, aq4, bq4⟩ := next_ok oq3 (k := 4) (by omega) (by omega)
  generalize hq4 : armplanmake_Source_Next q3.2 4 = q4 at *
  obtain ⟨dq5, oq5, aq5, bq5⟩ := next_ok oq4 (k := 3) (by omega) (by omega)
  generalize hq5 : armplanmake_Source_Next q4.2 3 = q5 at *
  obtain ⟨ep1, ep2⟩ := lim_slide ap1 bp1 ap2 bp2
  obtain ⟨ep3, ep4⟩ := lim_turn ap3 bp3 ap4 bp4 ap5 bp5
  obtain ⟨eq1, eq2⟩ := lim_slide aq1 bq1 aq2 bq2
  obtain ⟨eq3, eq4⟩ := lim_turn aq3 bq3 aq4 bq4 aq5 bq5
  have e1 : IntKind.wrap .i64 (i - 1) = i - 1 := wrap64 (by omega) (by omega)
  have e4 : IntKind.wrap .i64 (1 + r3.1) = 1 + r3.1 := wrap64 (by omega) (by omega)
  have e6 : IntKind.wrap .i64 (65536 + r5.1) = 65536 + r5.1 := wrap64 (by omega) (by omega)
  have e13 : IntKind.wrap .i64 (r12.1 * 32768) = r12.1 * 32768 := wrap64 (by omega) (by omega)
  have e15 : IntKind.wrap .i64 (r14.1 * 32768) = r14.1 * 32768 := wrap64 (by omega) (by omega)
  simp only [hr3, hr5, hr7, hr9, hkd, hr12, hr14, hp1, hp2, hp3, hp4, hp5, hq1, hq2, hq3, hq4, hq5, Tr.dom, Tr.ok, Tr.val, hl, d3, d5, d7, d9, d12, d14, dp1, dp2, dp3, dp4, dp5, dq1, dq2, dq3, dq4, dq5, ep1, ep2, ep3, ep4, eq1, eq2, eq3, eq4, e1, e4, e6, e13, e15,
    decide_eq_true a7, decide_eq_true b7, Bool.and_self, cond_true]
  clear hr3 hr5 hr7 hr9 hkd hr12 hr14 hp1 hp2 hp3 hp4 hp5 hq1 hq2 hq3 hq4 hq5
  have off : bdE (131072, (r12.1 * 32768, r14.1 * 32768)) 131072 := ⟨⟨by dsimp only; omega, by dsimp only; omega⟩, ⟨by dsimp only; omega, by dsimp only; omega⟩, ⟨by dsimp only; omega, by dsimp only; omega⟩⟩
  have off0 : bdE (0, (0, 0)) 131072 := ⟨⟨by decide, by decide⟩, ⟨by decide, by decide⟩, ⟨by decide, by decide⟩⟩
  have zz : (-131072 : Int) ≤ 0 ∧ (0 : Int) ≤ 0 ∧ (0 : Int) ≤ 0 ∧ (0 : Int) ≤ 131072 := by decide
  have l1 : -131072 ≤ -(p1.1 * 65536) ∧ -(p1.1 * 65536) ≤ 0 ∧ 0 ≤ p2.1 * 32768 ∧ p2.1 * 32768 ≤ 131072 := by omega
  have l2 : -131072 ≤ -(p3.1 * 8192) ∧ -(p3.1 * 8192) ≤ 0 ∧ 0 ≤ (1 + p4.1) * 8192 + p5.1 ∧ (1 + p4.1) * 8192 + p5.1 ≤ 131072 := by omega
  have l3 : -131072 ≤ -(q1.1 * 65536) ∧ -(q1.1 * 65536) ≤ 0 ∧ 0 ≤ q2.1 * 32768 ∧ q2.1 * 32768 ≤ 131072 := by omega
  have l4 : -131072 ≤ -(q3.1 * 8192) ∧ -(q3.1 * 8192) ≤ 0 ∧ 0 ≤ (1 + q4.1) * 8192 + q5.1 ∧ (1 + q4.1) * 8192 + q5.1 ≤ 131072 := by omega
  have w : 1 ≤ 1 + r3.1 ∧ 1 + r3.1 ≤ 4 := by omega
  have ac : 65536 ≤ 65536 + r5.1 ∧ 65536 + r5.1 ≤ 65538 := by omega
  have go : ∀ {pa : Int} {of : Int × (Int × Int)} {lo hi : Int}, (pa = -1 ∨ pa = i - 1) → bdE of 131072 → (-131072 ≤ lo ∧ lo ≤ 0 ∧ 0 ≤ hi ∧ hi ≤ 131072) →
      goodJ0 i (armplanmake_letter i, (kd, (pa, (of, (lo, (hi, (1 + r3.1, (65536, (65536 + r5.1, 327680))))))))) := fun h1 h2 h3 => ⟨rfl, ⟨k1, k2⟩, h1, h2, h3, w, rfl, ac, rfl⟩
  have pl : (-1 : Int) = -1 ∨ (-1 : Int) = i - 1 := .inl rfl
  have pr : i - 1 = -1 ∨ i - 1 = i - 1 := .inr rfl
  cases decide (r9.1 = 1) <;> cases decide (0 < i) <;> cases decide (kd = 0) <;> cases decide (kd = 4) <;> cases decide (kd = 5) <;> simp only [cond_true, cond_false]
  all_goals
    refine ⟨by first | trivial | rfl, by assumption, ?_⟩
    first | exact go pl off l3 | exact go pl off l4 | exact go pl off zz | exact go pl off0 l1 | exact go pl off0 l2 | exact go pl off0 zz | exact go pr off l3 | exact go pr off l4 | exact go pr off zz | exact go pr off0 l1 | exact go pr off0 l2 | exact go pr off0 zz

/-- A fixed joint does not move. -/
def fixedJ (j : DJoint) : Prop := j.2.1 = 0 → j.2.2.2.2.1 = 0 ∧ j.2.2.2.2.2.1 = 0

/-- What holds at every end of a tree. -/
def _root_.Go.RX.Tr.allP {R : Type} (p : R → Prop) : Tr R → Prop
  | .leaf r => p r
  | .br c a b => (c = true → a.allP p) ∧ (c = false → b.allP p)
  | .fail => True
theorem _root_.Go.RX.Tr.val_all {R : Type} [Inhabited R] {p : R → Prop} (hd : p default) : ∀ t : Tr R, t.allP p → p t.val
  | .leaf _, h => h
  | .br true a _, h => Tr.val_all hd a (h.1 rfl)
  | .br false _ b, h => Tr.val_all hd b (h.2 rfl)
  | .fail, _ => hd

theorem joint_fixed (s : List Int × Int) (i : Int) : fixedJ (armplanmake_joint s i).1 := by
  refine Tr.val_all (p := fun r : DJoint × DSource => fixedJ r.1) (fun _ => ⟨rfl, rfl⟩) (t_armplanmake_joint s i) ?_
  unfold t_armplanmake_joint
  simp only [Tr.allP]
  generalize List.getD [3, 3, 1, 2, 4, 5, 3, 0] _ (0 : Int) = kd
  have hz : ∀ {nm : ByteArray} {pa : Int} {of : DVec} {w1 w2 w3 w4 : Int}, fixedJ (nm, (kd, (pa, (of, (0, (0, (w1, (w2, (w3, w4))))))))) := fun _ => ⟨rfl, rfl⟩
  have hn : ∀ {nm : ByteArray} {pa lo hi : Int} {of : DVec} {w1 w2 w3 w4 : Int}, decide (kd = 0) = false → fixedJ (nm, (kd, (pa, (of, (lo, (hi, (w1, (w2, (w3, w4))))))))) := fun h h0 => absurd h0 (of_decide_eq_false h)
  repeat' (first | exact hz | exact hn (by assumption) | exact trivial | (refine And.intro ?_ ?_) | intro _)

/-- Joint i as it is made. -/
def goodJ (i : Int) (j : DJoint) : Prop := goodJ0 i j ∧ fixedJ j
theorem joint_ok {s : List Int × Int} (h : srcOk s) {i : Int} (i1 : 0 ≤ i) (i2 : i ≤ 9) : dom_armplanmake_joint s i = true ∧ srcOk (armplanmake_joint s i).2 ∧ goodJ i (armplanmake_joint s i).1 :=
  let ⟨a, b, c⟩ := joint_ok0 h i1 i2
  ⟨a, b, c, joint_fixed s i⟩

end Go.RX

/-
  What is made out of sources: robots, points, scenes, boxes.
-/
namespace Go.RX
open Go

def goodL (js : List Jt) : Prop := ∀ (k : Nat) (j : Jt), js[k]? = some j → goodJ k j

theorem goodL_snoc {js : List Jt} {j : Jt} (h : goodL js) (hj : goodJ js.length j) : goodL (js ++ [j]) := by
  intro k x hx
  rw [List.getElem?_append] at hx
  split at hx
  · exact h k x hx
  · have : k - js.length = 0 := by
      rcases Nat.eq_zero_or_pos (k - js.length) with e | e
      · exact e
      · rw [List.getElem?_eq_none (by simp; omega)] at hx; simp at hx
    rw [this] at hx
    simp only [List.getElem?_cons_zero, Option.some.injEq] at hx
    rw [← hx, show k = js.length by omega]; exact hj

theorem room_ok {n : Nat} (h : n ≤ 4294967296) : room n = true := decide_eq_true h

theorem rL0_more {s : List Int × Int} {js : List Jt} {ms : List (Int × (Int × (Int × (Int × Int))))} {n i : Int} (h1 : srcOk s) (i0 : 0 ≤ i) (hi : i < n) (n2 : n ≤ 3) (hl : (js.length : Int) = i) :
    step_armplanmake_robot_L0 ((s, ()), (js, ms, ()), (n, ()), (i, ()), ()) = some (.inl (((armplanmake_joint s i).2, ()), ((js ++ [(armplanmake_joint s i).1]), ms, ()), (n, ()), (i + 1, ()), ())) := by
  obtain ⟨d, o, g⟩ := joint_ok h1 i0 (show i ≤ 9 by omega)
  have hr : room (js.length + [(armplanmake_joint s i).1].length) = true := room_ok (by simp; omega)
  have e : IntKind.wrap .i64 (i + 1) = i + 1 := wrap64 (by omega) (by omega)
  unfold step_armplanmake_robot_L0 t_armplanmake_robot_L0
  simp only [Tr.optA, decide_eq_true hi, d, hr, cond_true, e, id]
theorem rL0_end {s : List Int × Int} {js : List Jt} {ms : List (Int × (Int × (Int × (Int × Int))))} {n i : Int} (hi : ¬ i < n) :
    step_armplanmake_robot_L0 ((s, ()), (js, ms, ()), (n, ()), (i, ()), ()) = some (.inr ((s, ()), (js, ms, ()), (n, ()), ())) := by
  unfold step_armplanmake_robot_L0 t_armplanmake_robot_L0
  simp only [Tr.optA, decide_eq_false hi, cond_false, id]

theorem robotL0 {s : List Int × Int} (hs : srcOk s) {n : Int} (n1 : 1 ≤ n) (n2 : n ≤ 3) :
    dom_armplanmake_robot_L0 ((s, ()), ([], [], ()), (n, ()), (0, ()), ()) = true ∧ ∃ s' js, val_armplanmake_robot_L0 ((s, ()), ([], [], ()), (n, ()), (0, ()), ()) = ((s', ()), (js, [], ()), (n, ()), ()) ∧ srcOk s' ∧ goodL js ∧ (js.length : Int) = n := by
  unfold dom_armplanmake_robot_L0 val_armplanmake_robot_L0
  refine loop_end (Q := fun y : Outs os_armplanmake_robot_L0 => ∃ (s' : List Int × Int) (js : List Jt), y = ((s', ()), (js, [], ()), (n, ()), ()) ∧ srcOk s' ∧ goodL js ∧ (js.length : Int) = n)
    (loop_run step_armplanmake_robot_L0 (fun m x => ∃ (s' : List Int × Int) (js : List Jt) (i : Int), x = ((s', ()), (js, [], ()), (n, ()), (i, ()), ()) ∧ srcOk s' ∧ goodL js ∧ (js.length : Int) = i ∧ 0 ≤ i ∧ i + m = n) _ ?_ rounds n.toNat _ ⟨s, [], 0, rfl, hs, fun k j hj => by simp at hj, rfl, Int.le_refl _, ?_⟩ ?_)
  · rintro m x ⟨s', js, i, rfl, h1, h2, h3, h4, h5⟩
    by_cases hi : i < n
    · have g := (joint_ok h1 h4 (show i ≤ 9 by omega))
      exact .inl ⟨_, m - 1, rL0_more h1 h4 hi n2 h3, by omega, _, _, _, rfl, g.2.1, goodL_snoc h2 (by rw [h3]; exact g.2.2), by simp; omega, by omega, by omega⟩
    · exact .inr ⟨_, rL0_end hi, _, _, rfl, h1, h2, by omega⟩
  · omega
  · unfold rounds; omega

abbrev Ma := Int × (Int × (Int × (Int × Int)))
/-- A mass as it is made. -/
def goodM (n : Int) (x : Ma) : Prop := (0 ≤ x.1 ∧ x.1 < n) ∧ (1 ≤ x.2.1 ∧ x.2.1 ≤ 9000) ∧ bdE x.2.2 131072
def allM (n : Int) (ms : List Ma) : Prop := ∀ x ∈ ms, goodM n x

theorem rL2_more {s : List Int × Int} {js : List Jt} {ms : List Ma} {n i : Int} (h1 : srcOk s) (n1 : 1 ≤ n) (n2 : n ≤ 3) (i0 : 0 < i) (i3 : i ≤ 3) (hl : ms.length ≤ 100) :
    ∃ s' x, srcOk s' ∧ goodM n x ∧ step_armplanmake_robot_L2 ((s, ()), (js, ms, ()), (n, ()), (i, ()), ()) = some (.inl ((s', ()), (js, ms ++ [x], ()), (n, ()), (i - 1, ()), ())) := by
  unfold step_armplanmake_robot_L2 t_armplanmake_robot_L2
  obtain ⟨d1, o1, a1, b1⟩ := next_ok h1 (k := n) (by omega) (by omega)
  generalize hr1 : armplanmake_Source_Next s n = r1 at *
  obtain ⟨d2, o2, a2, b2⟩ := next_ok o1 (k := 9000) (by omega) (by omega)
  generalize hr2 : armplanmake_Source_Next r1.2 9000 = r2 at *
  obtain ⟨d3, o3, a3, b3⟩ := signed_ok o2 (k := 3) (by omega) (by omega)
  generalize hr3 : armplanmake_Source_Signed r2.2 3 = r3 at *
  obtain ⟨d4, o4, a4, b4⟩ := signed_ok o3 (k := 2) (by omega) (by omega)
  generalize hr4 : armplanmake_Source_Signed r3.2 2 = r4 at *
  have e1 : IntKind.wrap .i64 (1 + r2.1) = 1 + r2.1 := wrap64 (by omega) (by omega)
  have e2 : IntKind.wrap .i64 (r3.1 * 32768) = r3.1 * 32768 := wrap64 (by omega) (by omega)
  have e3 : IntKind.wrap .i64 (r4.1 * 32768) = r4.1 * 32768 := wrap64 (by omega) (by omega)
  have e4 : IntKind.wrap .i64 (i - 1) = i - 1 := wrap64 (by omega) (by omega)
  have hr : room (ms.length + 1) = true := room_ok (by omega)
  refine ⟨r4.2, (r1.1, (1 + r2.1, (r3.1 * 32768, (0, r4.1 * 32768)))), o4, ⟨⟨a1, b1⟩, ⟨by dsimp only; omega, by dsimp only; omega⟩, ⟨⟨by dsimp only; omega, by dsimp only; omega⟩, ⟨by dsimp only; omega, by dsimp only; omega⟩, ⟨by dsimp only; omega, by dsimp only; omega⟩⟩⟩, ?_⟩
  simp only [Tr.optA, decide_eq_true i0, hr2, hr3, hr4, d1, d2, d3, d4, List.length_singleton, hr, e1, e2, e3, e4, cond_true, id]
theorem rL2_end {s : List Int × Int} {js : List Jt} {ms : List Ma} {n i : Int} (hi : ¬ 0 < i) :
    step_armplanmake_robot_L2 ((s, ()), (js, ms, ()), (n, ()), (i, ()), ()) = some (.inr ((s, ()), (js, ms, ()), ())) := by
  unfold step_armplanmake_robot_L2 t_armplanmake_robot_L2
  simp only [Tr.optA, decide_eq_false hi, cond_false, id]

theorem robotL2 {s : List Int × Int} (hs : srcOk s) (js : List Jt) {n : Int} (n1 : 1 ≤ n) (n2 : n ≤ 3) {k : Int} (k1 : 0 ≤ k) (k2 : k ≤ 2) :
    dom_armplanmake_robot_L2 ((s, ()), (js, [], ()), (n, ()), (k, ()), ()) = true ∧ ∃ s' ms, val_armplanmake_robot_L2 ((s, ()), (js, [], ()), (n, ()), (k, ()), ()) = ((s', ()), (js, ms, ()), ()) ∧ srcOk s' ∧ allM n ms ∧ ms.length ≤ 2 := by
  unfold dom_armplanmake_robot_L2 val_armplanmake_robot_L2
  refine loop_end (Q := fun y : Outs os_armplanmake_robot_L2 => ∃ (s' : List Int × Int) (ms : List Ma), y = ((s', ()), (js, ms, ()), ()) ∧ srcOk s' ∧ allM n ms ∧ ms.length ≤ 2)
    (loop_run step_armplanmake_robot_L2 (fun m x => ∃ (s' : List Int × Int) (ms : List Ma) (i : Int), x = ((s', ()), (js, ms, ()), (n, ()), (i, ()), ()) ∧ srcOk s' ∧ allM n ms ∧ ms.length + m ≤ 2 ∧ 0 ≤ i ∧ i = m) _ ?_ rounds k.toNat _ ⟨s, [], k, rfl, hs, fun x hx => by simp at hx, by simp; omega, k1, by omega⟩ ?_)
  · rintro m x ⟨s', ms, i, rfl, h1, h2, h3, h4, h5⟩
    by_cases hi : 0 < i
    · obtain ⟨s2, y, o, g, e⟩ := rL2_more (js := js) (ms := ms) h1 n1 n2 hi (by omega) (by omega)
      exact .inl ⟨_, m - 1, e, by omega, _, _, _, rfl, o, fun z hz => by
        simp only [List.mem_append, List.mem_singleton] at hz
        exact hz.elim (h2 z) (fun e => by rw [e]; exact g), by simp; omega, by omega, by omega⟩
    · exact .inr ⟨_, rL2_end hi, _, _, rfl, h1, h2, by omega⟩
  · unfold rounds; omega

/-- A robot as it is made. -/
def goodR (r : List Jt × List Ma) : Prop := goodL r.1 ∧ (1 ≤ r.1.length ∧ r.1.length ≤ 3) ∧ allM r.1.length r.2 ∧ r.2.length ≤ 2

theorem robot_ok {s : List Int × Int} (hs : srcOk s) : dom_armplanmake_robot s = true ∧ srcOk (armplanmake_robot s).2 ∧ goodR (armplanmake_robot s).1 := by
  unfold dom_armplanmake_robot armplanmake_robot t_armplanmake_robot
  obtain ⟨d1, o1, a1, b1⟩ := next_ok hs (k := 3) (by omega) (by omega)
  generalize hr1 : armplanmake_Source_Next s 3 = r1 at *
  have e1 : IntKind.wrap .i64 (1 + r1.1) = 1 + r1.1 := wrap64 (by omega) (by omega)
  obtain ⟨d2, s2, js, e2, o2, g2, l2⟩ := robotL0 o1 (n := 1 + r1.1) (by omega) (by omega)
  obtain ⟨d3, o3, a3, b3⟩ := next_ok o2 (k := 3) (by omega) (by omega)
  generalize hr3 : armplanmake_Source_Next s2 3 = r3 at *
  obtain ⟨d4, s4, ms, e4, o4, g4, l4⟩ := robotL2 o3 js (n := 1 + r1.1) (by omega) (by omega) (k := r3.1) a3 (by omega)
  simp only [Tr.dom, Tr.ok, Tr.val, e1, e2, d1, d2, hr3, d3, d4, e4, cond_true]
  exact ⟨by first | trivial | rfl, o4, g2, (show 1 ≤ js.length ∧ js.length ≤ 3 by omega), (show allM (js.length : Int) ms by rw [l2]; exact g4), l4⟩

end Go.RX

/-
  What is made out of sources: scenes, boxes.
-/
namespace Go.RX
open Go

end Go.RX

/-
  What is made out of sources: boxes.
-/
namespace Go.RX
open Go

abbrev loJ (j : Jt) : Int := j.2.2.2.2.1
abbrev hiJ (j : Jt) : Int := j.2.2.2.2.2.1
def inJ (j : Jt) (b : Int × Int) : Prop := loJ j ≤ b.1 ∧ b.1 ≤ b.2 ∧ b.2 ≤ hiJ j

theorem getJ {js : List Jt} (h : goodL js) {i : Int} (i0 : 0 ≤ i) (hi : i < (js.length : Int)) (d : Jt) : goodJ i (List.getD js i.toNat d) := by
  have hk : i.toNat < js.length := by omega
  have e : js[i.toNat]? = some (List.getD js i.toNat d) := by rw [List.getD_eq_getElem?_getD, List.getElem?_eq_getElem hk]; rfl
  have := h _ _ e
  rwa [show ((i.toNat : Nat) : Int) = i by omega] at this

theorem box_more {s : List Int × Int} {r : List Jt × List Ma} {bs : List (Int × Int)} {i : Int} (h1 : srcOk s) (hr : goodL r.1) (i0 : 0 ≤ i) (hi : i < (r.1.length : Int)) (i3 : i ≤ 100) (hl : bs.length ≤ 100) :
    ∃ s' b, srcOk s' ∧ inJ (List.getD r.1 i.toNat (Ty.dflt (.pair (.str) (.pair (.int .i64) (.pair (.int .i64) (.pair (.pair (.int .i64) (.pair (.int .i64) (.int .i64))) (.pair (.int .i64) (.pair (.int .i64) (.pair (.int .i64) (.pair (.int .i64) (.pair (.int .i64) (.int .i64)))))))))))) b ∧
      step_armplanmake_Box_L0 ((r, ()), (s, ()), (bs, ()), (i, ()), ()) = some (.inl ((r, ()), (s', ()), (bs ++ [b], ()), (i + 1, ()), ())) := by
  unfold step_armplanmake_Box_L0 t_armplanmake_Box_L0
  have gj := getJ hr i0 hi (Ty.dflt (.pair (.str) (.pair (.int .i64) (.pair (.int .i64) (.pair (.pair (.int .i64) (.pair (.int .i64) (.int .i64))) (.pair (.int .i64) (.pair (.int .i64) (.pair (.int .i64) (.pair (.int .i64) (.pair (.int .i64) (.int .i64)))))))))))
  generalize hj : List.getD r.1 i.toNat (Ty.dflt (.pair (.str) (.pair (.int .i64) (.pair (.int .i64) (.pair (.pair (.int .i64) (.pair (.int .i64) (.int .i64))) (.pair (.int .i64) (.pair (.int .i64) (.pair (.int .i64) (.pair (.int .i64) (.pair (.int .i64) (.int .i64))))))))))) = j at *
  obtain ⟨⟨_, _, _, _, ⟨l1, l2, l3, l4⟩, _⟩, _⟩ := gj
  have g0 : decide (0 ≤ i) = true := decide_eq_true i0
  have g1 : decide (i < ((r.1.length : Nat) : Int)) = true := decide_eq_true hi
  have e1 : IntKind.wrap .i64 (hiJ j - loJ j) = hiJ j - loJ j := wrap64 (by unfold hiJ loJ; omega) (by unfold hiJ loJ; omega)
  have e2 : IntKind.wrap .i64 (hiJ j - loJ j + 1) = hiJ j - loJ j + 1 := wrap64 (by unfold hiJ loJ; omega) (by unfold hiJ loJ; omega)
  obtain ⟨d4, o4, a4, b4⟩ := next_ok h1 (k := hiJ j - loJ j + 1) (by unfold hiJ loJ; omega) (by unfold hiJ loJ; omega)
  generalize hr4 : armplanmake_Source_Next s (hiJ j - loJ j + 1) = r4 at *
  have e5 : IntKind.wrap .i64 (loJ j + r4.1) = loJ j + r4.1 := wrap64 (by unfold hiJ loJ at *; omega) (by unfold hiJ loJ at *; omega)
  obtain ⟨d6, o6, a6, b6⟩ := next_ok o4 (k := 5) (by omega) (by omega)
  generalize hr6 : armplanmake_Source_Next r4.2 5 = r6 at *
  obtain ⟨d7, o7, a7, b7⟩ := next_ok o6 (k := 3000) (by omega) (by omega)
  generalize hr7 : armplanmake_Source_Next r6.2 3000 = r7 at *
  obtain ⟨d8, o8, a8, b8⟩ := next_ok o6 (k := 200) (by omega) (by omega)
  generalize hr8 : armplanmake_Source_Next r6.2 200 = r8 at *
  have e9 : IntKind.wrap .i64 (i + 1) = i + 1 := wrap64 (by omega) (by omega)
  have hrm : room (bs.length + 1) = true := room_ok (by omega)
  unfold inJ
  have key : ∀ w : Int, 0 ≤ w → w ≤ 300000 → IntKind.wrap .i64 (loJ j + r4.1 + w) = loJ j + r4.1 + w ∧
      loJ j ≤ loJ j + r4.1 ∧ loJ j + r4.1 ≤ (if loJ j + r4.1 + w < hiJ j then loJ j + r4.1 + w else hiJ j) ∧ (if loJ j + r4.1 + w < hiJ j then loJ j + r4.1 + w else hiJ j) ≤ hiJ j := by
    intro w w1 w2
    refine ⟨wrap64 (by unfold hiJ loJ at *; omega) (by unfold hiJ loJ at *; omega), by omega, ?_, ?_⟩ <;> split <;> omega
  obtain ⟨k1, f1⟩ := key (hiJ j - loJ j) (by unfold hiJ loJ; omega) (by unfold hiJ loJ; omega)
  obtain ⟨k2, f2⟩ := key r7.1 a7 (by omega)
  obtain ⟨k3, f3⟩ := key r8.1 a8 (by omega)
  obtain ⟨k4, f4⟩ := key 0 (by decide) (by decide)
  simp only [Tr.optA, g0, g1, hj, e1, e2, d4, hr4, e5, d6, hr6, d7, hr7, d8, hr8, e9, k1, k2, k3, k4, List.length_singleton, hrm, Bool.and_self, cond_true, id]
  cases decide (r6.1 = 0) <;> cases decide (r6.1 = 1) <;> cases decide (r6.1 = 2) <;> cases decide (r6.1 = 3) <;> simp only [cond_true, cond_false]
  all_goals first
    | exact ⟨_, _, o6, f1, rfl⟩
    | exact ⟨_, _, o7, f2, rfl⟩
    | exact ⟨_, _, o8, f3, rfl⟩
    | exact ⟨_, _, o6, f4, rfl⟩

end Go.RX

/-
  Loops by the index of a list; names; the checks of joints and robots: program and reference are one.
-/
namespace Go.RX
open Go

theorem dT {p : Prop} (h : p) (i : Decidable p) : @decide p i = true := @decide_eq_true p i h
theorem dF {p : Prop} (h : ¬p) (i : Decidable p) : @decide p i = false := @decide_eq_false p i h

/-- The first thing found from i on, among n. -/
def firstS {Y : Type} (ex : Nat → Option Y) (e : Y) : Nat → Nat → Y
  | _, 0 => e
  | i, n + 1 => match ex i with
    | some y => y
    | none => firstS ex e (i + 1) n

theorem loop_scan {X Y : Type} {step : X → Option (X ⊕ Y)} (f : Nat → X) (ex : Nat → Option Y) (e : Y) (N : Nat)
    (hmore : ∀ i, i < N → step (f i) = some (match ex i with
      | some y => .inr y
      | none => .inl (f (i + 1)))) (hend : step (f N) = some (.inr e)) : ∀ (n i k : Nat), i + n = N → n < k → loopN step k (f i) = some (firstS ex e i n)
  | _, _, 0, _, h => by omega
  | 0, i, k + 1, h1, _ => by
    have : i = N := by omega
    simp only [loopN, this, hend, firstS]
  | n + 1, i, k + 1, h1, h2 => by
    simp only [loopN, hmore i (by omega), firstS]
    cases ex i with
    | some y => rfl
    | none => exact loop_scan f ex e N hmore hend n (i + 1) k (by omega) (by omega)

theorem scan_end {X Y : Type} [Inhabited Y] {step : X → Option (X ⊕ Y)} {x : X} {y : Y} (h : loopN step rounds x = some y) : (loopN step rounds x).isSome = true ∧ (loopN step rounds x).getD default = y := by
  rw [h]; exact ⟨rfl, rfl⟩

theorem rounds_lt {n : Nat} (h : n < 9223372036854775807) : n < rounds := h

theorem firstS_none {Y : Type} {ex : Nat → Option Y} {e : Y} : ∀ {n i : Nat}, (∀ k, i ≤ k → k < i + n → ex k = none) → firstS ex e i n = e
  | 0, _, _ => rfl
  | n + 1, i, h => by
    rw [firstS, h i (Nat.le_refl _) (by omega)]
    exact firstS_none fun k h1 h2 => h k (by omega) (by omega)

theorem firstS_some {Y : Type} {ex : Nat → Option Y} {e y : Y} {j : Nat} : ∀ {n i : Nat}, i ≤ j → j < i + n → (∀ k, i ≤ k → k < j → ex k = none) → ex j = some y → firstS ex e i n = y
  | 0, _, h1, h2, _, _ => by omega
  | n + 1, i, h1, h2, h3, h4 => by
    rw [firstS]
    rcases Nat.eq_or_lt_of_le h1 with rfl | h
    · rw [h4]
    · rw [h3 i (Nat.le_refl _) h]
      exact firstS_some h (by omega) (fun k a b => h3 k (by omega) b) h4

/-- Either nothing is found, or a first one. -/
theorem firstS_cases {Y : Type} (ex : Nat → Option Y) (e : Y) (n : Nat) : (firstS ex e 0 n = e ∧ ∀ k, k < n → ex k = none) ∨ ∃ j y, j < n ∧ firstS ex e 0 n = y ∧ ex j = some y ∧ ∀ k, k < j → ex k = none := by
  by_cases h : ∃ j, j < n ∧ (ex j).isSome = true
  · obtain ⟨j, hj⟩ := h
    have key : ∀ j, j < n → (ex j).isSome = true → ∃ m, m < n ∧ (ex m).isSome = true ∧ ∀ k, k < m → ex k = none := by
      intro j
      induction j using Nat.strongRecOn with
      | _ j ih =>
        intro h1 h2
        by_cases h3 : ∃ k, k < j ∧ (ex k).isSome = true
        · obtain ⟨k, k1, k2⟩ := h3; exact ih k k1 (by omega) k2
        · refine ⟨j, h1, h2, fun k hk => ?_⟩
          cases hx : ex k with
          | none => rfl
          | some y => exact absurd ⟨k, hk, by rw [hx]; rfl⟩ h3
    obtain ⟨m, m1, m2, m3⟩ := key j hj.1 hj.2
    obtain ⟨y, hy⟩ := Option.isSome_iff_exists.1 m2
    exact .inr ⟨m, y, m1, firstS_some (Nat.zero_le _) (by omega) (fun k _ hk => m3 k hk) hy, hy, m3⟩
  · have hn : ∀ k, k < n → ex k = none := by
      intro k hk
      cases hx : ex k with
      | none => rfl
      | some y => exact absurd ⟨k, hk, by rw [hx]; rfl⟩ h
    exact .inl ⟨firstS_none fun k _ h2 => hn k (by omega), hn⟩

/-- The first number that is not 0. -/
def fe (g : Nat → Int) (n : Nat) : Int := firstS (fun i => if g i = 0 then none else some (g i)) 0 0 n

theorem firstS_fe {Y : Type} (g : Nat → Int) (mk : Int → Y) (e : Y) : ∀ (n i : Nat), firstS (fun i => if g i = 0 then none else some (mk (g i))) e i n =
    if firstS (fun i => if g i = 0 then none else some (g i)) 0 i n = 0 then e else mk (firstS (fun i => if g i = 0 then none else some (g i)) 0 i n)
  | 0, _ => by simp [firstS]
  | n + 1, i => by
    by_cases h : g i = 0
    · simp only [firstS, h, if_true]; exact firstS_fe g mk e n (i + 1)
    · simp only [firstS, h, if_false]

theorem fe_zero {g : Nat → Int} {n : Nat} : fe g n = 0 ↔ ∀ i, i < n → g i = 0 := by
  unfold fe
  rcases firstS_cases (fun i => if g i = 0 then none else some (g i)) 0 n with ⟨h1, h2⟩ | ⟨j, y, h1, h2, h3, h4⟩
  · rw [h1]
    refine ⟨fun _ i hi => ?_, fun _ => rfl⟩
    have := h2 i hi
    split at this
    · assumption
    · simp at this
  · rw [h2]
    split at h3
    · simp at h3
    · rename_i hg
      simp only [Option.some.injEq] at h3
      exact ⟨fun hy => absurd (h3.trans hy) hg, fun h => absurd (h j h1) hg⟩

theorem wrap_succ {i : Nat} (h : i < 4611686018427387904) : IntKind.wrap .i64 ((i : Int) + 1) = ((i + 1 : Nat) : Int) := by
  rw [wrap64 (by omega) (by omega)]; rfl

/- NAMES -/

theorem byteAt_nat (s : ByteArray) (i : Nat) (h : i < s.size) : byteAt s (i : Int) = ((s[i]'h).toNat : Int) := by
  unfold byteAt
  rw [Int.toNat_natCast, List.getD_eq_getElem?_getD]
  have hl : i < s.data.toList.length := by simpa using h
  rw [List.getElem?_eq_getElem hl]
  rfl

theorem nameL0 (s : ByteArray) (hs : s.size ≤ 16) : dom_armplanref6_Name_L0 ((s, ()), (0, ()), ()) = true ∧
    val_armplanref6_Name_L0 ((s, ()), (0, ()), ()) = firstS (fun i => if nameByte i (s.data.toList.getD i 0) then none else some (.inr ((false, ()), ()))) (.inl ()) 0 s.size := by
  unfold dom_armplanref6_Name_L0 val_armplanref6_Name_L0
  refine scan_end (loop_scan (step := step_armplanref6_Name_L0) (fun i => ((s, ()), ((i : Int), ()), ())) _ _ s.size (fun i hi => ?_) ?_ s.size 0 rounds (by omega) (rounds_lt (by omega)))
  · have hb := byteAt_nat s i hi
    have e : IntKind.wrap .i64 ((i : Int) + 1) = ((i + 1 : Nat) : Int) := wrap_succ (by omega)
    have hd : s.data.toList.getD i 0 = s[i]'hi := by
      have hl : i < s.data.toList.length := by simpa using hi
      rw [List.getD_eq_getElem?_getD, List.getElem?_eq_getElem hl]; rfl
    have g1 : decide ((i : Int) < (s.size : Int)) = true := decide_eq_true (by omega)
    have g0 : decide (0 ≤ (i : Int)) = true := decide_eq_true (by omega)
    unfold step_armplanref6_Name_L0 t_armplanref6_Name_L0
    simp only [Tr.optA, g0, g1, hb, e, hd, Bool.and_self, cond_true, id]
    generalize (s[i]'hi) = b
    unfold nameByte
    have d1 : decide (97 ≤ b.toNat) = decide (97 ≤ (b.toNat : Int)) := by rw [decide_eq_decide]; omega
    have d2 : decide (b.toNat ≤ 122) = decide ((b.toNat : Int) ≤ 122) := by rw [decide_eq_decide]; omega
    have d3 : decide (i = 0) = decide ((i : Int) = 0) := by rw [decide_eq_decide]; omega
    have d4 : decide (b.toNat = 95) = decide ((b.toNat : Int) = 95) := by rw [decide_eq_decide]; omega
    have d5 : decide (48 ≤ b.toNat) = !decide ((b.toNat : Int) < 48) := by by_cases h : (b.toNat : Int) < 48 <;> simp only [h, decide_true, decide_false, Bool.not_true, Bool.not_false, decide_eq_true_eq, decide_eq_false_iff_not] <;> omega
    have d6 : decide (b.toNat ≤ 57) = !decide (57 < (b.toNat : Int)) := by by_cases h : 57 < (b.toNat : Int) <;> simp only [h, decide_true, decide_false, Bool.not_true, Bool.not_false, decide_eq_true_eq, decide_eq_false_iff_not] <;> omega
    rw [d1, d2, d3, d4, d5, d6]
    generalize decide (97 ≤ (b.toNat : Int)) = q1
    generalize decide ((b.toNat : Int) ≤ 122) = q2
    generalize decide ((i : Int) = 0) = q3
    generalize decide ((b.toNat : Int) = 95) = q4
    generalize decide ((b.toNat : Int) < 48) = q5
    generalize decide (57 < (b.toNat : Int)) = q6
    cases q1 <;> cases q2 <;> cases q3 <;> cases q4 <;> cases q5 <;> cases q6 <;> rfl
  · unfold step_armplanref6_Name_L0 t_armplanref6_Name_L0
    simp only [Tr.optA, decide_eq_false (show ¬ ((s.size : Int) < (s.size : Int)) by omega), cond_false, id]

theorem nameFrom_get : ∀ {l : List UInt8} {i : Nat}, nameFrom i l = true ↔ ∀ k, k < l.length → nameByte (i + k) (l.getD k 0) = true
  | [], i => by simp [nameFrom]
  | b :: l, i => by
    rw [nameFrom, Bool.and_eq_true, nameFrom_get (l := l)]
    constructor
    · rintro ⟨h1, h2⟩ k hk
      cases k with
      | zero => simpa using h1
      | succ k =>
        have := h2 k (by simpa using hk)
        rw [show i + (k + 1) = i + 1 + k by omega]
        simpa using this
    · intro h
      refine ⟨by simpa using h 0 (by simp), fun k hk => ?_⟩
      have := h (k + 1) (by simp; omega)
      rw [show i + 1 + k = i + (k + 1) by omega]
      simpa using this

theorem name_eq (s : ByteArray) : dom_armplanref6_Name s = true ∧ armplanref6_Name s = token_Name s := by
  unfold dom_armplanref6_Name armplanref6_Name t_armplanref6_Name token_Name
  by_cases c1 : (s.size : Int) < 1
  · have e2 : decide (1 ≤ (s.size : Int)) = false := decide_eq_false (by omega)
    simp only [Tr.dom, Tr.ok, Tr.val, decide_eq_true c1, e2, cond_true, Bool.false_and, Bool.and_false, Bool.and_true, and_self]
    exact ⟨by first | trivial | rfl, by first | trivial | rfl⟩
  · by_cases c2 : 16 < (s.size : Int)
    · have e2 : decide ((s.size : Int) ≤ 16) = false := decide_eq_false (by omega)
      simp only [Tr.dom, Tr.ok, Tr.val, decide_eq_false c1, decide_eq_true c2, e2, cond_true, cond_false, Bool.false_and, Bool.and_false, Bool.and_true]
      exact ⟨by first | trivial | rfl, by first | trivial | rfl⟩
    · have e1 : decide (1 ≤ (s.size : Int)) = true := decide_eq_true (by omega)
      have e2 : decide ((s.size : Int) ≤ 16) = true := decide_eq_true (by omega)
      obtain ⟨d1, v1⟩ := nameL0 s (by omega)
      have hlist : (ByteArray.mk #[119, 111, 114, 108, 100]).toList = [119, 111, 114, 108, 100] := by kernel_rfl
      simp only [Tr.dom, Tr.ok, Tr.val, decide_eq_false c1, decide_eq_false c2, e1, e2, d1, v1, hlist, cond_true, cond_false, Bool.and_true, Bool.true_and]
      have hsz : s.data.toList.length = s.size := by simp
      rcases firstS_cases (fun i => if nameByte i (s.data.toList.getD i 0) then none else some ((.inr ((false, ()), ()) : Outs os_armplanref6_Name_L0))) (.inl ()) s.size with ⟨h1, h2⟩ | ⟨j, y, h1, h2, h3, h4⟩
      · rw [h1]
        have hn : nameFrom 0 s.data.toList = true := nameFrom_get.2 fun k hk => by
          have := h2 k (by omega)
          dsimp only at this
          split at this
          · rename_i h; rw [Nat.zero_add]; exact h
          · simp at this
        rw [hn]
        cases s.toList == [119, 111, 114, 108, 100] <;> exact ⟨rfl, rfl⟩
      · rw [h2]
        dsimp only at h3
        split at h3
        · simp at h3
        · rename_i hb
          simp only [Option.some.injEq] at h3
          have hn : nameFrom 0 s.data.toList = false := by
            cases hf : nameFrom 0 s.data.toList with
            | false => rfl
            | true => have := nameFrom_get.1 hf j (by omega); rw [Nat.zero_add] at this; exact absurd this hb
          rw [hn, ← h3]
          cases s.toList == [119, 111, 114, 108, 100] <;> exact ⟨rfl, rfl⟩

end Go.RX

/-
  The checks of joints, robots and scenes: program and reference are one.
-/
namespace Go.RX
open Go

theorem firstS_congr {Y : Type} {ex ex' : Nat → Option Y} {e : Y} : ∀ {n i : Nat}, (∀ k, i ≤ k → k < i + n → ex k = ex' k) → firstS ex e i n = firstS ex' e i n
  | 0, _, _ => rfl
  | n + 1, i, h => by
    simp only [firstS, h i (Nat.le_refl _) (by omega)]
    rw [firstS_congr (n := n) fun k a b => h k (by omega) (by omega)]

theorem firstS_any {α Y : Type} (p : α → Bool) (d : α) (mk : Nat → Y) (e : Y) (l : List α) :
    (l.any p = false ∧ firstS (fun i => if p (l.getD i d) = true then some (mk i) else none) e 0 l.length = e) ∨
    (l.any p = true ∧ ∃ j, j < l.length ∧ p (l.getD j d) = true ∧ firstS (fun i => if p (l.getD i d) = true then some (mk i) else none) e 0 l.length = mk j) := by
  rcases firstS_cases (fun i => if p (l.getD i d) = true then some (mk i) else none) e l.length with ⟨h1, h2⟩ | ⟨j, y, h1, h2, h3, h4⟩
  · refine .inl ⟨?_, h1⟩
    rw [List.any_eq_false]
    intro x hx
    obtain ⟨k, hk, rfl⟩ := List.getElem_of_mem hx
    have := h2 k hk
    split at this
    · simp at this
    · rename_i hp
      rwa [List.getD_eq_getElem?_getD, List.getElem?_eq_getElem hk] at hp
  · split at h3
    · rename_i hp
      simp only [Option.some.injEq] at h3
      refine .inr ⟨?_, j, h1, hp, h2.trans h3.symm⟩
      rw [List.any_eq_true]
      rw [List.getD_eq_getElem?_getD, List.getElem?_eq_getElem h1] at hp
      exact ⟨_, List.getElem_mem h1, hp⟩
    · simp at h3

theorem firstS_all {α Y : Type} (p : α → Bool) (d : α) (b : Y) (e : Y) (l : List α) :
    firstS (fun i => if p (l.getD i d) = true then none else some b) e 0 l.length = bif l.all p then e else b := by
  have h := firstS_any (fun x => !p x) d (fun _ => b) e l
  have hc : firstS (fun i => if p (l.getD i d) = true then none else some b) e 0 l.length = firstS (fun i => if (!p (l.getD i d)) = true then some b else none) e 0 l.length := by
    refine firstS_congr fun k _ _ => ?_
    cases p (l.getD k d) <;> rfl
  rw [hc]
  have ha : l.all p = !l.any fun x => !p x := by rw [List.all_eq_not_any_not]
  rcases h with ⟨h1, h2⟩ | ⟨h1, j, _, _, h2⟩
  · rw [h2, ha, h1]; rfl
  · rw [h2, ha, h1]; rfl

def nearV (B : Int) (v : DVec) : Bool := decide (-B ≤ v.1) && decide (v.1 ≤ B) && (decide (-B ≤ v.2.1) && decide (v.2.1 ≤ B)) && (decide (-B ≤ v.2.2) && decide (v.2.2 ≤ B))
def btw (a x b : Int) : Bool := decide (a ≤ x) && decide (x ≤ b)

theorem not_lt_dec (a b : Int) : decide (a ≤ b) = !decide (b < a) := by by_cases h : b < a <;> simp only [h, decide_true, decide_false, Bool.not_true, Bool.not_false, decide_eq_true_eq, decide_eq_false_iff_not] <;> omega

theorem rlong_eq (v : DVec) : robot_long v = !nearV 4194304 v := by
  unfold robot_long t_robot_long nearV
  simp only [Tr.val, not_lt_dec]
  cases decide (v.1 < -4194304) <;> cases decide (4194304 < v.1) <;> cases decide (v.2.1 < -4194304) <;> cases decide (4194304 < v.2.1) <;> cases decide (v.2.2 < -4194304) <;> cases decide (4194304 < v.2.2) <;> rfl
theorem near_eq (v : DVec) (B : Int) (h1 : 0 ≤ B) (h2 : B ≤ 1099511627776) : armplanref6_Near v B = nearV B v := by
  unfold armplanref6_Near t_armplanref6_Near nearV
  have e : IntKind.wrap .i64 (0 - B) = -B := by rw [wrap64 (by omega) (by omega)]; omega
  simp only [Tr.val, not_lt_dec, e]
  cases decide (v.1 < -B) <;> cases decide (B < v.1) <;> cases decide (v.2.1 < -B) <;> cases decide (B < v.2.1) <;> cases decide (v.2.2 < -B) <;> cases decide (B < v.2.2) <;> rfl
theorem rbtw_eq (a x b : Int) : robot_between a x b = btw a x b := by
  unfold robot_between t_robot_between btw
  simp only [Tr.val]
  cases decide (a ≤ x) <;> rfl
theorem btw_eq (x a b : Int) : armplanref6_between x a b = btw a x b := by
  unfold armplanref6_between t_armplanref6_between btw
  simp only [Tr.val]
  cases decide (a ≤ x) <;> rfl
theorem reach_eq (k : Int) : armplanref6_reach k = robot_bound k := rfl
theorem bound_le (k : Int) : 0 ≤ robot_bound k ∧ robot_bound k ≤ 4194304 := by
  unfold robot_bound t_robot_bound
  simp only [Tr.val]
  cases decide (k = 0) <;> cases decide (k = 1) <;> cases decide (k = 2) <;> cases decide (k = 3) <;> simp only [cond_true, cond_false] <;> decide

def nameIs (s : ByteArray) (j : DJoint) : Bool := j.1.toList == s.toList

theorem place_ok (l : List DJoint) (s : ByteArray) (hl : l.length ≤ 1000000) : dom_robot_place l s = true ∧ decide (0 ≤ robot_place l s) = l.any (nameIs s) := by
  have key : dom_robot_place_slices_IndexFunc___api_Joint_api_Joint__L0 ((s, ()), (l, ()), (((l.length : Nat) : Int), ()), (0, ()), ()) = true ∧
      val_robot_place_slices_IndexFunc___api_Joint_api_Joint__L0 ((s, ()), (l, ()), (((l.length : Nat) : Int), ()), (0, ()), ()) =
        firstS (fun i => if nameIs s (l.getD i (Ty.dflt TJoint)) = true then some (.inr ((s, ()), ((i : Int), ()), ())) else none) (.inl ((s, ()), ())) 0 l.length := by
    unfold dom_robot_place_slices_IndexFunc___api_Joint_api_Joint__L0 val_robot_place_slices_IndexFunc___api_Joint_api_Joint__L0
    refine scan_end (loop_scan (step := step_robot_place_slices_IndexFunc___api_Joint_api_Joint__L0) (fun i => ((s, ()), (l, ()), (((l.length : Nat) : Int), ()), ((i : Int), ()), ())) _ _ l.length (fun i hi => ?_) ?_ l.length 0 rounds (by omega) (rounds_lt (by omega)))
    · have e : IntKind.wrap .i64 ((i : Int) + 1) = ((i + 1 : Nat) : Int) := wrap_succ (by omega)
      unfold step_robot_place_slices_IndexFunc___api_Joint_api_Joint__L0 t_robot_place_slices_IndexFunc___api_Joint_api_Joint__L0 nameIs
      simp only [Tr.optA, dT (show (i : Int) < (l.length : Int) by omega), dT (show 0 ≤ (i : Int) by omega), e, Int.toNat_natCast, Bool.and_self, cond_true, id]
      cases ((l.getD i (Ty.dflt TJoint)).1.toList == s.toList) <;> rfl
    · unfold step_robot_place_slices_IndexFunc___api_Joint_api_Joint__L0 t_robot_place_slices_IndexFunc___api_Joint_api_Joint__L0
      simp only [Tr.optA, dF (show ¬ ((l.length : Int) < (l.length : Int)) by omega), cond_false, id]
  unfold dom_robot_place robot_place t_robot_place
  simp only [Tr.dom, Tr.ok, Tr.val, key.1, key.2, cond_true]
  rcases firstS_any (Y := Outs os_robot_place_slices_IndexFunc___api_Joint_api_Joint__L0) (nameIs s) (Ty.dflt TJoint) (fun i => .inr ((s, ()), ((i : Int), ()), ())) (.inl ((s, ()), ())) l with ⟨h1, h2⟩ | ⟨h1, j, h3, _, h2⟩
  · rw [h1, h2]; exact ⟨by first | trivial | rfl, rfl⟩
  · rw [h1, h2]
    refine ⟨by first | trivial | rfl, ?_⟩
    exact decide_eq_true (show (0 : Int) ≤ (j : Int) by omega)

/-- The error of joint i. -/
def errJ (js : List DJoint) (i : Nat) : Int :=
  let j := js.getD i (Ty.dflt TJoint)
  let b := robot_bound j.2.1
  bif !token_Name j.1 then 802 else bif (js.take i).any (nameIs j.1) then 802 else bif decide (j.2.1 < 0) then 803 else bif decide (6 < j.2.1) then 803 else
  bif decide (j.2.2.1 < -1) then 804 else bif decide ((i : Int) ≤ j.2.2.1) then 804 else bif !nearV 4194304 j.2.2.2.1 then 805 else
  bif decide (j.2.2.2.2.2.1 < j.2.2.2.2.1) then 806 else bif decide (j.2.2.2.2.1 < -b) then 806 else bif decide (b < j.2.2.2.2.2.1) then 806 else
  bif !btw 1 j.2.2.2.2.2.2.1 1024 then 807 else bif !btw 1 j.2.2.2.2.2.2.2.1 1048576 then 807 else bif !btw 1 j.2.2.2.2.2.2.2.2.1 1048576 then 807 else bif !btw 1 j.2.2.2.2.2.2.2.2.2 1099511627776 then 807 else 0

theorem neg_wrap {b : Int} (h1 : 0 ≤ b) (h2 : b ≤ 1099511627776) : IntKind.wrap .i64 (0 - b) = -b := by rw [wrap64 (by omega) (by omega)]; omega

theorem cjF (js : List DJoint) (i : Nat) (hi : i < js.length) (hl : js.length ≤ 1000000) :
    dom_robot_checkJoint (js.take i) (js.getD i (Ty.dflt TJoint)) = true ∧ robot_checkJoint (js.take i) (js.getD i (Ty.dflt TJoint)) = errJ js i := by
  unfold dom_robot_checkJoint robot_checkJoint t_robot_checkJoint errJ
  generalize js.getD i (Ty.dflt TJoint) = j
  have hlen : (js.take i).length = i := by rw [List.length_take]; omega
  obtain ⟨d1, v1⟩ := place_ok (js.take i) j.1 (by omega)
  obtain ⟨b1, b2⟩ := bound_le j.2.1
  simp only [Tr.dom, Tr.ok, Tr.val, d1, v1, rlong_eq, rbtw_eq, hlen, neg_wrap b1 (by omega), cond_true]
  constructor
  · cases (!token_Name j.1) <;> rfl
  · first | trivial | rfl

theorem cjR (js : List DJoint) (i : Nat) (hi : i < js.length) (hl : js.length ≤ 1000000) :
    dom_armplanref6_checkJoint js (i : Int) = true ∧ armplanref6_checkJoint js (i : Int) = errJ js i := by
  have key : ∀ j : DJoint, dom_armplanref6_checkJoint_L0 ((j, ()), (js, ()), ((i : Int), ()), (0, ()), ()) = true ∧ val_armplanref6_checkJoint_L0 ((j, ()), (js, ()), ((i : Int), ()), (0, ()), ()) =
      bif (js.take i).any (nameIs j.1) then .inr ((j, ()), (802, ()), ()) else .inl ((j, ()), ((i : Int), ()), ()) := by
    intro j
    unfold dom_armplanref6_checkJoint_L0 val_armplanref6_checkJoint_L0
    have hs := loop_scan (step := step_armplanref6_checkJoint_L0) (fun k => ((j, ()), (js, ()), ((i : Int), ()), ((k : Int), ()), ()))
      (fun k => if nameIs j.1 (js.getD k (Ty.dflt TJoint)) = true then some (.inr ((j, ()), (802, ()), ())) else none) (.inl ((j, ()), ((i : Int), ()), ())) i (fun k hk => by
        have e : IntKind.wrap .i64 ((k : Int) + 1) = ((k + 1 : Nat) : Int) := wrap_succ (by omega)
        unfold step_armplanref6_checkJoint_L0 t_armplanref6_checkJoint_L0 nameIs
        simp only [Tr.optA, dT (show (k : Int) < (i : Int) by omega), dT (show (k : Int) < (js.length : Int) by omega), dT (show 0 ≤ (k : Int) by omega), e, Int.toNat_natCast, Bool.and_self, cond_true, id]
        cases ((js.getD k (Ty.dflt TJoint)).1.toList == j.1.toList) <;> rfl) (by
        unfold step_armplanref6_checkJoint_L0 t_armplanref6_checkJoint_L0
        simp only [Tr.optA, dF (show ¬ ((i : Int) < (i : Int)) by omega), cond_false, id]) i 0 rounds (by omega) (rounds_lt (by omega))
    obtain ⟨h1, h2⟩ := scan_end hs
    refine ⟨h1, h2.trans ?_⟩
    have hlen : (js.take i).length = i := by rw [List.length_take]; omega
    have hc := firstS_congr (Y := Outs os_armplanref6_checkJoint_L0) (ex := fun k => if nameIs j.1 (js.getD k (Ty.dflt TJoint)) = true then some (.inr ((j, ()), (802, ()), ())) else none)
      (ex' := fun k => if nameIs j.1 ((js.take i).getD k (Ty.dflt TJoint)) = true then some (.inr ((j, ()), (802, ()), ())) else none) (e := .inl ((j, ()), ((i : Int), ()), ())) (n := i) (i := 0) (fun k _ hk => by
        dsimp only
        have ht : (js.take i)[k]? = js[k]? := by rw [List.getElem?_take]; exact if_pos (by omega)
        rw [List.getD_eq_getElem?_getD, List.getD_eq_getElem?_getD, ht])
    rw [hc]
    have h3 := firstS_any (Y := Outs os_armplanref6_checkJoint_L0) (nameIs j.1) (Ty.dflt TJoint) (fun _ => .inr ((j, ()), (802, ()), ())) (.inl ((j, ()), ((i : Int), ()), ())) (js.take i)
    rw [hlen] at h3
    rcases h3 with ⟨h4, h5⟩ | ⟨h4, _, _, _, h5⟩
    · rw [h4, h5]; rfl
    · rw [h4, h5]; rfl
  unfold dom_armplanref6_checkJoint armplanref6_checkJoint t_armplanref6_checkJoint errJ
  simp only [Int.toNat_natCast]
  obtain ⟨d1, v1⟩ := key (js.getD i (Ty.dflt TJoint))
  obtain ⟨n1, n2⟩ := name_eq (js.getD i (Ty.dflt TJoint)).1
  obtain ⟨b1, b2⟩ := bound_le (js.getD i (Ty.dflt TJoint)).2.1
  simp only [Tr.dom, Tr.ok, Tr.val, dT (show 0 ≤ (i : Int) by omega), dT (show (i : Int) < (js.length : Int) by omega), n1, n2, d1, v1, Bool.and_self, cond_true]
  cases (js.take i).any (nameIs (js.getD i (Ty.dflt TJoint)).1) with
  | true =>
    cases (!token_Name (js.getD i (Ty.dflt TJoint)).1) <;> exact ⟨rfl, rfl⟩
  | false =>
    simp only [cond_false, isL, getL, near_eq _ 4194304 (by decide) (by decide), btw_eq, reach_eq, neg_wrap b1 (show robot_bound (js.getD i (Ty.dflt TJoint)).2.1 ≤ 1099511627776 by omega), cond_true]
    cases (!token_Name (js.getD i (Ty.dflt TJoint)).1) <;> exact ⟨rfl, rfl⟩

/-- Whether a mass is valid for n joints. -/
def massB (n : Int) (x : DMass) : Bool := !decide (x.1 < 0) && !decide (n ≤ x.1) && btw 1 x.2.1 65536 && nearV 4194304 x.2.2

def robotErr (r : DRobot) : Int :=
  bif decide (((r.1.length : Nat) : Int) < 1) then 801 else bif decide (10 < ((r.1.length : Nat) : Int)) then 801 else
  bif !decide (fe (errJ r.1) r.1.length = 0) then fe (errJ r.1) r.1.length else bif decide (32 < ((r.2.length : Nat) : Int)) then 808 else bif r.2.all (massB r.1.length) then 0 else 808

theorem fe_scan {X Y : Type} {step : X → Option (X ⊕ Y)} [Inhabited Y] (f : Nat → X) (g : Nat → Int) (mk : Int → Y) (e : Y) (N : Nat) (hN : N < 9223372036854775807)
    (hmore : ∀ i, i < N → step (f i) = some (if g i = 0 then .inl (f (i + 1)) else .inr (mk (g i)))) (hend : step (f N) = some (.inr e)) :
    (loopN step rounds (f 0)).isSome = true ∧ (loopN step rounds (f 0)).getD default = bif !decide (fe g N = 0) then mk (fe g N) else e := by
  have h := scan_end (loop_scan f (fun i => if g i = 0 then none else some (mk (g i))) e N (fun i hi => by
    rw [hmore i hi]
    by_cases h : g i = 0
    · rw [if_pos h, if_pos h]
    · rw [if_neg h, if_neg h]) hend N 0 rounds (by omega) (rounds_lt hN))
  refine ⟨h.1, h.2.trans ?_⟩
  rw [firstS_fe]
  show (if fe g N = 0 then e else mk (fe g N)) = _
  by_cases h0 : fe g N = 0
  · rw [if_pos h0, decide_eq_true h0]; rfl
  · rw [if_neg h0, decide_eq_false h0]; rfl

theorem all_scan {X Y α : Type} {step : X → Option (X ⊕ Y)} [Inhabited Y] (f : Nat → X) (p : α → Bool) (d : α) (b e : Y) (l : List α) (hN : l.length < 9223372036854775807)
    (hmore : ∀ i, i < l.length → step (f i) = some (bif p (l.getD i d) then .inl (f (i + 1)) else .inr b)) (hend : step (f l.length) = some (.inr e)) :
    (loopN step rounds (f 0)).isSome = true ∧ (loopN step rounds (f 0)).getD default = bif l.all p then e else b := by
  have h := scan_end (loop_scan f (fun i => if p (l.getD i d) = true then none else some b) e l.length (fun i hi => by
    rw [hmore i hi]
    cases p (l.getD i d) <;> rfl) hend l.length 0 rounds (by omega) (rounds_lt hN))
  refine ⟨h.1, h.2.trans ?_⟩
  rw [firstS_all]

theorem fe_dec (x : Int) {A : Type} (a b : A) : (bif !decide (x = 0) then a else b) = if x = 0 then b else a := by
  by_cases h : x = 0
  · rw [if_pos h, decide_eq_true h]; rfl
  · rw [if_neg h, decide_eq_false h]; rfl

theorem robotF (r : DRobot) : dom_robot_Check r = true ∧ robot_Check r = robotErr r := by
  unfold dom_robot_Check robot_Check t_robot_Check robotErr
  by_cases c1 : ((r.1.length : Nat) : Int) < 1
  · simp only [Tr.dom, Tr.ok, Tr.val, dT c1, cond_true, Bool.true_and, Bool.and_false, Bool.false_and, and_true]
    try rfl
  by_cases c2 : 10 < ((r.1.length : Nat) : Int)
  · simp only [Tr.dom, Tr.ok, Tr.val, dF c1, dT c2, cond_true, cond_false, Bool.true_and, Bool.and_false, Bool.false_and, and_true]
    try rfl
  have l0 : dom_robot_Check_L0 ((r, ()), (r.1, ()), (((r.1.length : Nat) : Int), ()), (0, ()), ()) = true ∧ val_robot_Check_L0 ((r, ()), (r.1, ()), (((r.1.length : Nat) : Int), ()), (0, ()), ()) =
      bif !decide (fe (errJ r.1) r.1.length = 0) then .inr ((r, ()), (fe (errJ r.1) r.1.length, ()), ()) else .inl ((r, ()), ()) := by
    unfold dom_robot_Check_L0 val_robot_Check_L0
    refine fe_scan (step := step_robot_Check_L0) (fun i => ((r, ()), (r.1, ()), (((r.1.length : Nat) : Int), ()), ((i : Int), ()), ())) (errJ r.1) (fun x => .inr ((r, ()), (x, ()), ())) _ r.1.length (by omega) (fun i hi => ?_) ?_
    · have e : IntKind.wrap .i64 ((i : Int) + 1) = ((i + 1 : Nat) : Int) := wrap_succ (by omega)
      obtain ⟨d1, v1⟩ := cjF r.1 i hi (by omega)
      unfold step_robot_Check_L0 t_robot_Check_L0
      simp only [Tr.optA, dT (show (i : Int) < (r.1.length : Int) by omega), dT (show (i : Int) ≤ (r.1.length : Int) by omega), dT (show 0 ≤ (i : Int) by omega), e, Int.toNat_natCast, List.drop_zero, d1, v1, Bool.and_self, cond_true, id]
      rw [fe_dec]
      split <;> rfl
    · unfold step_robot_Check_L0 t_robot_Check_L0
      simp only [Tr.optA, dF (show ¬ ((r.1.length : Int) < (r.1.length : Int)) by omega), cond_false, id]
  by_cases c3 : 32 < ((r.2.length : Nat) : Int)
  · skip
    simp only [Tr.dom, Tr.ok, Tr.val, dF c1, dF c2, l0.1, l0.2, cond_true, cond_false]
    cases (!decide (fe (errJ r.1) r.1.length = 0)) with
    | true => exact ⟨rfl, rfl⟩
    | false =>
      simp only [cond_false, isL, getL, dT c3, cond_true]
      exact ⟨by first | trivial | rfl, by first | trivial | rfl⟩
  have l2 : dom_robot_Check_L2 ((r, ()), (r.2, ()), (((r.2.length : Nat) : Int), ()), (0, ()), ()) = true ∧ val_robot_Check_L2 ((r, ()), (r.2, ()), (((r.2.length : Nat) : Int), ()), (0, ()), ()) =
      bif r.2.all (massB r.1.length) then .inl ((r, ()), ()) else .inr ((r, ()), (808, ()), ()) := by
    unfold dom_robot_Check_L2 val_robot_Check_L2
    refine all_scan (step := step_robot_Check_L2) (fun i => ((r, ()), (r.2, ()), (((r.2.length : Nat) : Int), ()), ((i : Int), ()), ())) (massB r.1.length) (Ty.dflt TMass) _ _ r.2 (by omega) (fun i hi => ?_) ?_
    · have e : IntKind.wrap .i64 ((i : Int) + 1) = ((i + 1 : Nat) : Int) := wrap_succ (by omega)
      unfold step_robot_Check_L2 t_robot_Check_L2 massB
      simp only [Tr.optA, dT (show (i : Int) < (r.2.length : Int) by omega), dT (show 0 ≤ (i : Int) by omega), e, Int.toNat_natCast, rlong_eq, rbtw_eq, Bool.and_self, cond_true, id]
      by_cases q1 : (r.2.getD i (Ty.dflt TMass)).1 < 0
      · simp only [dT q1, cond_true, Bool.not_true, Bool.false_and, cond_false]
      by_cases q2 : (r.1.length : Int) ≤ (r.2.getD i (Ty.dflt TMass)).1
      · simp only [dF q1, dT q2, cond_true, Bool.not_true, Bool.not_false, Bool.and_false, Bool.false_and, cond_false]
      cases q3 : btw 1 (r.2.getD i (Ty.dflt TMass)).2.1 65536 <;> cases q4 : nearV 4194304 (r.2.getD i (Ty.dflt TMass)).2.2 <;>
        simp only [dF q1, dF q2, q3, q4, cond_true, Bool.not_true, Bool.not_false, Bool.and_false, Bool.and_true, Bool.and_self, cond_false]
    · unfold step_robot_Check_L2 t_robot_Check_L2
      simp only [Tr.optA, dF (show ¬ ((r.2.length : Int) < (r.2.length : Int)) by omega), cond_false, id]
  simp only [Tr.dom, Tr.ok, Tr.val, dF c1, dF c2, l0.1, l0.2, cond_true, cond_false]
  cases (!decide (fe (errJ r.1) r.1.length = 0)) with
  | true => exact ⟨rfl, rfl⟩
  | false =>
    simp only [cond_false, isL, getL, dF c3, l2.1, l2.2, cond_true]
    cases r.2.all (massB r.1.length) <;> exact ⟨rfl, rfl⟩

theorem robotR (r : DRobot) : dom_armplanref6_CheckRobot r = true ∧ armplanref6_CheckRobot r = robotErr r := by
  unfold dom_armplanref6_CheckRobot armplanref6_CheckRobot t_armplanref6_CheckRobot robotErr
  by_cases c1 : ((r.1.length : Nat) : Int) < 1
  · simp only [Tr.dom, Tr.ok, Tr.val, dT c1, cond_true, Bool.true_and, Bool.and_false, Bool.false_and, and_true]
    try rfl
  by_cases c2 : 10 < ((r.1.length : Nat) : Int)
  · simp only [Tr.dom, Tr.ok, Tr.val, dF c1, dT c2, cond_true, cond_false, Bool.true_and, Bool.and_false, Bool.false_and, and_true]
    try rfl
  have l0 : dom_armplanref6_CheckRobot_L0 ((r, ()), (0, ()), ()) = true ∧ val_armplanref6_CheckRobot_L0 ((r, ()), (0, ()), ()) =
      bif !decide (fe (errJ r.1) r.1.length = 0) then .inr ((r, ()), (fe (errJ r.1) r.1.length, ()), ()) else .inl ((r, ()), ()) := by
    unfold dom_armplanref6_CheckRobot_L0 val_armplanref6_CheckRobot_L0
    refine fe_scan (step := step_armplanref6_CheckRobot_L0) (fun i => ((r, ()), ((i : Int), ()), ())) (errJ r.1) (fun x => .inr ((r, ()), (x, ()), ())) _ r.1.length (by omega) (fun i hi => ?_) ?_
    · have e : IntKind.wrap .i64 ((i : Int) + 1) = ((i + 1 : Nat) : Int) := wrap_succ (by omega)
      obtain ⟨d1, v1⟩ := cjR r.1 i hi (by omega)
      unfold step_armplanref6_CheckRobot_L0 t_armplanref6_CheckRobot_L0
      simp only [Tr.optA, dT (show (i : Int) < (r.1.length : Int) by omega), e, d1, v1, cond_true, id]
      rw [fe_dec]
      split <;> rfl
    · unfold step_armplanref6_CheckRobot_L0 t_armplanref6_CheckRobot_L0
      simp only [Tr.optA, dF (show ¬ ((r.1.length : Int) < (r.1.length : Int)) by omega), cond_false, id]
  by_cases c3 : 32 < ((r.2.length : Nat) : Int)
  · skip
    simp only [Tr.dom, Tr.ok, Tr.val, dF c1, dF c2, l0.1, l0.2, cond_true, cond_false]
    cases (!decide (fe (errJ r.1) r.1.length = 0)) with
    | true => exact ⟨rfl, rfl⟩
    | false =>
      simp only [cond_false, isL, getL, dT c3, cond_true]
      exact ⟨by first | trivial | rfl, by first | trivial | rfl⟩
  have l2 : dom_armplanref6_CheckRobot_L2 ((r, ()), (0, ()), ()) = true ∧ val_armplanref6_CheckRobot_L2 ((r, ()), (0, ()), ()) =
      bif r.2.all (massB r.1.length) then .inl ((r, ()), ()) else .inr ((r, ()), (808, ()), ()) := by
    unfold dom_armplanref6_CheckRobot_L2 val_armplanref6_CheckRobot_L2
    refine all_scan (step := step_armplanref6_CheckRobot_L2) (fun i => ((r, ()), ((i : Int), ()), ())) (massB r.1.length) (Ty.dflt TMass) _ _ r.2 (by omega) (fun i hi => ?_) ?_
    · have e : IntKind.wrap .i64 ((i : Int) + 1) = ((i + 1 : Nat) : Int) := wrap_succ (by omega)
      unfold step_armplanref6_CheckRobot_L2 t_armplanref6_CheckRobot_L2 massB
      simp only [Tr.optA, dT (show (i : Int) < (r.2.length : Int) by omega), dT (show 0 ≤ (i : Int) by omega), e, Int.toNat_natCast, near_eq _ 4194304 (by decide) (by decide), btw_eq, Bool.and_self, cond_true, id]
      by_cases q1 : (r.2.getD i (Ty.dflt TMass)).1 < 0
      · simp only [dT q1, cond_true, Bool.not_true, Bool.false_and, cond_false]
      by_cases q2 : (r.1.length : Int) ≤ (r.2.getD i (Ty.dflt TMass)).1
      · simp only [dF q1, dT q2, cond_true, Bool.not_true, Bool.not_false, Bool.and_false, Bool.false_and, cond_false]
      cases q3 : btw 1 (r.2.getD i (Ty.dflt TMass)).2.1 65536 <;> cases q4 : nearV 4194304 (r.2.getD i (Ty.dflt TMass)).2.2 <;>
        simp only [dF q1, dF q2, q3, q4, cond_true, Bool.not_true, Bool.not_false, Bool.and_false, Bool.and_true, Bool.and_self, cond_false]
    · unfold step_armplanref6_CheckRobot_L2 t_armplanref6_CheckRobot_L2
      simp only [Tr.optA, dF (show ¬ ((r.2.length : Int) < (r.2.length : Int)) by omega), cond_false, id]
  simp only [Tr.dom, Tr.ok, Tr.val, dF c1, dF c2, l0.1, l0.2, cond_true, cond_false]
  cases (!decide (fe (errJ r.1) r.1.length = 0)) with
  | true => exact ⟨rfl, rfl⟩
  | false =>
    simp only [cond_false, isL, getL, dF c3, l2.1, l2.2, cond_true]
    cases r.2.all (massB r.1.length) <;> exact ⟨rfl, rfl⟩

end Go.RX

/-
  The checks of scenes: program and reference are one.
-/
namespace Go.RX
open Go

end Go.RX

/-
  Joints, links and points: program and reference are one.
-/
namespace Go.RX
open Go

/-- The motion of a joint of a kind. -/
def moveP (k : Int) (v : Int × Int) : P4 :=
  bif decide (k = 1) then (turnM 0 v, zeroV) else bif decide (k = 2) then (turnM 1 v, zeroV) else bif decide (k = 3) then (turnM 2 v, zeroV) else
  bif decide (k = 4) then (unitM, (v, ((0, 0), (0, 0)))) else bif decide (k = 5) then (unitM, ((0, 0), (v, (0, 0)))) else bif decide (k = 6) then (unitM, ((0, 0), ((0, 0), v))) else (unitM, zeroV)
def jointP (j : DJoint) (v : Int × Int) : P4 := compP (unitM, pointV j.2.2.2.1) (moveP j.2.1 v)

theorem slide_0 (v : Int × Int) : dom_kinematics_slide 0 v = true ∧ kinematics_slide 0 v = (unitM, (v, ((0, 0), (0, 0)))) := ⟨rfl, shiftF _⟩
theorem slide_1 (v : Int × Int) : dom_kinematics_slide 1 v = true ∧ kinematics_slide 1 v = (unitM, ((0, 0), (v, (0, 0)))) := ⟨rfl, shiftF _⟩
theorem slide_2 (v : Int × Int) : dom_kinematics_slide 2 v = true ∧ kinematics_slide 2 v = (unitM, ((0, 0), ((0, 0), v))) := ⟨rfl, shiftF _⟩

theorem w11 : IntKind.wrap .i64 (1 - 1) = 0 := by decide
theorem w21 : IntKind.wrap .i64 (2 - 1) = 1 := by decide
theorem w31 : IntKind.wrap .i64 (3 - 1) = 2 := by decide
theorem w44 : IntKind.wrap .i64 (4 - 4) = 0 := by decide
theorem w54 : IntKind.wrap .i64 (5 - 4) = 1 := by decide
theorem w64 : IntKind.wrap .i64 (6 - 4) = 2 := by decide

theorem jointF (j : DJoint) (v : Int × Int) : dom_kinematics_Joint j v = true ∧ kinematics_Joint j v = jointP j v := by
  unfold dom_kinematics_Joint kinematics_Joint t_kinematics_Joint jointP moveP
  generalize j.2.2.2.1 = off
  generalize j.2.1 = k
  by_cases h1 : k = 1
  · subst h1
    simp only [Tr.dom, Tr.ok, Tr.val, dT rfl, cond_true, w11, shiftF, turnPF, pointF, compPF]
    exact ⟨by first | trivial | rfl, by first | trivial | rfl⟩
  by_cases h2 : k = 2
  · subst h2
    simp only [Tr.dom, Tr.ok, Tr.val, dF h1, dT rfl, cond_true, cond_false, w21, shiftF, turnPF, pointF, compPF]
    exact ⟨by first | trivial | rfl, by first | trivial | rfl⟩
  by_cases h3 : k = 3
  · subst h3
    simp only [Tr.dom, Tr.ok, Tr.val, dF h1, dF h2, dT rfl, cond_true, cond_false, w31, shiftF, turnPF, pointF, compPF]
    exact ⟨by first | trivial | rfl, by first | trivial | rfl⟩
  by_cases h4 : k = 4
  · subst h4
    simp only [Tr.dom, Tr.ok, Tr.val, dF h1, dF h2, dF h3, dT rfl, cond_true, cond_false, w44, (slide_0 v).1, (slide_0 v).2, shiftF, turnPF, pointF, compPF]
    exact ⟨by first | trivial | rfl, by first | trivial | rfl⟩
  by_cases h5 : k = 5
  · subst h5
    simp only [Tr.dom, Tr.ok, Tr.val, dF h1, dF h2, dF h3, dF h4, dT rfl, cond_true, cond_false, w54, (slide_1 v).1, (slide_1 v).2, shiftF, turnPF, pointF, compPF]
    exact ⟨by first | trivial | rfl, by first | trivial | rfl⟩
  by_cases h6 : k = 6
  · subst h6
    simp only [Tr.dom, Tr.ok, Tr.val, dF h1, dF h2, dF h3, dF h4, dF h5, dT rfl, cond_true, cond_false, w64, (slide_2 v).1, (slide_2 v).2, shiftF, turnPF, pointF, compPF]
    exact ⟨by first | trivial | rfl, by first | trivial | rfl⟩
  · have hr : kinematics_rest 0 v = (unitM, zeroV) := restF
    simp only [Tr.dom, Tr.ok, Tr.val, dF h1, dF h2, dF h3, dF h4, dF h5, dF h6, cond_true, cond_false, hr, shiftF, turnPF, pointF, compPF]
    exact ⟨by first | trivial | rfl, by first | trivial | rfl⟩

theorem jointR (j : DJoint) (v : Int × Int) : dom_armplanref10_Joint j v = true ∧ armplanref10_Joint j v = jointP j v := by
  unfold dom_armplanref10_Joint armplanref10_Joint t_armplanref10_Joint jointP moveP
  generalize j.2.2.2.1 = off
  generalize j.2.1 = k
  have n10 : ¬ (1 : Int) = 0 := by decide
  have n20 : ¬ (2 : Int) = 0 := by decide
  have n21 : ¬ (2 : Int) = 1 := by decide
  by_cases h1 : k = 1
  · subst h1
    simp only [Tr.dom, Tr.ok, Tr.val, dT rfl, cond_true, w11, shiftR, turnPR, pointR, compPR]
    exact ⟨by first | trivial | rfl, by first | trivial | rfl⟩
  by_cases h2 : k = 2
  · subst h2
    simp only [Tr.dom, Tr.ok, Tr.val, dF h1, dT rfl, cond_true, cond_false, w21, shiftR, turnPR, pointR, compPR]
    exact ⟨by first | trivial | rfl, by first | trivial | rfl⟩
  by_cases h3 : k = 3
  · subst h3
    simp only [Tr.dom, Tr.ok, Tr.val, dF h1, dF h2, dT rfl, cond_true, cond_false, w31, shiftR, turnPR, pointR, compPR]
    exact ⟨by first | trivial | rfl, by first | trivial | rfl⟩
  by_cases h4 : k = 4
  · subst h4
    simp only [Tr.dom, Tr.ok, Tr.val, dF h1, dF h2, dF h3, dT rfl, cond_true, cond_false, w44, shiftR, turnPR, pointR, compPR]
    exact ⟨by first | trivial | rfl, by first | trivial | rfl⟩
  by_cases h5 : k = 5
  · subst h5
    simp only [Tr.dom, Tr.ok, Tr.val, dF h1, dF h2, dF h3, dF h4, dT rfl, dF n10, cond_true, cond_false, w54, shiftR, turnPR, pointR, compPR]
    exact ⟨by first | trivial | rfl, by first | trivial | rfl⟩
  by_cases h6 : k = 6
  · subst h6
    simp only [Tr.dom, Tr.ok, Tr.val, dF h1, dF h2, dF h3, dF h4, dF h5, dT rfl, dF n20, dF n21, cond_true, cond_false, w64, shiftR, turnPR, pointR, compPR]
    exact ⟨by first | trivial | rfl, by first | trivial | rfl⟩
  · simp only [Tr.dom, Tr.ok, Tr.val, dF h1, dF h2, dF h3, dF h4, dF h5, dF h6, cond_true, cond_false, restR, shiftR, turnPR, pointR, compPR]
    exact ⟨by first | trivial | rfl, by first | trivial | rfl⟩

/- BOXES -/

abbrev dB : Int × Int := Ty.dflt (.pair (.int .i64) (.int .i64))
def validB (b : List (Int × Int)) : Bool := b.all vld
def isBoxB (r : DRobot) (b : List (Int × Int)) : Bool := decide (((b.length : Nat) : Int) = ((r.1.length : Nat) : Int)) && validB b

theorem isBoxF (r : DRobot) (b : List (Int × Int)) (hr : r.1.length ≤ 1000000) : dom_kinematics_isBox r b = true ∧ kinematics_isBox r b = isBoxB r b := by
  unfold dom_kinematics_isBox kinematics_isBox t_kinematics_isBox isBoxB
  by_cases h0 : ¬ ((b.length : Nat) : Int) = ((r.1.length : Nat) : Int)
  · simp only [Tr.dom, Tr.ok, Tr.val, dF h0, cond_false, Bool.false_and]
    exact ⟨by first | trivial | rfl, by first | trivial | rfl⟩
  replace h0 := Decidable.not_not.1 h0
  have key : dom_kinematics_isBox_slices_IndexFunc___api_Interval_api_Interval__L0 ((b, ()), (((b.length : Nat) : Int), ()), (0, ()), ()) = true ∧
      val_kinematics_isBox_slices_IndexFunc___api_Interval_api_Interval__L0 ((b, ()), (((b.length : Nat) : Int), ()), (0, ()), ()) =
        firstS (fun i => if (!vld (b.getD i dB)) = true then some (.inr (((i : Int), ()), ())) else none) (.inl ()) 0 b.length := by
    unfold dom_kinematics_isBox_slices_IndexFunc___api_Interval_api_Interval__L0 val_kinematics_isBox_slices_IndexFunc___api_Interval_api_Interval__L0
    refine scan_end (loop_scan (step := step_kinematics_isBox_slices_IndexFunc___api_Interval_api_Interval__L0) (fun i => ((b, ()), (((b.length : Nat) : Int), ()), ((i : Int), ()), ())) _ _ b.length (fun i hi => ?_) ?_ b.length 0 rounds (by omega) (rounds_lt (by omega)))
    · have e : IntKind.wrap .i64 ((i : Int) + 1) = ((i + 1 : Nat) : Int) := wrap_succ (by omega)
      have hv : ∀ x, kinematics_isBox_1 x = !vld x := fun x => by
        unfold kinematics_isBox_1 t_kinematics_isBox_1
        simp only [Tr.val, valF]
      unfold step_kinematics_isBox_slices_IndexFunc___api_Interval_api_Interval__L0 t_kinematics_isBox_slices_IndexFunc___api_Interval_api_Interval__L0
      simp only [Tr.optA, dT (show (i : Int) < (b.length : Int) by omega), dT (show 0 ≤ (i : Int) by omega), e, Int.toNat_natCast, hv, Bool.and_self, cond_true, id]
      cases vld (b.getD i dB) <;> rfl
    · unfold step_kinematics_isBox_slices_IndexFunc___api_Interval_api_Interval__L0 t_kinematics_isBox_slices_IndexFunc___api_Interval_api_Interval__L0
      simp only [Tr.optA, dF (show ¬ ((b.length : Int) < (b.length : Int)) by omega), cond_false, id]
  have ha : validB b = !b.any fun v => !vld v := by unfold validB; rw [List.all_eq_not_any_not]
  simp only [Tr.dom, Tr.ok, Tr.val, dT h0, key.1, key.2, cond_true, Bool.true_and]
  rcases firstS_any (Y := Outs os_kinematics_isBox_slices_IndexFunc___api_Interval_api_Interval__L0) (fun v => !vld v) dB (fun i => .inr (((i : Int), ()), ())) (.inl ()) b with ⟨h1, h2⟩ | ⟨h1, j, h3, _, h2⟩
  · rw [ha, h1, h2]; exact ⟨rfl, rfl⟩
  · rw [ha, h1, h2]
    simp only [isL, getR, dT (show (0 : Int) ≤ (j : Int) by omega), cond_false]
    exact ⟨by first | trivial | rfl, by first | trivial | rfl⟩

theorem validR (b : List (Int × Int)) (hb : b.length ≤ 4000000000000000000) : dom_armplanref10_allValid b = true ∧ armplanref10_allValid b = validB b := by
  have key : dom_armplanref10_allValid_L0 ((b, ()), (0, ()), ()) = true ∧ val_armplanref10_allValid_L0 ((b, ()), (0, ()), ()) = bif b.all vld then .inl () else .inr ((false, ()), ()) := by
    unfold dom_armplanref10_allValid_L0 val_armplanref10_allValid_L0
    refine all_scan (step := step_armplanref10_allValid_L0) (fun i => ((b, ()), ((i : Int), ()), ())) vld dB _ _ b (by omega) (fun i hi => ?_) ?_
    · have e : IntKind.wrap .i64 ((i : Int) + 1) = ((i + 1 : Nat) : Int) := wrap_succ (by omega)
      unfold step_armplanref10_allValid_L0 t_armplanref10_allValid_L0
      simp only [Tr.optA, dT (show (i : Int) < (b.length : Int) by omega), dT (show 0 ≤ (i : Int) by omega), e, Int.toNat_natCast, valR, Bool.and_self, cond_true, id]
      cases vld (b.getD i dB) <;> rfl
    · unfold step_armplanref10_allValid_L0 t_armplanref10_allValid_L0
      simp only [Tr.optA, dF (show ¬ ((b.length : Int) < (b.length : Int)) by omega), cond_false, id]
  unfold dom_armplanref10_allValid armplanref10_allValid t_armplanref10_allValid validB
  simp only [Tr.dom, Tr.ok, Tr.val, key.1, key.2, cond_true]
  cases b.all vld <;> exact ⟨rfl, rfl⟩

theorem isBoxR (r : DRobot) (b : List (Int × Int)) (hr : r.1.length ≤ 1000000) : dom_armplanref10_IsBox r b = true ∧ armplanref10_IsBox r b = isBoxB r b := by
  unfold dom_armplanref10_IsBox armplanref10_IsBox t_armplanref10_IsBox isBoxB
  by_cases h0 : ¬ ((b.length : Nat) : Int) = ((r.1.length : Nat) : Int)
  · simp only [Tr.dom, Tr.ok, Tr.val, dF h0, cond_false, Bool.false_and]
    exact ⟨by first | trivial | rfl, by first | trivial | rfl⟩
  replace h0 := Decidable.not_not.1 h0
  obtain ⟨d, v⟩ := validR b (by omega)
  simp only [Tr.dom, Tr.ok, Tr.val, dT h0, d, v, cond_true, Bool.true_and]
  exact ⟨by first | trivial | rfl, by first | trivial | rfl⟩

/- LINKS -/

abbrev dJ : DJoint := Ty.dflt TJoint
abbrev dP : DPose := Ty.dflt TPose
def parentJ (j : DJoint) : Int := j.2.2.1

/-- The pose of link i, those of the links before being known. -/
def nextP (r : DRobot) (b : List (Int × Int)) (ps : List DPose) (i : Nat) : DPose :=
  bif decide (parentJ (r.1.getD i dJ) = -1) then jointP (r.1.getD i dJ) (b.getD i dB) else compP (ps.getD (parentJ (r.1.getD i dJ)).toNat dP) (jointP (r.1.getD i dJ) (b.getD i dB))
def linksN (r : DRobot) (b : List (Int × Int)) : Nat → List DPose
  | 0 => []
  | i + 1 => linksN r b i ++ [nextP r b (linksN r b i) i]
theorem linksN_len (r : DRobot) (b : List (Int × Int)) : ∀ n, (linksN r b n).length = n
  | 0 => rfl
  | n + 1 => by simp [linksN, linksN_len r b n]

/-- Parents come first. -/
def parentsOk (r : DRobot) : Prop := ∀ i, i < r.1.length → parentJ (r.1.getD i dJ) = -1 ∨ (0 ≤ parentJ (r.1.getD i dJ) ∧ parentJ (r.1.getD i dJ) < (i : Int))

theorem robot_ok0 {r : DRobot} (h : robotErr r = 0) : 1 ≤ r.1.length ∧ r.1.length ≤ 10 ∧ (∀ i, i < r.1.length → errJ r.1 i = 0) ∧ r.2.length ≤ 32 ∧ r.2.all (massB r.1.length) = true := by
  unfold robotErr at h
  by_cases h1 : ((r.1.length : Nat) : Int) < 1
  · rw [dT h1] at h; simp at h
  by_cases h2 : 10 < ((r.1.length : Nat) : Int)
  · rw [dF h1, dT h2] at h; simp at h
  rw [dF h1, dF h2] at h
  by_cases h3 : fe (errJ r.1) r.1.length = 0
  · rw [dT h3] at h
    by_cases h4 : 32 < ((r.2.length : Nat) : Int)
    · rw [dT h4] at h; simp at h
    rw [dF h4] at h
    cases h5 : r.2.all (massB r.1.length) with
    | false => rw [h5] at h; simp at h
    | true => exact ⟨by omega, by omega, fe_zero.1 h3, by omega, rfl⟩
  · rw [dF h3] at h
    exact absurd h h3

theorem parents_ok {r : DRobot} (h : robotErr r = 0) : parentsOk r := by
  obtain ⟨_, _, h3, _⟩ := robot_ok0 h
  intro i hi
  have := h3 i hi
  unfold errJ at this
  unfold parentJ
  generalize r.1.getD i dJ = j at *
  dsimp only at this
  by_cases p1 : j.2.2.1 < -1
  · exfalso
    rw [dT p1] at this
    revert this
    cases (!token_Name j.1) <;> cases (r.1.take i).any (nameIs j.1) <;> cases decide (j.2.1 < 0) <;> cases decide (6 < j.2.1) <;> (simp only [cond_true, cond_false]; decide)
  · by_cases p2 : (i : Int) ≤ j.2.2.1
    · exfalso
      rw [dF p1, dT p2] at this
      revert this
      cases (!token_Name j.1) <;> cases (r.1.take i).any (nameIs j.1) <;> cases decide (j.2.1 < 0) <;> cases decide (6 < j.2.1) <;> (simp only [cond_true, cond_false]; decide)
    · omega

theorem addF_ok {r : DRobot} (hp : parentsOk r) (b : List (Int × Int)) (hb : b.length = r.1.length) (hr : r.1.length ≤ 1000000) {i : Nat} (hi : i < r.1.length) :
    dom_kinematics_tree_add r b (linksN r b i) = true ∧ kinematics_tree_add r b (linksN r b i) = (r, b, linksN r b (i + 1)) := by
  unfold dom_kinematics_tree_add kinematics_tree_add t_kinematics_tree_add
  have hl := linksN_len r b i
  rw [show linksN r b (i + 1) = linksN r b i ++ [nextP r b (linksN r b i) i] from rfl]
  unfold nextP
  have hpi := hp i hi
  unfold parentJ at *
  obtain ⟨d1, v1⟩ := jointF (r.1.getD i dJ) (b.getD i dB)
  have hrm : room (i + 1) = true := room_ok (by omega)
  simp only [hl, Tr.dom, Tr.ok, Tr.val, dT (show 0 ≤ (i : Int) by omega), dT (show (i : Int) < (r.1.length : Int) by omega), dT (show (i : Int) < (b.length : Int) by omega), Int.toNat_natCast, d1, v1, compPF, List.length_singleton, hrm, Bool.and_self, cond_true]
  by_cases c : (r.1.getD i dJ).2.2.1 = -1
  · simp only [dT c, Bool.not_true, cond_false, cond_true]
    exact ⟨by first | trivial | rfl, by first | trivial | rfl⟩
  · obtain h1 := hpi.resolve_left c
    simp only [dF c, Bool.not_false, cond_true, cond_false, dT h1.1, dT h1.2, Bool.and_self]
    exact ⟨by first | trivial | rfl, by first | trivial | rfl⟩

/-- A loop that counts to N. -/
theorem loop_to {X Y : Type} {step : X → Option (X ⊕ Y)} [Inhabited Y] (f : Nat → X) (e : Y) (N : Nat) (hN : N < 9223372036854775807)
    (hmore : ∀ i, i < N → step (f i) = some (.inl (f (i + 1)))) (hend : step (f N) = some (.inr e)) :
    (loopN step rounds (f 0)).isSome = true ∧ (loopN step rounds (f 0)).getD default = e := by
  have h := scan_end (loop_scan f (fun _ => none) e N (fun i hi => hmore i hi) hend N 0 rounds (by omega) (rounds_lt hN))
  refine ⟨h.1, h.2.trans (firstS_none fun _ _ _ => rfl)⟩

def linksL (r : DRobot) (b : List (Int × Int)) : List DPose := bif !decide (robotErr r = 0) then [] else bif !isBoxB r b then [] else linksN r b r.1.length

theorem linksF (r : DRobot) (b : List (Int × Int)) : dom_kinematics_Links r b = true ∧ kinematics_Links r b = linksL r b := by
  unfold dom_kinematics_Links kinematics_Links t_kinematics_Links linksL
  obtain ⟨d1, v1⟩ := robotF r
  by_cases c0 : ¬ robotErr r = 0
  · simp only [Tr.dom, Tr.ok, Tr.val, d1, v1, dF c0, cond_true, Bool.not_false]
    exact ⟨by first | trivial | rfl, by first | trivial | rfl⟩
  replace c0 := Decidable.not_not.1 c0
  obtain ⟨r1, r2, _⟩ := robot_ok0 c0
  obtain ⟨d2, v2⟩ := isBoxF r b (by omega)
  cases c1 : isBoxB r b with
  | false =>
    simp only [Tr.dom, Tr.ok, Tr.val, d1, v1, dT c0, d2, v2, c1, cond_true, cond_false, Bool.not_false, Bool.not_true]
    exact ⟨by first | trivial | rfl, by first | trivial | rfl⟩
  | true =>
    have hb : b.length = r.1.length := by
      unfold isBoxB at c1
      rw [Bool.and_eq_true, decide_eq_true_eq] at c1
      omega
    have key : dom_kinematics_Links_L0 ((r, b, [], ()), (((r.1.length : Nat) : Int), ()), (0, ()), ()) = true ∧ val_kinematics_Links_L0 ((r, b, [], ()), (((r.1.length : Nat) : Int), ()), (0, ()), ()) = ((r, b, linksN r b r.1.length, ()), ()) := by
      unfold dom_kinematics_Links_L0 val_kinematics_Links_L0
      refine loop_to (step := step_kinematics_Links_L0) (fun i => ((r, b, linksN r b i, ()), (((r.1.length : Nat) : Int), ()), ((i : Int), ()), ())) _ r.1.length (by omega) (fun i hi => ?_) ?_
      · have e : IntKind.wrap .i64 ((i : Int) + 1) = ((i + 1 : Nat) : Int) := wrap_succ (by omega)
        obtain ⟨d3, v3⟩ := addF_ok (parents_ok c0) b hb (by omega) hi
        unfold step_kinematics_Links_L0 t_kinematics_Links_L0
        simp only [Tr.optA, dT (show (i : Int) < (r.1.length : Int) by omega), d3, v3, e, cond_true, id]
      · unfold step_kinematics_Links_L0 t_kinematics_Links_L0
        simp only [Tr.optA, dF (show ¬ ((r.1.length : Int) < (r.1.length : Int)) by omega), cond_false, id]
    simp only [Tr.dom, Tr.ok, Tr.val, d1, v1, dT c0, d2, v2, c1, key.1, key.2, cond_true, cond_false, Bool.not_false, Bool.not_true]
    exact ⟨by first | trivial | rfl, by first | trivial | rfl⟩

theorem linksR (r : DRobot) (b : List (Int × Int)) : dom_armplanref10_Links r b = true ∧ armplanref10_Links r b = linksL r b := by
  unfold dom_armplanref10_Links armplanref10_Links t_armplanref10_Links linksL
  obtain ⟨d1, v1⟩ := robotR r
  by_cases c0 : ¬ robotErr r = 0
  · simp only [Tr.dom, Tr.ok, Tr.val, d1, v1, dF c0, cond_true, Bool.not_false]
    exact ⟨by first | trivial | rfl, by first | trivial | rfl⟩
  replace c0 := Decidable.not_not.1 c0
  obtain ⟨r1, r2, _⟩ := robot_ok0 c0
  obtain ⟨d2, v2⟩ := isBoxR r b (by omega)
  cases c1 : isBoxB r b with
  | false =>
    simp only [Tr.dom, Tr.ok, Tr.val, d1, v1, dT c0, d2, v2, c1, cond_true, cond_false, Bool.not_false, Bool.not_true]
    exact ⟨by first | trivial | rfl, by first | trivial | rfl⟩
  | true =>
    have hb : b.length = r.1.length := by
      unfold isBoxB at c1
      rw [Bool.and_eq_true, decide_eq_true_eq] at c1
      omega
    have key : dom_armplanref10_Links_L0 ((r, ()), (b, ()), ([], ()), (0, ()), ()) = true ∧ val_armplanref10_Links_L0 ((r, ()), (b, ()), ([], ()), (0, ()), ()) = ((r, ()), (linksN r b b.length, ()), ()) := by
      unfold dom_armplanref10_Links_L0 val_armplanref10_Links_L0
      refine loop_to (step := step_armplanref10_Links_L0) (fun i => ((r, ()), (b, ()), (linksN r b i, ()), ((i : Int), ()), ())) _ b.length (by omega) (fun i hi => ?_) ?_
      · have e : IntKind.wrap .i64 ((i : Int) + 1) = ((i + 1 : Nat) : Int) := wrap_succ (by omega)
        have hl := linksN_len r b i
        obtain ⟨d3, v3⟩ := jointR (r.1.getD i dJ) (b.getD i dB)
        have hrm : room (i + 1) = true := room_ok (by omega)
        have hpi := parents_ok c0 i (by omega)
        rw [show linksN r b (i + 1) = linksN r b i ++ [nextP r b (linksN r b i) i] from rfl]
        unfold step_armplanref10_Links_L0 t_armplanref10_Links_L0 nextP
        unfold parentJ at *
        simp only [hl, Tr.optA, dT (show 0 ≤ (i : Int) by omega), dT (show (i : Int) < (r.1.length : Int) by omega), dT (show (i : Int) < (b.length : Int) by omega), Int.toNat_natCast, d3, v3, compPR, List.length_singleton, hrm, e, Bool.and_self, cond_true, id]
        by_cases c : (r.1.getD i dJ).2.2.1 = -1
        · simp only [dT c, Bool.not_true, cond_false, cond_true]
        · obtain h1 := hpi.resolve_left c
          simp only [dF c, Bool.not_false, cond_true, cond_false, dT h1.1, dT h1.2, Bool.and_self]
      · unfold step_armplanref10_Links_L0 t_armplanref10_Links_L0
        simp only [Tr.optA, dF (show ¬ ((b.length : Int) < (b.length : Int)) by omega), cond_false, id]
    simp only [Tr.dom, Tr.ok, Tr.val, d1, v1, dT c0, d2, v2, c1, key.1, key.2, hb, cond_true, cond_false, Bool.not_false, Bool.not_true]
    exact ⟨by first | trivial | rfl, by first | trivial | rfl⟩

end Go.RX

/-
  What is made is valid: robots, scenes, boxes; joints.
-/
namespace Go.RX
open Go

end Go.RX

/-
  Points: program and reference are one; the law of links and points.
-/
namespace Go.RX
open Go

theorem take_succ {α : Type} (l : List α) (d : α) {i : Nat} (h : i < l.length) : l.take (i + 1) = l.take i ++ [l.getD i d] := by
  rw [List.take_add_one, List.getElem?_eq_getElem h, List.getD_eq_getElem?_getD, List.getElem?_eq_getElem h]; rfl
end Go.RX

/-
  What is made is valid: scenes and boxes.
-/
namespace Go.RX
open Go

/-- A box of a robot as it is made. -/
def goodB (js : List DJoint) (b : List (Int × Int)) : Prop := b.length = js.length ∧ ∀ i, i < js.length → inJ (js.getD i dJ) (b.getD i dB)

theorem boxL_ok {r : DRobot} (hr : goodR r) {s0 : List Int × Int} (hs : srcOk s0) :
    dom_armplanmake_Box_L0 ((r, ()), (s0, ()), ([], ()), (0, ()), ()) = true ∧ ∃ s b, val_armplanmake_Box_L0 ((r, ()), (s0, ()), ([], ()), (0, ()), ()) = ((r, ()), (s, ()), (b, ()), ()) ∧ goodB r.1 b := by
  have hn := hr.2.1
  unfold dom_armplanmake_Box_L0 val_armplanmake_Box_L0
  refine loop_end (Q := fun y : Outs os_armplanmake_Box_L0 => ∃ s b, y = ((r, ()), (s, ()), (b, ()), ()) ∧ goodB r.1 b)
    (loop_run step_armplanmake_Box_L0 (fun m x => ∃ (s : List Int × Int) (b : List (Int × Int)) (i : Nat), x = ((r, ()), (s, ()), (b, ()), ((i : Int), ()), ()) ∧ srcOk s ∧ b.length = i ∧ i + m = r.1.length ∧ ∀ k, k < i → inJ (r.1.getD k dJ) (b.getD k dB)) _ ?_ rounds r.1.length _
      ⟨s0, [], 0, rfl, hs, rfl, by omega, fun k hk => by omega⟩ (rounds_lt (by omega)))
  rintro m x ⟨s, b, i, rfl, h1, h2, h3, h4⟩
  by_cases hi : i < r.1.length
  · obtain ⟨s', c, o, hc, e⟩ := box_more (bs := b) h1 hr.1 (show 0 ≤ (i : Int) by omega) (by omega) (by omega) (by omega)
    refine .inl ⟨_, m - 1, e, by omega, s', b ++ [c], i + 1, rfl, o, by simp [h2], by omega, fun k hk => ?_⟩
    rw [Int.toNat_natCast] at hc
    by_cases hk' : k < i
    · have := h4 k hk'
      rwa [List.getD_eq_getElem?_getD, List.getD_eq_getElem?_getD, List.getElem?_append_left (by omega), ← List.getD_eq_getElem?_getD, ← List.getD_eq_getElem?_getD] at *
    · have : k = i := by omega
      subst this
      rw [List.getD_eq_getElem?_getD (l := b ++ [c]), List.getElem?_append_right (by omega), h2, Nat.sub_self]
      exact hc
  · refine .inr ⟨((r, ()), (s, ()), (b, ()), ()), ?_, s, b, rfl, by omega, fun k hk => h4 k (by omega)⟩
    unfold step_armplanmake_Box_L0 t_armplanmake_Box_L0
    simp only [Tr.optA, dF (show ¬ ((i : Int) < (r.1.length : Int)) by omega), cond_false, id]

theorem boxes_ok {r : DRobot} (hr : goodR r) {l : List Int} (hl : l.length ≤ maxLen) : dom_armplanmake_Box r l = true ∧ goodB r.1 (armplanmake_Box r l) := by
  unfold dom_armplanmake_Box armplanmake_Box t_armplanmake_Box
  obtain ⟨d, s, b, e, g⟩ := boxL_ok hr (src0 hl)
  simp only [Tr.dom, Tr.ok, Tr.val, d, e, cond_true]
  exact ⟨by first | trivial | rfl, g⟩

end Go.RX

/-
  The law of joints.
-/
namespace Go.RX
open Go

theorem dEq {α : Type} (a : α) (i : Decidable (a = a)) : @decide (a = a) i = true := dT rfl i

end Go.RX

/-
  The laws of joints and links.
-/
namespace Go.RX
open Go

end Go.RX

/-
  Boxes within boxes; how far the points lie.
-/
namespace Go.RX
open Go

theorem wtn_valid {a b : List (Int × Int)} (hl : a.length = b.length) (h : ∀ i, i < b.length → wtn (a.getD i dB) (b.getD i dB) = true) : validB a = true := by
  unfold validB
  rw [List.all_eq_true]
  intro x hx
  obtain ⟨k, hk, rfl⟩ := List.getElem_of_mem hx
  have := h k (by omega)
  rw [List.getD_eq_getElem?_getD, List.getElem?_eq_getElem hk] at this
  exact (wtn_iff.1 this).1

theorem map_getD {α β : Type} (f : α → β) (l : List α) (d : α) (e : β) {i : Nat} (h : i < l.length) : (l.map f).getD i e = f (l.getD i d) := by
  rw [List.getD_eq_getElem?_getD, List.getD_eq_getElem?_getD, List.getElem?_map, List.getElem?_eq_getElem h]; rfl

end Go.RX

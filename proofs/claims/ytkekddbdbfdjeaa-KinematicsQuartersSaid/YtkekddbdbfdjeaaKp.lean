/-
  Configurations within the limits, and their boxes.
-/
import Derived.Test.YtkekddbdbfdjeaaG8
namespace Go.RX
open Go

/-- A configuration of a robot as it is made. -/
def goodQ (js : List DJoint) (c : List Int) : Prop := c.length = js.length ∧ ∀ i, i < js.length → loJ (js.getD i dJ) ≤ c.getD i 0 ∧ c.getD i 0 ≤ hiJ (js.getD i dJ)

theorem conf_more {s : List Int × Int} {r : DRobot} {c : List Int} {i : Nat} (h1 : srcOk s) (hr : goodL r.1) (hi : i < r.1.length) (i3 : i ≤ 100) (hl : c.length ≤ 100) :
    ∃ s' x, srcOk s' ∧ (loJ (r.1.getD i dJ) ≤ x ∧ x ≤ hiJ (r.1.getD i dJ)) ∧
      step_armplanmake_Config_L0 ((r, ()), (s, ()), (c, ()), ((i : Int), ()), ()) = some (.inl ((r, ()), (s', ()), (c ++ [x], ()), (((i + 1 : Nat) : Int), ()), ())) := by
  unfold step_armplanmake_Config_L0 t_armplanmake_Config_L0
  have gj := (hr i (r.1.getD i dJ) (getD_get hi)).1
  obtain ⟨_, _, _, _, ⟨l1, l2, l3, l4⟩, _⟩ := gj
  have e1 : IntKind.wrap .i64 (hiJ (r.1.getD i dJ) - loJ (r.1.getD i dJ)) = hiJ (r.1.getD i dJ) - loJ (r.1.getD i dJ) := wrap64 (by unfold hiJ loJ; omega) (by unfold hiJ loJ; omega)
  have e2 : IntKind.wrap .i64 (hiJ (r.1.getD i dJ) - loJ (r.1.getD i dJ) + 1) = hiJ (r.1.getD i dJ) - loJ (r.1.getD i dJ) + 1 := wrap64 (by unfold hiJ loJ; omega) (by unfold hiJ loJ; omega)
  obtain ⟨d4, o4, a4, b4⟩ := next_ok h1 (k := 6) (by omega) (by omega)
  generalize hr4 : armplanmake_Source_Next s 6 = r4 at *
  obtain ⟨d6, o6, a6, b6⟩ := next_ok o4 (k := hiJ (r.1.getD i dJ) - loJ (r.1.getD i dJ) + 1) (by unfold hiJ loJ; omega) (by unfold hiJ loJ; omega)
  generalize hr6 : armplanmake_Source_Next r4.2 (hiJ (r.1.getD i dJ) - loJ (r.1.getD i dJ) + 1) = r6 at *
  have e5 : IntKind.wrap .i64 (loJ (r.1.getD i dJ) + r6.1) = loJ (r.1.getD i dJ) + r6.1 := wrap64 (by unfold hiJ loJ at *; omega) (by unfold hiJ loJ at *; omega)
  have e9 : IntKind.wrap .i64 ((i : Int) + 1) = ((i + 1 : Nat) : Int) := wrap_succ (by omega)
  have hrm : room (c.length + 1) = true := room_ok (by omega)
  unfold loJ hiJ at *
  simp only [Tr.optA, dT (show (i : Int) < (r.1.length : Int) by omega), dT (show 0 ≤ (i : Int) by omega), Int.toNat_natCast, d4, hr4, e1, e2, d6, hr6, e5, e9, List.length_singleton, hrm, Bool.and_self, cond_true, id]
  by_cases c1 : r4.1 = 0
  · simp only [dT c1, cond_true]
    exact ⟨_, _, o4, ⟨Int.le_refl _, by omega⟩, rfl⟩
  by_cases c2 : r4.1 = 1
  · simp only [dF c1, dT c2, cond_true, cond_false]
    exact ⟨_, _, o4, ⟨by omega, Int.le_refl _⟩, rfl⟩
  · simp only [dF c1, dF c2, cond_false]
    exact ⟨_, _, o6, ⟨by omega, by omega⟩, rfl⟩

theorem confL_ok {r : DRobot} (hr : goodR r) {s0 : List Int × Int} (hs : srcOk s0) :
    dom_armplanmake_Config_L0 ((r, ()), (s0, ()), ([], ()), (0, ()), ()) = true ∧ ∃ s c, val_armplanmake_Config_L0 ((r, ()), (s0, ()), ([], ()), (0, ()), ()) = ((r, ()), (s, ()), (c, ()), ()) ∧ goodQ r.1 c := by
  have hn := hr.2.1
  unfold dom_armplanmake_Config_L0 val_armplanmake_Config_L0
  refine loop_end (Q := fun y : Outs os_armplanmake_Config_L0 => ∃ s c, y = ((r, ()), (s, ()), (c, ()), ()) ∧ goodQ r.1 c)
    (loop_run step_armplanmake_Config_L0 (fun m x => ∃ (s : List Int × Int) (c : List Int) (i : Nat), x = ((r, ()), (s, ()), (c, ()), ((i : Int), ()), ()) ∧ srcOk s ∧ c.length = i ∧ i + m = r.1.length ∧ ∀ k, k < i → loJ (r.1.getD k dJ) ≤ c.getD k 0 ∧ c.getD k 0 ≤ hiJ (r.1.getD k dJ)) _ ?_ rounds r.1.length _
      ⟨s0, [], 0, rfl, hs, rfl, by omega, fun k hk => by omega⟩ (rounds_lt (by omega)))
  rintro m x ⟨s, c, i, rfl, h1, h2, h3, h4⟩
  by_cases hi : i < r.1.length
  · obtain ⟨s', y, o, hc, e⟩ := conf_more (c := c) h1 hr.1 hi (by omega) (by omega)
    refine .inl ⟨_, m - 1, e, by omega, s', c ++ [y], i + 1, rfl, o, by simp [h2], by omega, fun k hk => ?_⟩
    by_cases hk' : k < i
    · rw [getD_snoc_lt (by omega)]; exact h4 k hk'
    · rw [getD_snoc_eq (by omega), show k = i by omega]; exact hc
  · refine .inr ⟨((r, ()), (s, ()), (c, ()), ()), ?_, s, c, rfl, by omega, fun k hk => h4 k (by omega)⟩
    unfold step_armplanmake_Config_L0 t_armplanmake_Config_L0
    simp only [Tr.optA, dF (show ¬ ((i : Int) < (r.1.length : Int)) by omega), cond_false, id]

def smallB (c : List Int) : Bool := c.all fun x => !decide (x < -2147483648) && !decide (2147483648 < x)
def boxL (c : List Int) : List (Int × Int) := bif !smallB c then [] else c.map fun x => (x, x)

theorem smallR (c : List Int) (hc : c.length ≤ 4000000000000000000) : dom_armplanref10_small c = true ∧ armplanref10_small c = smallB c := by
  have key : dom_armplanref10_small_L0 ((c, ()), (0, ()), ()) = true ∧ val_armplanref10_small_L0 ((c, ()), (0, ()), ()) = bif c.all (fun x => !decide (x < -2147483648) && !decide (2147483648 < x)) then .inl () else .inr ((false, ()), ()) := by
    unfold dom_armplanref10_small_L0 val_armplanref10_small_L0
    refine all_scan (step := step_armplanref10_small_L0) (fun i => ((c, ()), ((i : Int), ()), ())) (fun x : Int => !decide (x < -2147483648) && !decide (2147483648 < x)) (Ty.dflt (.int .i64)) _ _ c (by omega) (fun i hi => ?_) ?_
    · have e : IntKind.wrap .i64 ((i : Int) + 1) = ((i + 1 : Nat) : Int) := wrap_succ (by omega)
      unfold step_armplanref10_small_L0 t_armplanref10_small_L0
      simp only [Tr.optA, dT (show (i : Int) < (c.length : Int) by omega), dT (show 0 ≤ (i : Int) by omega), e, Int.toNat_natCast, Bool.and_self, cond_true, id]
      cases decide (c.getD i (Ty.dflt (.int .i64)) < -2147483648) <;> cases decide (2147483648 < c.getD i (Ty.dflt (.int .i64))) <;> rfl
    · unfold step_armplanref10_small_L0 t_armplanref10_small_L0
      simp only [Tr.optA, dF (show ¬ ((c.length : Int) < (c.length : Int)) by omega), cond_false, id]
  unfold dom_armplanref10_small armplanref10_small t_armplanref10_small smallB
  simp only [Tr.dom, Tr.ok, Tr.val, key.1, key.2, cond_true]
  cases c.all (fun x => !decide (x < -2147483648) && !decide (2147483648 < x)) <;> exact ⟨rfl, rfl⟩

theorem boxR (c : List Int) (hc : c.length ≤ 1000000) : dom_armplanref10_Box c = true ∧ armplanref10_Box c = boxL c := by
  unfold dom_armplanref10_Box armplanref10_Box t_armplanref10_Box boxL
  obtain ⟨d, v⟩ := smallR c (by omega)
  cases h : smallB c with
  | false =>
    simp only [Tr.dom, Tr.ok, Tr.val, d, v, h, Bool.not_false, cond_true]
    exact ⟨by first | trivial | rfl, by first | trivial | rfl⟩
  | true =>
    have key : dom_armplanref10_Box_L0 ((c, ()), ([], ()), (0, ()), ()) = true ∧ val_armplanref10_Box_L0 ((c, ()), ([], ()), (0, ()), ()) = (((c.take c.length).map fun x => (x, x), ()), ()) := by
      unfold dom_armplanref10_Box_L0 val_armplanref10_Box_L0
      refine loop_to (step := step_armplanref10_Box_L0) (fun i => ((c, ()), ((c.take i).map fun x => (x, x), ()), ((i : Int), ()), ())) _ c.length (by omega) (fun i hi => ?_) ?_
      · have e : IntKind.wrap .i64 ((i : Int) + 1) = ((i + 1 : Nat) : Int) := wrap_succ (by omega)
        have hm : ((c.take i).map fun x => (x, x)).length = i := by rw [List.length_map, List.length_take]; omega
        have hrm : room (i + 1) = true := room_ok (by omega)
        rw [take_succ c (Ty.dflt (.int .i64)) hi]
        unfold step_armplanref10_Box_L0 t_armplanref10_Box_L0
        simp only [Tr.optA, dT (show (i : Int) < (c.length : Int) by omega), dT (show 0 ≤ (i : Int) by omega), e, Int.toNat_natCast, hm, List.length_singleton, hrm, List.map_append, List.map_cons, List.map_nil, Bool.and_self, cond_true, id]
      · unfold step_armplanref10_Box_L0 t_armplanref10_Box_L0
        simp only [Tr.optA, dF (show ¬ ((c.length : Int) < (c.length : Int)) by omega), cond_false, id]
    simp only [Tr.dom, Tr.ok, Tr.val, d, v, h, key.1, key.2, Bool.not_true, cond_true, cond_false, List.take_length]
    exact ⟨by first | trivial | rfl, by first | trivial | rfl⟩

theorem goodQ_bd {r : DRobot} (hr : goodR r) {c : List Int} (h : goodQ r.1 c) {i : Nat} (hi : i < r.1.length) : -131072 ≤ c.getD i 0 ∧ c.getD i 0 ≤ 131072 := by
  have h1 := h.2 i hi
  have h2 := (hr.1 i (r.1.getD i dJ) (getD_get hi)).1
  obtain ⟨_, _, _, _, ⟨l1, l2, l3, l4⟩, _⟩ := h2
  unfold loJ hiJ at h1
  omega

end Go.RX

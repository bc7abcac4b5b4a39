/-
  The law of quarters: poses at quarters of a turn are exact.
-/
import Derived.Test.YtkekddbdbfdjeaaG8
import Derived.Test.YtkekddbdbfdjeaaKp
namespace Go.RX
open Go

def qrows : List V3 := [((65536, 65536), ((0, 0), (0, 0))), ((-65536, -65536), ((0, 0), (0, 0))), ((0, 0), ((65536, 65536), (0, 0))), ((0, 0), ((-65536, -65536), (0, 0))), ((0, 0), ((0, 0), (65536, 65536))), ((0, 0), ((0, 0), (-65536, -65536)))]
def memQ (v : V3) : Bool := qrows.any fun q => decide (q = v)
theorem memQ_iff {v : V3} : memQ v = true ↔ v ∈ qrows := by
  unfold memQ
  rw [List.any_eq_true]
  exact ⟨fun ⟨q, h1, h2⟩ => by rw [← of_decide_eq_true h2]; exact h1, fun h => ⟨v, h, decide_eq_true rfl⟩⟩
def matQ (m : M3) : Prop := m.1 ∈ qrows ∧ m.2.1 ∈ qrows ∧ m.2.2 ∈ qrows
def matQb (m : M3) : Bool := memQ m.1 && (memQ m.2.1 && memQ m.2.2)
theorem matQ_of {m : M3} (h : matQb m = true) : matQ m := by
  unfold matQb at h
  rw [Bool.and_eq_true, Bool.and_eq_true] at h
  exact ⟨memQ_iff.1 h.1, memQ_iff.1 h.2.1, memQ_iff.1 h.2.2⟩

theorem rows_all : (qrows.all fun a => qrows.all fun b => qrows.all fun c => qrows.all fun d => memQ (rowM a (trn (b, (c, d))))) = true := by kernel_rfl
theorem row_q {a : V3} {m : M3} (ha : a ∈ qrows) (hm : matQ m) : rowM a (trn m) ∈ qrows := by
  have h := rows_all
  rw [List.all_eq_true] at h
  have h := h a ha
  rw [List.all_eq_true] at h
  have h := h m.1 hm.1
  rw [List.all_eq_true] at h
  have h := h m.2.1 hm.2.1
  rw [List.all_eq_true] at h
  exact memQ_iff.1 (h m.2.2 hm.2.2)
theorem comp_q {a b : M3} (ha : matQ a) (hb : matQ b) : matQ (compM a b) := ⟨row_q ha.1 hb, row_q ha.2.1 hb, row_q ha.2.2 hb⟩

theorem dot_q {a : V3} (ha : a ∈ qrows) {t : E3} {B : Int} (ht : bdE t B) (hB : B ≤ 2147483648) : ∃ w, dotI a (ptV t) = (w, w) ∧ -B ≤ w ∧ w ≤ B := by
  obtain ⟨⟨x1, x2⟩, ⟨y1, y2⟩, ⟨z1, z2⟩⟩ := ht
  unfold ptV dotI
  simp only [qrows, List.mem_cons, List.not_mem_nil, or_false] at ha
  have b0 : (-2147483648 : Int) ≤ 0 := by omega
  have b1 : (0 : Int) ≤ 2147483648 := by omega
  rcases ha with rfl | rfl | rfl | rfl | rfl | rfl
  · exact ⟨t.1, by dsimp only; rw [mul_1 (by omega) (by omega), mul_0 (by omega) (by omega), mul_0 (by omega) (by omega), add_0 (by omega) (by omega), add_0 (by omega) (by omega)], by omega, by omega⟩
  · exact ⟨-t.1, by dsimp only; rw [mul_m1 (by omega) (by omega), mul_0 (by omega) (by omega), mul_0 (by omega) (by omega), add_0 (by omega) (by omega), add_0 (by omega) (by omega)], by omega, by omega⟩
  · exact ⟨t.2.1, by dsimp only; rw [mul_0 (by omega) (by omega), mul_1 (by omega) (by omega), mul_0 (by omega) (by omega), add_0' (by omega) (by omega), add_0 (by omega) (by omega)], by omega, by omega⟩
  · exact ⟨-t.2.1, by dsimp only; rw [mul_0 (by omega) (by omega), mul_m1 (by omega) (by omega), mul_0 (by omega) (by omega), add_0' (by omega) (by omega), add_0 (by omega) (by omega)], by omega, by omega⟩
  · exact ⟨t.2.2, by dsimp only; rw [mul_0 (by omega) (by omega), mul_0 (by omega) (by omega), mul_1 (by omega) (by omega), add_0 b0 b1, add_0' (by omega) (by omega)], by omega, by omega⟩
  · exact ⟨-t.2.2, by dsimp only; rw [mul_0 (by omega) (by omega), mul_0 (by omega) (by omega), mul_m1 (by omega) (by omega), add_0 b0 b1, add_0' (by omega) (by omega)], by omega, by omega⟩

theorem add_pt {x y A B : Int} (hx : -A ≤ x ∧ x ≤ A) (hy : -B ≤ y ∧ y ≤ B) (hAB : A + B ≤ 2147483648) (hA : 0 ≤ A) (hB : 0 ≤ B) : addI (x, x) (y, y) = (x + y, x + y) := by
  unfold addI
  rw [vld_mk (x := (x, x)) (by dsimp only; omega) (Int.le_refl _) (by dsimp only; omega), vld_mk (x := (y, y)) (by dsimp only; omega) (Int.le_refl _) (by dsimp only; omega)]
  rw [Bool.and_self, cond_true]
  dsimp only
  rw [lim_in (by omega) (by omega)]

/-- An exact pose at quarters of a turn. -/
def exP (B : Int) (p : P4) : Prop := matQ p.1 ∧ ∃ t, bdE t B ∧ p.2 = ptV t

theorem exP_mono {A B : Int} {p : P4} (h : exP A p) (hAB : A ≤ B) : exP B p := by
  obtain ⟨h1, t, ⟨⟨x1, x2⟩, ⟨y1, y2⟩, ⟨z1, z2⟩⟩, h3⟩ := h
  exact ⟨h1, t, ⟨⟨by omega, by omega⟩, ⟨by omega, by omega⟩, ⟨by omega, by omega⟩⟩, h3⟩

theorem exP_comp {A B : Int} {p q : P4} (hp : exP A p) (hq : exP B q) (hA : 0 ≤ A) (hB : 0 ≤ B) (hAB : A + B ≤ 2147483648) : exP (A + B) (compP p q) := by
  obtain ⟨p1, t, ⟨tx, ty, tz⟩, p3⟩ := hp
  obtain ⟨q1, u, hu, q3⟩ := hq
  obtain ⟨w1, e1, b1⟩ := dot_q p1.1 hu (by omega)
  obtain ⟨w2, e2, b2⟩ := dot_q p1.2.1 hu (by omega)
  obtain ⟨w3, e3, b3⟩ := dot_q p1.2.2 hu (by omega)
  refine ⟨comp_q p1 q1, (t.1 + w1, (t.2.1 + w2, t.2.2 + w3)), ⟨⟨by dsimp only; omega, by dsimp only; omega⟩, ⟨by dsimp only; omega, by dsimp only; omega⟩, ⟨by dsimp only; omega, by dsimp only; omega⟩⟩, ?_⟩
  unfold compP addV applyM
  dsimp only
  rw [p3, q3, e1, e2, e3]
  unfold ptV
  dsimp only
  rw [add_pt tx b1 hAB hA hB, add_pt ty b2 hAB hA hB, add_pt tz b3 hAB hA hB]

theorem turns_all : ([0, 1, 2].all fun k : Int => [-5, -4, -3, -2, -1, 0, 1, 2, 3, 4, 5].all fun q : Int => matQb (turnM k (16384 * q, 16384 * q))) = true := by kernel_rfl
theorem turn_q {k q : Int} (hk : k = 0 ∨ k = 1 ∨ k = 2) (h1 : -5 ≤ q) (h2 : q ≤ 5) : matQ (turnM k (16384 * q, 16384 * q)) := by
  have h := turns_all
  rw [List.all_eq_true] at h
  have h := h k (by simp only [List.mem_cons, List.not_mem_nil, or_false]; exact hk)
  rw [List.all_eq_true] at h
  exact matQ_of (h q (by simp only [List.mem_cons, List.not_mem_nil, or_false]; omega))
theorem unit_q : matQ unitM := matQ_of (by kernel_rfl)

theorem pt_zero : zeroV = ptV (0, (0, 0)) := rfl
theorem bd_zero : bdE (0, (0, 0)) 131072 := ⟨⟨by decide, by decide⟩, ⟨by decide, by decide⟩, ⟨by decide, by decide⟩⟩
theorem b00 : (-131072 : Int) ≤ 0 ∧ (0 : Int) ≤ 131072 := by decide
theorem move_q {k x : Int} (hk : 0 ≤ k ∧ k ≤ 6) (h1 : k < 4 → ∃ q, -5 ≤ q ∧ q ≤ 5 ∧ x = 16384 * q) (h2 : 4 ≤ k → -131072 ≤ x ∧ x ≤ 131072) : exP 131072 (moveP k (x, x)) := by
  unfold moveP
  by_cases c1 : k = 1
  · obtain ⟨q, a, b, rfl⟩ := h1 (by omega)
    rw [dT c1]; exact ⟨turn_q (.inl rfl) a b, _, bd_zero, pt_zero⟩
  by_cases c2 : k = 2
  · obtain ⟨q, a, b, rfl⟩ := h1 (by omega)
    rw [dF c1, dT c2]; exact ⟨turn_q (.inr (.inl rfl)) a b, _, bd_zero, pt_zero⟩
  by_cases c3 : k = 3
  · obtain ⟨q, a, b, rfl⟩ := h1 (by omega)
    rw [dF c1, dF c2, dT c3]; exact ⟨turn_q (.inr (.inr rfl)) a b, _, bd_zero, pt_zero⟩
  by_cases c4 : k = 4
  · have hb := h2 (by omega)
    rw [dF c1, dF c2, dF c3, dT c4]; exact ⟨unit_q, (x, (0, 0)), ⟨hb, b00, b00⟩, rfl⟩
  by_cases c5 : k = 5
  · have hb := h2 (by omega)
    rw [dF c1, dF c2, dF c3, dF c4, dT c5]; exact ⟨unit_q, (0, (x, 0)), ⟨b00, hb, b00⟩, rfl⟩
  by_cases c6 : k = 6
  · have hb := h2 (by omega)
    rw [dF c1, dF c2, dF c3, dF c4, dF c5, dT c6]; exact ⟨unit_q, (0, (0, x)), ⟨b00, b00, hb⟩, rfl⟩
  · rw [dF c1, dF c2, dF c3, dF c4, dF c5, dF c6]; exact ⟨unit_q, _, bd_zero, pt_zero⟩

/-- A configuration at quarters of a turn. -/
def quartJ (j : DJoint) (x : Int) : Prop := (j.2.1 < 4 → ∃ q, -5 ≤ q ∧ q ≤ 5 ∧ x = 16384 * q) ∧ (4 ≤ j.2.1 → -131072 ≤ x ∧ x ≤ 131072)
theorem quart_bd {j : DJoint} {x : Int} (h : quartJ j x) : -131072 ≤ x ∧ x ≤ 131072 := by
  by_cases c : j.2.1 < 4
  · obtain ⟨q, a, b, rfl⟩ := h.1 c; omega
  · exact h.2 (by omega)

theorem links_q {r : DRobot} (hr : goodR r) {b : List (Int × Int)} (hb : ∀ i, i < r.1.length → ∃ x, b.getD i dB = (x, x) ∧ quartJ (r.1.getD i dJ) x) (hp : parentsOk r) :
    ∀ n, n ≤ r.1.length → ∀ k, k < n → exP (262144 * ((k : Int) + 1)) ((linksN r b n).getD k dP)
  | 0, _, k, hk => by omega
  | n + 1, hn, k, hk => by
    have ih := links_q hr hb hp n (by omega)
    have la := linksN_len r b n
    have h3 := hr.2.1
    rw [show linksN r b (n + 1) = linksN r b n ++ [nextP r b (linksN r b n) n] from rfl]
    by_cases hk' : k < n
    · rw [getD_snoc_lt (by omega)]; exact ih k hk'
    · rw [getD_snoc_eq (by omega), show k = n by omega]
      unfold nextP
      have hjj := (hr.1 n (r.1.getD n dJ) (getD_get (by omega))).1
      obtain ⟨x, hx, hq⟩ := hb n (by omega)
      have hj : exP (131072 + 131072) (jointP (r.1.getD n dJ) (x, x)) := by
        unfold jointP
        refine exP_comp ⟨unit_q, _, hjj.2.2.2.1, pt_point hjj.2.2.2.1 (by omega)⟩ (move_q ⟨hjj.2.1.1, by have := hjj.2.1.2; omega⟩ hq.1 hq.2) (by decide) (by decide) (by decide)
      rw [hx]
      rcases hp n (by omega) with hw | ⟨h1, h2⟩
      · rw [dT hw]; exact exP_mono hj (by omega)
      · rw [dF (show ¬ parentJ (r.1.getD n dJ) = -1 by omega)]
        have hpar := ih (parentJ (r.1.getD n dJ)).toNat (by omega)
        exact exP_mono (exP_comp hpar hj (by omega) (by decide) (by omega)) (by omega)

theorem quart_loop {s : DScene} (hr : goodR s.1) {s0 : List Int × Int} (h0 : srcOk s0) {c0 : List Int} (hc0 : goodQ s.1.1 c0) :
    dom_armplanlaw11_KinematicsQuarters_L0 ((s, ()), (s0, ()), (c0, ()), (0, ()), ()) = true ∧ ∃ s' c, val_armplanlaw11_KinematicsQuarters_L0 ((s, ()), (s0, ()), (c0, ()), (0, ()), ()) = ((s, ()), (s', ()), (c, ()), ()) ∧
      c.length = s.1.1.length ∧ ∀ i, i < s.1.1.length → quartJ (s.1.1.getD i dJ) (c.getD i 0) := by
  have hn := hr.2.1
  have hl0 := hc0.1
  unfold dom_armplanlaw11_KinematicsQuarters_L0 val_armplanlaw11_KinematicsQuarters_L0
  refine loop_end (Q := fun y : Outs os_armplanlaw11_KinematicsQuarters_L0 => ∃ s' c, y = ((s, ()), (s', ()), (c, ()), ()) ∧ c.length = s.1.1.length ∧ ∀ i, i < s.1.1.length → quartJ (s.1.1.getD i dJ) (c.getD i 0))
    (loop_run step_armplanlaw11_KinematicsQuarters_L0 (fun m x => ∃ (s' : List Int × Int) (c : List Int) (i : Nat), x = ((s, ()), (s', ()), (c, ()), ((i : Int), ()), ()) ∧ srcOk s' ∧ c.length = s.1.1.length ∧ i + m = s.1.1.length ∧
      (∀ k, k < i → quartJ (s.1.1.getD k dJ) (c.getD k 0)) ∧ ∀ k, i ≤ k → k < s.1.1.length → -131072 ≤ c.getD k 0 ∧ c.getD k 0 ≤ 131072) _ ?_ rounds s.1.1.length _
      ⟨s0, c0, 0, rfl, h0, hl0, by omega, fun k hk => by omega, fun k _ hk => goodQ_bd hr hc0 hk⟩ (rounds_lt (by omega)))
  rintro m x ⟨s', c, i, rfl, h1, h2, h3, h4, h5⟩
  by_cases hi : i < s.1.1.length
  · have e9 : IntKind.wrap .i64 ((i : Int) + 1) = ((i + 1 : Nat) : Int) := wrap_succ (by omega)
    by_cases hk : (s.1.1.getD i dJ).2.1 < 4
    · obtain ⟨d1, o1, a1, b1⟩ := signed_ok h1 (k := 5) (by omega) (by omega)
      generalize hr1 : armplanmake_Source_Signed s' 5 = r1 at *
      have e1 : IntKind.wrap .i64 (r1.1 * 65536) = r1.1 * 65536 := wrap64 (by omega) (by omega)
      have e0 : Int.tdiv (r1.1 * 65536) 4 = 16384 * r1.1 := by
        rw [show r1.1 * 65536 = (16384 * r1.1) * 4 by omega]; exact Int.mul_tdiv_cancel _ (by decide)
      have e2 : IntKind.wrap .i64 (16384 * r1.1) = 16384 * r1.1 := wrap64 (by omega) (by omega)
      refine .inl ⟨((s, ()), (r1.2, ()), (c.set i (16384 * r1.1), ()), (((i + 1 : Nat) : Int), ()), ()), m - 1, ?_, by omega, r1.2, c.set i (16384 * r1.1), i + 1, rfl, o1, by rw [List.length_set]; exact h2, by omega, fun k hk' => ?_, fun k hk1 hk2 => ?_⟩
      · unfold step_armplanlaw11_KinematicsQuarters_L0 t_armplanlaw11_KinematicsQuarters_L0
        have hk2 : (List.getD s.1.1 i (Ty.dflt TJoint)).2.1 < 4 := hk
        simp only [Tr.optA, h2, dT (show (i : Int) < (s.1.1.length : Int) by omega), dT (show 0 ≤ (i : Int) by omega), Int.toNat_natCast, dT hk2, d1, hr1, e1, e0, e2, e9, Bool.and_self, cond_true, id]
      · by_cases hki : k = i
        · subst hki
          rw [List.getD_eq_getElem?_getD (l := c.set k _), List.getElem?_set_self (by omega)]
          exact ⟨fun _ => ⟨r1.1, a1, b1, rfl⟩, fun h => by omega⟩
        · rw [set_getD_ne hki]; exact h4 k (by omega)
      · rw [set_getD_ne (by omega)]; exact h5 k (by omega) hk2
    · refine .inl ⟨((s, ()), (s', ()), (c, ()), (((i + 1 : Nat) : Int), ()), ()), m - 1, ?_, by omega, s', c, i + 1, rfl, h1, h2, by omega, fun k hk' => ?_, fun k hk1 hk2 => h5 k (by omega) hk2⟩
      · unfold step_armplanlaw11_KinematicsQuarters_L0 t_armplanlaw11_KinematicsQuarters_L0
        have hk2 : ¬ (List.getD s.1.1 i (Ty.dflt TJoint)).2.1 < 4 := hk
        simp only [Tr.optA, h2, dT (show (i : Int) < (s.1.1.length : Int) by omega), dT (show 0 ≤ (i : Int) by omega), Int.toNat_natCast, dF hk2, e9, Bool.and_self, cond_true, cond_false, id]
      · by_cases hki : k = i
        · subst hki
          exact ⟨fun h => absurd h hk, fun _ => h5 k (Nat.le_refl _) hi⟩
        · exact h4 k (by omega)
  · refine .inr ⟨((s, ()), (s', ()), (c, ()), ()), ?_, s', c, rfl, h2, fun k hk => h4 k (by omega)⟩
    unfold step_armplanlaw11_KinematicsQuarters_L0 t_armplanlaw11_KinematicsQuarters_L0
    simp only [Tr.optA, h2, dF (show ¬ ((i : Int) < (s.1.1.length : Int)) by omega), cond_false, id]

theorem bdBox {r : DRobot} {c : List Int} (hl : c.length = r.1.length) (h : ∀ i, i < r.1.length → -131072 ≤ c.getD i 0 ∧ c.getD i 0 ≤ 131072) :
    isBoxB r (boxL c) = true ∧ ∀ i, i < r.1.length → (boxL c).getD i dB = (c.getD i 0, c.getD i 0) := by
  have hg : ∀ x ∈ c, -131072 ≤ x ∧ x ≤ 131072 := fun x hx => by
    obtain ⟨k, hk, rfl⟩ := List.getElem_of_mem hx
    have := h k (by omega)
    rw [List.getD_eq_getElem?_getD, List.getElem?_eq_getElem hk] at this
    exact this
  have hs : smallB c = true := by
    unfold smallB
    rw [List.all_eq_true]
    intro x hx
    have := hg x hx
    rw [dF (show ¬ x < -2147483648 by omega), dF (show ¬ 2147483648 < x by omega)]; rfl
  have e : boxL c = c.map (fun x => (x, x)) := by unfold boxL; rw [hs]; rfl
  refine ⟨?_, fun i hi => ?_⟩
  · rw [e]
    unfold isBoxB validB
    have hv : (c.map fun x => (x, x)).all vld = true := by
      rw [List.all_eq_true]
      intro x hx
      obtain ⟨y, hy, rfl⟩ := List.mem_map.1 hx
      have := hg y hy
      exact vld_mk (by dsimp only; omega) (Int.le_refl _) (by dsimp only; omega)
    rw [hv, dT (show (((c.map fun x => (x, x)).length : Nat) : Int) = ((r.1.length : Nat) : Int) by rw [List.length_map, hl])]; rfl
  · rw [e]; exact map_getD _ _ _ _ (by omega)

theorem qrow_pt {v : V3} (h : v ∈ qrows) : ∃ t, v = ptV t := by
  simp only [qrows, List.mem_cons, List.not_mem_nil, or_false] at h
  rcases h with rfl | rfl | rfl | rfl | rfl | rfl
  · exact ⟨(65536, (0, 0)), rfl⟩
  · exact ⟨(-65536, (0, 0)), rfl⟩
  · exact ⟨(0, (65536, 0)), rfl⟩
  · exact ⟨(0, (-65536, 0)), rfl⟩
  · exact ⟨(0, (0, 65536)), rfl⟩
  · exact ⟨(0, (0, -65536)), rfl⟩

theorem kquarters_law {l m : List Int} (hl : l.length ≤ maxLen) (hm : m.length ≤ maxLen) : dom_armplanlaw11_KinematicsQuarters l m = true ∧ armplanlaw11_KinematicsQuarters l m = true := by
  unfold dom_armplanlaw11_KinematicsQuarters armplanlaw11_KinematicsQuarters t_armplanlaw11_KinematicsQuarters
  obtain ⟨d1, g1⟩ := scene_ok hl
  generalize armplanmake_Scene l = s at *
  obtain ⟨d2, q2, c2, e2, g2⟩ := confL_ok g1.1 (src0 hm)
  have d2' : dom_armplanlaw11_KinematicsQuarters_armplanmake_Config_L0 ((s.1, ()), ((m, 0), ()), ([], ()), (0, ()), ()) = true := d2
  have e2' : val_armplanlaw11_KinematicsQuarters_armplanmake_Config_L0 ((s.1, ()), ((m, 0), ()), ([], ()), (0, ()), ()) = ((s.1, ()), (q2, ()), (c2, ()), ()) := e2
  obtain ⟨d3, q3, c, e3, g3, g4⟩ := quart_loop g1.1 (src0 hm) g2
  have hn := g1.1.2.1
  have hr := good_robot g1.1
  obtain ⟨d5, v5⟩ := boxR c (by omega)
  obtain ⟨hbox, hbi⟩ := bdBox (r := s.1) g3 (fun i hi => quart_bd (g4 i hi))
  generalize boxL c = b at *
  have e1 : linksL s.1 b = linksN s.1 b s.1.1.length := by unfold linksL; rw [dT hr, hbox]; rfl
  have hx := links_q g1.1 (b := b) (fun j hj => ⟨_, hbi j hj, g4 j hj⟩) (parents_ok hr) s.1.1.length (Nat.le_refl _)
  have m1 := linksN_len s.1 b s.1.1.length
  generalize linksN s.1 b s.1.1.length = p at *
  have key : dom_armplanlaw11_KinematicsQuarters_L2 ((c, ()), (p, ()), (0, ()), ()) = true ∧ val_armplanlaw11_KinematicsQuarters_L2 ((c, ()), (p, ()), (0, ()), ()) = .inl ((c, ()), (p, ()), ()) := by
    unfold dom_armplanlaw11_KinematicsQuarters_L2 val_armplanlaw11_KinematicsQuarters_L2
    refine loop_to (step := step_armplanlaw11_KinematicsQuarters_L2) (fun j => ((c, ()), (p, ()), ((j : Int), ()), ())) _ s.1.1.length (by omega) (fun j hj => ?_) ?_
    · have ew : IntKind.wrap .i64 ((j : Int) + 1) = ((j + 1 : Nat) : Int) := wrap_succ (by omega)
      obtain ⟨⟨k1, k2, k3⟩, t, _, k4⟩ := hx j hj
      obtain ⟨t1, k1⟩ := qrow_pt k1
      obtain ⟨t2, k2⟩ := qrow_pt k2
      obtain ⟨t3, k3⟩ := qrow_pt k3
      have hp : p.getD j (Ty.dflt TPose) = ((ptV t1, (ptV t2, ptV t3)), ptV t) := by
        rw [← k1, ← k2, ← k3, ← k4]
      unfold step_armplanlaw11_KinematicsQuarters_L2 t_armplanlaw11_KinematicsQuarters_L2
      simp only [Tr.optA, m1, dT (show (j : Int) < (s.1.1.length : Int) by omega), dT (show 0 ≤ (j : Int) by omega), Int.toNat_natCast, hp, ptV, dEq, dT trivial, ew, Bool.and_self, Bool.not_true, cond_true, cond_false, id]
    · unfold step_armplanlaw11_KinematicsQuarters_L2 t_armplanlaw11_KinematicsQuarters_L2
      simp only [Tr.optA, m1, dF (show ¬ ((s.1.1.length : Int) < (s.1.1.length : Int)) by omega), cond_false, id]
  simp only [Tr.dom, Tr.ok, Tr.val, d1, d2', e2', d3, e3, d5, v5, (linksF _ _).1, (linksF _ _).2, e1, key.1, key.2, m1, g3, dEq, dT trivial, awake11.1, awake11.2, isL, getL, Bool.and_self, cond_true]
  exact ⟨by first | trivial | rfl, by first | trivial | rfl⟩

end Go.RX

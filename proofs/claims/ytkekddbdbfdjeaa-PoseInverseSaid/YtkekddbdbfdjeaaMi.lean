/-
  Laws of the poses: chains, parts, inverses.
-/
import Derived.Test.YtkekddbdbfdjeaaMf
namespace Go.RX
open Go

/- EXACT VECTORS -/

def addE (x y : E3) : E3 := (x.1 + y.1, (x.2.1 + y.2.1, x.2.2 + y.2.2))

theorem in_up {x : Int × Int} {n d A k : Int} (hk : 0 < k) (h : In x n d A) : In x (k * n) (k * d) A := by
  obtain ⟨v, hd, h1, h2, h3, h4⟩ := h
  have c : ∀ a : Int, a * (k * d) = k * (a * d) := by intro a; grind
  have m : ∀ {a b : Int}, a ≤ b → k * a ≤ k * b := fun h => Int.mul_le_mul_of_nonneg_left h (Int.le_of_lt hk)
  exact ⟨v, Int.mul_pos hk hd, by rw [c]; exact m h1, by rw [c]; exact m h2, by rw [c, ← Int.mul_neg]; exact m h3, by rw [c]; exact m h4⟩
theorem inV_up {v : V3} {e : E3} {d A k : Int} (hk : 0 < k) (h : inV v e d A) : inV v (sc k e) (k * d) A := ⟨in_up hk h.1, in_up hk h.2.1, in_up hk h.2.2⟩
theorem inV_eq {v : V3} {e f : E3} {d d' A : Int} (h : inV v e d A) (he : e = f) (hd : d = d') : inV v f d' A := by rw [← he, ← hd]; exact h
theorem inV_add {u v : V3} {e f : E3} {d A B : Int} (hu : inV u e d A) (hv : inV v f d B) (hAB : A + B ≤ 2147483648) : inV (addV u v) (addE e f) d (A + B) :=
  ⟨in_add hu.1 hv.1 hAB, in_add hu.2.1 hv.2.1 hAB, in_add hu.2.2 hv.2.2 hAB⟩
theorem inV_neg {v : V3} {e : E3} {d A : Int} (h : inV v e d A) : inV (negV v) (sc (-1) e) d A :=
  ⟨in_eq (in_neg h.1) (by simp [sc]) rfl, in_eq (in_neg h.2.1) (by simp [sc]) rfl, in_eq (in_neg h.2.2) (by simp [sc]) rfl⟩
theorem inV_pt {t : E3} {B d : Int} (h : bdE t B) (hB : B ≤ 2147483648) (hd : 0 < d) : inV (ptV t) (sc d t) d B :=
  ⟨in_eq (in_pt hd hB h.1.1 h.1.2) (Int.mul_comm _ _) rfl, in_eq (in_pt hd hB h.2.1.1 h.2.1.2) (Int.mul_comm _ _) rfl, in_eq (in_pt hd hB h.2.2.1 h.2.2.2) (Int.mul_comm _ _) rfl⟩

/-- A rotation applied to what lies in a vector. -/
theorem inV_ap {m : M3} {v : V3} {e : X3} {f : E3} {d d' B : Int} (hm : inM m (scM 65536 e) d 65536) (hv : inV v f d' B) (hB : 0 ≤ B) (hB2 : B + B + B ≤ 2147483648) : inV (applyM m v) (apE e f) (d * d') (B + B + B) := by
  have one : ∀ {x : V3} {g : E3}, inV x (sc 65536 g) d 65536 → In (dotI x v) (dotE g f) (d * d') (B + B + B) := by
    intro x g hx
    have h := in_dot hx hv (C := B) (by decide) hB (Int.le_refl _) hB2 hB
    refine in_scale (k := 65536) (by decide) (in_eq h ?_ rfl)
    unfold dotE sc; grind
  exact ⟨one hm.1, one hm.2.1, one hm.2.2⟩

theorem ap_mu (a b : X3) (v : E3) : apE (muE a b) v = apE a (apE b v) := by
  obtain ⟨⟨a1, a2, a3⟩, ⟨a4, a5, a6⟩, ⟨a7, a8, a9⟩⟩ := a
  obtain ⟨⟨b1, b2, b3⟩, ⟨b4, b5, b6⟩, ⟨b7, b8, b9⟩⟩ := b
  obtain ⟨x, y, z⟩ := v
  simp only [trE, muE, apE, dotE, Prod.mk.injEq]
  refine ⟨?_, ?_, ?_⟩ <;> grind
theorem ap_add (a : X3) (u v : E3) : apE a (addE u v) = addE (apE a u) (apE a v) := by
  obtain ⟨⟨a1, a2, a3⟩, ⟨a4, a5, a6⟩, ⟨a7, a8, a9⟩⟩ := a
  obtain ⟨x, y, z⟩ := v
  obtain ⟨p, q, r⟩ := u
  simp only [addE, apE, dotE, Prod.mk.injEq]
  refine ⟨?_, ?_, ?_⟩ <;> grind
theorem ap_sc (a : X3) (k : Int) (v : E3) : apE a (sc k v) = sc k (apE a v) := by
  obtain ⟨⟨a1, a2, a3⟩, ⟨a4, a5, a6⟩, ⟨a7, a8, a9⟩⟩ := a
  obtain ⟨x, y, z⟩ := v
  simp only [sc, apE, dotE, Prod.mk.injEq]
  refine ⟨?_, ?_, ?_⟩ <;> grind
theorem sc_sc (k l : Int) (v : E3) : sc k (sc l v) = sc (k * l) v := by
  unfold sc; simp only [Int.mul_assoc]
theorem sc_add (k : Int) (u v : E3) : sc k (addE u v) = addE (sc k u) (sc k v) := by
  unfold sc addE; simp only [Int.mul_add]
theorem addE_assoc (u v w : E3) : addE (addE u v) w = addE u (addE v w) := by
  unfold addE; simp only [Int.add_assoc]
theorem sc_cancel (k : Int) (u v : E3) : addE (sc (-k) u) (addE (sc k u) v) = v := by
  obtain ⟨x, y, z⟩ := v
  unfold sc addE
  simp only [Prod.mk.injEq, Int.neg_mul]
  omega
theorem sc_zero (k : Int) (u : E3) : addE (sc k u) (sc (-k) u) = (0, (0, 0)) := by
  unfold sc addE
  simp only [Prod.mk.injEq, Int.neg_mul]
  omega
/-- What stands upright is put back by its transposed matrix. -/
theorem ap_back {e : X3} {d : Int} (h : orth (trE e) d) (v : E3) : apE (trE e) (apE e v) = sc (d * d) v := by
  obtain ⟨h1, h2, h3, h4, h5, h6⟩ := h
  obtain ⟨⟨a1, a2, a3⟩, ⟨a4, a5, a6⟩, ⟨a7, a8, a9⟩⟩ := e
  obtain ⟨x, y, z⟩ := v
  simp only [trE, dotE] at h1 h2 h3 h4 h5 h6
  simp only [trE, apE, dotE, sc, Prod.mk.injEq]
  rw [← h1]
  refine ⟨?_, ?_, ?_⟩
  · have : a1 * (a1 * x + a2 * y + a3 * z) + a4 * (a4 * x + a5 * y + a6 * z) + a7 * (a7 * x + a8 * y + a9 * z) = (a1 * a1 + a4 * a4 + a7 * a7) * x + (a1 * a2 + a4 * a5 + a7 * a8) * y + (a1 * a3 + a4 * a6 + a7 * a9) * z := by grind
    rw [this, h4, h5]; simp
  · have : a2 * (a1 * x + a2 * y + a3 * z) + a5 * (a4 * x + a5 * y + a6 * z) + a8 * (a7 * x + a8 * y + a9 * z) = (a1 * a2 + a4 * a5 + a7 * a8) * x + (a2 * a2 + a5 * a5 + a8 * a8) * y + (a2 * a3 + a5 * a6 + a8 * a9) * z := by grind
    rw [this, h4, h6, h2, h1]; simp
  · have : a3 * (a1 * x + a2 * y + a3 * z) + a6 * (a4 * x + a5 * y + a6 * z) + a9 * (a7 * x + a8 * y + a9 * z) = (a1 * a3 + a4 * a6 + a7 * a9) * x + (a2 * a3 + a5 * a6 + a8 * a9) * y + (a3 * a3 + a6 * a6 + a9 * a9) * z := by grind
    rw [this, h5, h6, h3, h1]; simp

/- CHAINS -/

theorem chain_in {p q : P4} (hp : Mo p) (hq : Mo q) {v : E3} (hv : bdE v 200000) : (armplanref1_Meet (apP (compP p q) (ptV v)).1 (apP p (apP q (ptV v))).1).2 = true ∧ (armplanref1_Meet (apP (compP p q) (ptV v)).2.1 (apP p (apP q (ptV v))).2.1).2 = true ∧
    (armplanref1_Meet (apP (compP p q) (ptV v)).2.2 (apP p (apP q (ptV v))).2.2).2 = true := by
  obtain ⟨_, ⟨e, d, he⟩, t, ht, ep⟩ := hp
  obtain ⟨_, ⟨f, d', hf⟩, u, hu, eq⟩ := hq
  have hd := he.1
  have hd' := hf.1
  have hD := Int.mul_pos hd hd'
  have iv := inV_pt hv (by decide) (d := 1) (by decide)
  have x1 := inV_ap (rt_comp he hf).2.2 iv (by decide) (by decide)
  have x2 := inV_ap he.2.2 (inV_pt hu (by decide) hd') (by decide) (by decide)
  have x3 := inV_add (inV_pt ht (by decide) hD) x2 (by decide)
  have x4 := inV_add x3 (inV_eq x1 rfl (Int.mul_one _)) (by decide)
  have y1 := inV_add (inV_pt hu (by decide) hd') (inV_eq (inV_ap hf.2.2 iv (by decide) (by decide)) rfl (Int.mul_one _)) (by decide)
  have y2 := inV_add (inV_pt ht (by decide) hD) (inV_ap he.2.2 y1 (by decide) (by decide)) (by decide)
  have s : addE (addE (sc (d * d') t) (apE e (sc d' u))) (apE (muE e f) (sc 1 v)) = addE (sc (d * d') t) (apE e (addE (sc d' u) (apE f (sc 1 v)))) := by
    rw [addE_assoc, ap_mu, ap_add]
  have x5 := inV_eq x4 s rfl
  unfold apP compP
  rw [ep, eq]
  exact ⟨in_meet x5.1 y2.1, in_meet x5.2.1 y2.2.1, in_meet x5.2.2 y2.2.2⟩

theorem chain_law {l : List Int} (hl : l.length ≤ maxLen) : dom_armplanlaw5_PoseChain l = true ∧ armplanlaw5_PoseChain l = true := by
  obtain ⟨d1, o1, m1⟩ := motion_ok (src0 hl) true
  obtain ⟨d2, o2, m2⟩ := motion_ok o1 false
  unfold dom_armplanlaw5_PoseChain armplanlaw5_PoseChain t_armplanlaw5_PoseChain
  simp only [Tr.dom, Tr.ok, Tr.val, compPF, apPF, pointR, awake5]
  generalize armplanlaw5_motion (l, 0) true = p at *
  generalize armplanlaw5_motion p.2 false = q at *
  obtain ⟨d3, o3, a3, b3⟩ := signed_ok o2 (k := 200000) (by omega) (by omega)
  generalize armplanmake_Source_Signed q.2 200000 = r3 at *
  obtain ⟨d4, o4, a4, b4⟩ := signed_ok o3 (k := 200000) (by omega) (by omega)
  generalize armplanmake_Source_Signed r3.2 200000 = r4 at *
  obtain ⟨d5, o5, a5, b5⟩ := signed_ok o4 (k := 200000) (by omega) (by omega)
  generalize armplanmake_Source_Signed r4.2 200000 = r5 at *
  have hv : bdE (r3.1, (r4.1, r5.1)) 200000 := ⟨⟨a3, b3⟩, ⟨a4, b4⟩, ⟨a5, b5⟩⟩
  rw [pt_point hv (by decide)]
  obtain ⟨g1, g2, g3⟩ := chain_in m1 m2 hv
  simp only [d1, d2, d3, d4, d5, g1, g2, g3, cond_true, cond_false, Bool.not_true]
  exact ⟨by first | trivial | rfl, by first | trivial | rfl⟩

/- INVERSES -/

theorem wtn_pt {v : V3} {t : E3} {d A B : Int} (h : inV v (sc d t) d A) (hb : bdE t B) (hB : B ≤ 2147483648) : wtnV (ptV t) v = true := by
  obtain ⟨⟨a1, a2⟩, ⟨a3, a4⟩, ⟨a5, a6⟩⟩ := hb
  exact wtnV_iff.2 ⟨in_wtn (in_eq h.1 (Int.mul_comm _ _) rfl) (by omega) (by omega), in_wtn (in_eq h.2.1 (Int.mul_comm _ _) rfl) (by omega) (by omega), in_wtn (in_eq h.2.2 (Int.mul_comm _ _) rfl) (by omega) (by omega)⟩

theorem inverse_in {p : P4} (hp : Mo p) {v : E3} (hv : bdE v 200000) : wtnV (ptV v) (apP (invP p) (apP p (ptV v))) = true ∧ wtnV (ptV v) (apP p (apP (invP p) (ptV v))) = true ∧ wtnV (ptV v) (apP (compP p (invP p)) (ptV v)) = true ∧ wtnP p (invP (invP p)) = true := by
  obtain ⟨hs, ⟨e, d, he⟩, t, ht, ep⟩ := hp
  have hd := he.1
  have hD := Int.mul_pos hd hd
  have iv := inV_pt hv (by decide) (d := 1) (by decide)
  have it := inV_pt ht (by decide) (d := 1) (by decide)
  have hT := rt_tr he
  have back := ap_back he.2.1.2
  have forth : ∀ x, apE e (apE (trE e) x) = sc (d * d) x := fun x => by
    have := ap_back (e := trE e) (d := d) he.2.1.1 x
    exact this
  have one : ∀ x : E3, sc 1 x = x := fun x => by unfold sc; simp
  -- the shift of the inverse
  have n1 := inV_neg (inV_ap hT.2.2 it (by decide) (by decide))
  rw [one, Int.mul_one] at n1
  have hneg : ∀ x, sc d (sc (-1) x) = sc (-d) x := fun x => by rw [sc_sc]; congr 1; omega
  have n2 := inV_up hd n1
  rw [hneg] at n2
  -- there
  have w1 := inV_ap he.2.2 iv (by decide) (by decide)
  rw [one, Int.mul_one] at w1
  have w2 := inV_add (inV_pt ht (by decide) hd) w1 (by decide)
  have z1 := inV_ap hT.2.2 w2 (by decide) (by decide)
  have z2 := inV_add n2 z1 (by decide)
  rw [ap_add, ap_sc, back, sc_cancel] at z2
  -- back
  have u1 := inV_ap hT.2.2 iv (by decide) (by decide)
  rw [one, Int.mul_one] at u1
  have u2 := inV_add n1 u1 (by decide)
  have y1 := inV_ap he.2.2 u2 (by decide) (by decide)
  have y2 := inV_add (inV_pt ht (by decide) hD) y1 (by decide)
  rw [ap_add, ap_sc, forth, forth, sc_sc, show -1 * (d * d) = -(d * d) by omega] at y2
  have y3 : addE (sc (d * d) t) (addE (sc (-(d * d)) t) (sc (d * d) v)) = sc (d * d) v := by
    unfold sc addE
    simp only [Prod.mk.injEq, Int.neg_mul]
    omega
  rw [y3] at y2
  -- composed
  have c1 := inV_ap he.2.2 n1 (by decide) (by decide)
  have c2 := inV_add (inV_pt ht (by decide) hD) c1 (by decide)
  rw [ap_sc, forth, sc_sc, show -1 * (d * d) = -(d * d) by omega, sc_zero] at c2
  have c3 := inV_ap (rt_comp he hT).2.2 iv (by decide) (by decide)
  rw [ap_mu, one, forth, Int.mul_one] at c3
  have c4 := inV_add c2 c3 (by decide)
  have c5 : addE (0, (0, 0)) (sc (d * d) v) = sc (d * d) v := by
    unfold sc addE
    simp only [Int.zero_add]
  rw [c5] at c4
  -- twice
  have b1 := inV_neg (inV_ap he.2.2 n1 (by decide) (by decide))
  rw [ap_sc, forth, sc_sc, sc_sc, show -1 * -1 * (d * d) = d * d by omega] at b1
  have hr : wtnM p.1 p.1 = true := by
    obtain ⟨⟨a, b, c⟩, ⟨d, e, f⟩, ⟨g, i, j⟩⟩ := sm_vM hs
    exact wtnM_iff.2 ⟨wtnV_iff.2 ⟨wtn_refl a, wtn_refl b, wtn_refl c⟩, wtnV_iff.2 ⟨wtn_refl d, wtn_refl e, wtn_refl f⟩, wtnV_iff.2 ⟨wtn_refl g, wtn_refl i, wtn_refl j⟩⟩
  have tt : trn (trn p.1) = p.1 := rfl
  unfold wtnP invP apP compP
  simp only [tt, hr, Bool.true_and]
  rw [ep]
  exact ⟨wtn_pt z2 hv (by decide), wtn_pt y2 hv (by decide), wtn_pt c4 hv (by decide), wtn_pt b1 ht (by decide)⟩

theorem pinverse_law {l : List Int} (hl : l.length ≤ maxLen) (w : Bool) : dom_armplanlaw5_PoseInverse l w = true ∧ armplanlaw5_PoseInverse l w = true := by
  obtain ⟨d1, o1, m1⟩ := motion_ok (src0 hl) w
  unfold dom_armplanlaw5_PoseInverse armplanlaw5_PoseInverse t_armplanlaw5_PoseInverse
  simp only [Tr.dom, Tr.ok, Tr.val, compPF, apPF, invPF, wtnPF, withinVR, pointR, awake5]
  generalize armplanlaw5_motion (l, 0) w = p at *
  obtain ⟨d3, o3, a3, b3⟩ := signed_ok o1 (k := 200000) (by omega) (by omega)
  generalize armplanmake_Source_Signed p.2 200000 = r3 at *
  obtain ⟨d4, o4, a4, b4⟩ := signed_ok o3 (k := 200000) (by omega) (by omega)
  generalize armplanmake_Source_Signed r3.2 200000 = r4 at *
  obtain ⟨d5, o5, a5, b5⟩ := signed_ok o4 (k := 200000) (by omega) (by omega)
  generalize armplanmake_Source_Signed r4.2 200000 = r5 at *
  have hv : bdE (r3.1, (r4.1, r5.1)) 200000 := ⟨⟨a3, b3⟩, ⟨a4, b4⟩, ⟨a5, b5⟩⟩
  rw [pt_point hv (by decide)]
  obtain ⟨g1, g2, g3, g4⟩ := inverse_in m1 hv
  simp only [d1, d3, d4, d5, g1, g2, g3, g4, cond_true]
  exact ⟨by first | trivial | rfl, by first | trivial | rfl⟩

/- PARTS -/

theorem negV_mono {u v : V3} (h : wtnV u v = true) : wtnV (negV u) (negV v) = true := by
  obtain ⟨a, b, c⟩ := wtnV_iff.1 h
  exact wtnV_iff.2 ⟨neg_mono a, neg_mono b, neg_mono c⟩
theorem wtnP_iff {p q : P4} : wtnP p q = true ↔ wtnM p.1 q.1 = true ∧ wtnV p.2 q.2 = true := by unfold wtnP; simp only [Bool.and_eq_true]
theorem compP_mono {p p' q q' : P4} (hp : wtnP p p' = true) (hq : wtnP q q' = true) : wtnP (compP p q) (compP p' q') = true := by
  obtain ⟨a, b⟩ := wtnP_iff.1 hp
  obtain ⟨c, d⟩ := wtnP_iff.1 hq
  exact wtnP_iff.2 ⟨comp_mono a c, addV_mono b (apply_mono a d)⟩
theorem invP_mono {p q : P4} (h : wtnP p q = true) : wtnP (invP p) (invP q) = true := by
  obtain ⟨a, b⟩ := wtnP_iff.1 h
  exact wtnP_iff.2 ⟨trn_mono a, negV_mono (apply_mono (trn_mono a) b)⟩
theorem apP_mono {p q : P4} {u v : V3} (h : wtnP p q = true) (hv : wtnV u v = true) : wtnV (apP p u) (apP q v) = true := by
  obtain ⟨a, b⟩ := wtnP_iff.1 h
  exact addV_mono b (apply_mono a hv)
theorem vV_refl {v : V3} (h : vV v) : wtnV v v = true := wtnV_iff.2 ⟨wtn_refl h.1, wtn_refl h.2.1, wtn_refl h.2.2⟩
theorem vM_refl {m : M3} (h : vM m) : wtnM m m = true := wtnM_iff.2 ⟨vV_refl h.1, vV_refl h.2.1, vV_refl h.2.2⟩
theorem mo_refl {p : P4} (h : Mo p) : wtnP p p = true := wtnP_iff.2 ⟨vM_refl (sm_vM h.1), vV_refl (mo_v h)⟩

theorem pmonotone_law {l m : List Int} (hl : l.length ≤ maxLen) (hm : m.length ≤ maxLen) : dom_armplanlaw5_PoseMonotone l m = true ∧ armplanlaw5_PoseMonotone l m = true := by
  obtain ⟨d1, o1, m1⟩ := motion_ok (src0 hl) true
  obtain ⟨d2, o2, m2⟩ := motion_ok o1 true
  unfold dom_armplanlaw5_PoseMonotone armplanlaw5_PoseMonotone t_armplanlaw5_PoseMonotone
  simp only [Tr.dom, Tr.ok, Tr.val, compPF, apPF, invPF, wtnPF, withinVR, awake5]
  generalize armplanlaw5_motion (l, 0) true = r1 at *
  generalize armplanlaw5_motion r1.2 true = r2 at *
  have v1 := sm_vM m1.1
  have v2 := mo_v m1
  obtain ⟨d3, o3, _⟩ := next_ok (src0 hm) (k := 1073741824) (by omega) (by omega)
  generalize armplanmake_Source_Next (m, 0) 1073741824 = r3 at *
  obtain ⟨d4, o4, _⟩ := next_ok o3 (k := 1073741824) (by omega) (by omega)
  generalize armplanmake_Source_Next r3.2 1073741824 = r4 at *
  obtain ⟨d5, p5⟩ := part_wtn v2.1 r3.1 r4.1
  generalize armplanmake_Part r1.1.2.1 r3.1 r4.1 = r5 at *
  obtain ⟨d6, o6, _⟩ := next_ok o4 (k := 1073741824) (by omega) (by omega)
  generalize armplanmake_Source_Next r4.2 1073741824 = r6 at *
  obtain ⟨d7, o7, _⟩ := next_ok o6 (k := 1073741824) (by omega) (by omega)
  generalize armplanmake_Source_Next r6.2 1073741824 = r7 at *
  obtain ⟨d8, p8⟩ := part_wtn v1.1.1 r6.1 r7.1
  generalize armplanmake_Part r1.1.1.1.1 r6.1 r7.1 = r8 at *
  obtain ⟨d9, o9, _⟩ := next_ok o7 (k := 1073741824) (by omega) (by omega)
  generalize armplanmake_Source_Next r7.2 1073741824 = r9 at *
  obtain ⟨d10, o10, _⟩ := next_ok o9 (k := 1073741824) (by omega) (by omega)
  generalize armplanmake_Source_Next r9.2 1073741824 = r10 at *
  obtain ⟨d11, p11⟩ := part_wtn v1.1.2.1 r9.1 r10.1
  generalize armplanmake_Part r1.1.1.1.2.1 r9.1 r10.1 = r11 at *
  obtain ⟨d12, o12, _⟩ := next_ok o10 (k := 1073741824) (by omega) (by omega)
  generalize armplanmake_Source_Next r10.2 1073741824 = r12 at *
  obtain ⟨d13, o13, _⟩ := next_ok o12 (k := 1073741824) (by omega) (by omega)
  generalize armplanmake_Source_Next r12.2 1073741824 = r13 at *
  obtain ⟨d14, p14⟩ := part_wtn v1.1.2.2 r12.1 r13.1
  generalize armplanmake_Part r1.1.1.1.2.2 r12.1 r13.1 = r14 at *
  obtain ⟨d15, o15, _⟩ := next_ok o13 (k := 1073741824) (by omega) (by omega)
  generalize armplanmake_Source_Next r13.2 1073741824 = r15 at *
  obtain ⟨d16, o16, _⟩ := next_ok o15 (k := 1073741824) (by omega) (by omega)
  generalize armplanmake_Source_Next r15.2 1073741824 = r16 at *
  obtain ⟨d17, p17⟩ := part_wtn v2.2.1 r15.1 r16.1
  generalize armplanmake_Part r1.1.2.2.1 r15.1 r16.1 = r17 at *
  obtain ⟨d18, o18, _⟩ := next_ok o16 (k := 1073741824) (by omega) (by omega)
  generalize armplanmake_Source_Next r16.2 1073741824 = r18 at *
  obtain ⟨d19, o19, _⟩ := next_ok o18 (k := 1073741824) (by omega) (by omega)
  generalize armplanmake_Source_Next r18.2 1073741824 = r19 at *
  obtain ⟨d20, p20⟩ := part_wtn v1.2.1.1 r18.1 r19.1
  generalize armplanmake_Part r1.1.1.2.1.1 r18.1 r19.1 = r20 at *
  obtain ⟨d21, o21, _⟩ := next_ok o19 (k := 1073741824) (by omega) (by omega)
  generalize armplanmake_Source_Next r19.2 1073741824 = r21 at *
  obtain ⟨d22, o22, _⟩ := next_ok o21 (k := 1073741824) (by omega) (by omega)
  generalize armplanmake_Source_Next r21.2 1073741824 = r22 at *
  obtain ⟨d23, p23⟩ := part_wtn v1.2.1.2.1 r21.1 r22.1
  generalize armplanmake_Part r1.1.1.2.1.2.1 r21.1 r22.1 = r23 at *
  obtain ⟨d24, o24, _⟩ := next_ok o22 (k := 1073741824) (by omega) (by omega)
  generalize armplanmake_Source_Next r22.2 1073741824 = r24 at *
  obtain ⟨d25, o25, _⟩ := next_ok o24 (k := 1073741824) (by omega) (by omega)
  generalize armplanmake_Source_Next r24.2 1073741824 = r25 at *
  obtain ⟨d26, p26⟩ := part_wtn v1.2.1.2.2 r24.1 r25.1
  generalize armplanmake_Part r1.1.1.2.1.2.2 r24.1 r25.1 = r26 at *
  obtain ⟨d27, o27, _⟩ := next_ok o25 (k := 1073741824) (by omega) (by omega)
  generalize armplanmake_Source_Next r25.2 1073741824 = r27 at *
  obtain ⟨d28, o28, _⟩ := next_ok o27 (k := 1073741824) (by omega) (by omega)
  generalize armplanmake_Source_Next r27.2 1073741824 = r28 at *
  obtain ⟨d29, p29⟩ := part_wtn v2.2.2 r27.1 r28.1
  generalize armplanmake_Part r1.1.2.2.2 r27.1 r28.1 = r29 at *
  obtain ⟨d30, o30, _⟩ := next_ok o28 (k := 1073741824) (by omega) (by omega)
  generalize armplanmake_Source_Next r28.2 1073741824 = r30 at *
  obtain ⟨d31, o31, _⟩ := next_ok o30 (k := 1073741824) (by omega) (by omega)
  generalize armplanmake_Source_Next r30.2 1073741824 = r31 at *
  obtain ⟨d32, p32⟩ := part_wtn v1.2.2.1 r30.1 r31.1
  generalize armplanmake_Part r1.1.1.2.2.1 r30.1 r31.1 = r32 at *
  obtain ⟨d33, o33, _⟩ := next_ok o31 (k := 1073741824) (by omega) (by omega)
  generalize armplanmake_Source_Next r31.2 1073741824 = r33 at *
  obtain ⟨d34, o34, _⟩ := next_ok o33 (k := 1073741824) (by omega) (by omega)
  generalize armplanmake_Source_Next r33.2 1073741824 = r34 at *
  obtain ⟨d35, p35⟩ := part_wtn v1.2.2.2.1 r33.1 r34.1
  generalize armplanmake_Part r1.1.1.2.2.2.1 r33.1 r34.1 = r35 at *
  obtain ⟨d36, o36, _⟩ := next_ok o34 (k := 1073741824) (by omega) (by omega)
  generalize armplanmake_Source_Next r34.2 1073741824 = r36 at *
  obtain ⟨d37, o37, _⟩ := next_ok o36 (k := 1073741824) (by omega) (by omega)
  generalize armplanmake_Source_Next r36.2 1073741824 = r37 at *
  obtain ⟨d38, p38⟩ := part_wtn v1.2.2.2.2 r36.1 r37.1
  generalize armplanmake_Part r1.1.1.2.2.2.2 r36.1 r37.1 = r38 at *
  have hp : wtnP (((r8, (r11, r14)), ((r20, (r23, r26)), (r32, (r35, r38)))), (r5, (r17, r29))) r1.1 = true :=
    wtnP_iff.2 ⟨wtnM_iff.2 ⟨wtnV_iff.2 ⟨p8, p11, p14⟩, wtnV_iff.2 ⟨p20, p23, p26⟩, wtnV_iff.2 ⟨p32, p35, p38⟩⟩, wtnV_iff.2 ⟨p5, p17, p29⟩⟩
  have h2 := mo_refl m2
  have hv := vV_refl (mo_v m2)
  have g1 := compP_mono hp h2
  have g2 := compP_mono h2 hp
  have g3 := invP_mono hp
  have g4 := apP_mono hp hv
  simp only [d1, d2, d3, d4, d5, d6, d7, d8, d9, d10, d11, d12, d13, d14, d15, d16, d17, d18, d19, d20, d21, d22, d23, d24, d25, d26, d27, d28, d29, d30, d31, d32, d33, d34, d35, d36, d37, d38, hp, g1, g2, g3, g4, cond_true]
  exact ⟨by first | trivial | rfl, by first | trivial | rfl⟩

end Go.RX

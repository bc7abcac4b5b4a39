/-
  The operations, sixth part: append.
-/
import Derived.Test.YtleejiihlldflaaGreatRl
namespace Go.RX

section
variable {P : Program} {G : Gh} {w : World} {h : List HObj}

/-- The rows of data, one behind the other. -/
theorem rows_of {t : Ty} {fr : Nat → Nat → Prop} {B : Nat} : ∀ {xs : List t.den} {o : Nat},
    (∀ i x, xs[i]? = some x → ∃ us, DV fr w t x us ∧ us.length = t.width ∧ ∀ j u, us[j]? = some u → fr B (o + i * t.width + j) ∧ w.cell? ⟨B, o + i * t.width + j, none⟩ = some u) →
    ∃ news : List Value, news.length = xs.length * t.width ∧ (∀ i x, xs[i]? = some x → DV fr w t x ((news.drop (i * t.width)).take t.width)) ∧ ∀ j u, news[j]? = some u → w.cell? ⟨B, o + j, none⟩ = some u
  | [], o, _ => ⟨[], by simp, fun i x hx => by simp at hx, fun j u hj => by simp at hj⟩
  | x :: xs, o, hx => by
    obtain ⟨us, h1, h2, h3⟩ := hx 0 x rfl
    obtain ⟨news, a1, a2, a3⟩ := rows_of (xs := xs) (o := o + t.width) (fun i y hy => by
      obtain ⟨vs, b1, b2, b3⟩ := hx (i + 1) y (by simpa using hy)
      refine ⟨vs, b1, b2, fun j u hj => ?_⟩
      have := b3 j u hj
      rw [Nat.add_mul, Nat.one_mul, show o + (i * t.width + t.width) + j = o + t.width + i * t.width + j by omega] at this
      exact this)
    refine ⟨us ++ news, by simp [a1, h2, Nat.add_mul]; omega, fun i y hy => ?_, fun j u hj => ?_⟩
    · cases i with
      | zero =>
        simp only [List.getElem?_cons_zero, Option.some.injEq] at hy
        subst hy
        simpa [← h2] using h1
      | succ i =>
        have := a2 i y (by simpa using hy)
        rw [Nat.add_mul, Nat.one_mul, Nat.add_comm, ← List.drop_drop]
        have e : (us ++ news).drop t.width = news := by rw [← h2]; simp
        rw [e]; exact this
    · by_cases hj' : j < us.length
      · rw [List.getElem?_append_left hj'] at hj
        have := (h3 j u hj).2
        simpa using this
      · rw [List.getElem?_append_right (by omega)] at hj
        have := a3 _ u hj
        rw [show o + t.width + (j - us.length) = o + j by omega] at this
        exact this

theorem castL_id {t : Ty} (hT : t = t) (xs : List t.den) : castL hT xs = xs := rfl

theorem elems_ok (s : SimH G h w) {t : Ty} (hw : 1 ≤ t.width) {x : AV} {v : Value} (hx : Rep G w x v) {ys : List t.den} (he : elems h t x = some ys) :
    ∃ (a : Option Addr) (c : Nat) (news : List Value), v = .slice a ys.length c ∧ news.length = ys.length * t.width ∧ (∀ i y, ys[i]? = some y → DV G.fr w t y ((news.drop (i * t.width)).take t.width)) ∧
      (ys = [] ∨ ∃ B o, a = some ⟨B, o, none⟩ ∧ ∀ j u, news[j]? = some u → w.cell? ⟨B, o + j, none⟩ = some u) := by
  unfold elems at he
  split at he
  · rename_i zs hz
    simp only [Option.some.injEq] at he
    subst he
    cases x <;> simp only [unflat] at hz <;> try (simp at hz; done)
    case lst t' xs =>
      split at hz
      · rename_i ht
        subst ht
        simp only [Option.some.injEq, Prod.mk.injEq, and_true] at hz
        rw [castL_id] at hz
        subst hz
        cases hx
        rename_i a cap hcp hsl
        rcases hsl with hsl | ⟨B, o, rfl, hsl⟩
        · subst hsl
          exact ⟨a, cap, [], rfl, by simp, fun i y hy => by simp at hy, .inl rfl⟩
        · obtain ⟨news, h1, h2, h3⟩ := rows_of hsl
          exact ⟨_, cap, news, rfl, h1, h2, .inr ⟨B, o, rfl, h3⟩⟩
      · simp at hz
    case nils =>
      simp only [Option.some.injEq, Prod.mk.injEq, and_true] at hz
      subst hz
      cases hx
      exact ⟨none, 0, [], rfl, by simp, fun i y hy => by simp at hy, .inl rfl⟩
    case vec k =>
      split at hz
      · rename_i e t' xs lk hk
        split at hz
        · rename_i ht
          subst ht
          simp only [Option.some.injEq, Prod.mk.injEq, and_true] at hz
          rw [castL_id] at hz
          subst hz
          obtain ⟨q0, q1, us, q2, q3, q4⟩ := s.objs k _ hk
          cases hx
          rcases q2.2 with ⟨r1, r2⟩ | ⟨g, cap, cur, r1, _⟩
          · have hx0 : xs = [] := List.eq_nil_of_length_eq_zero r2
            subst hx0
            exact ⟨none, 0, [], r1, by simp, fun i y hy => by simp at hy, .inl rfl⟩
          · refine ⟨_, cap, us, r1, q2.1, q3, .inr ⟨g, 0, rfl, fun j u hj => ?_⟩⟩
            have := World.ownsRow.cells (w := w) q2 (g := g) (by rw [r1]; rfl) j u hj
            rw [add_lit] at this
            exact this
        · simp at hz
      · simp at hz
  · simp at he

theorem sim_dead (s : SimH G h w) (k : Nat) : SimH G (h.set k .dead) w where
  n := by simp [s.n]
  objs b o hb := by
    rw [List.getElem?_set] at hb
    split at hb
    · split at hb
      · simp only [Option.some.injEq] at hb; subst hb; trivial
      · simp at hb
    · exact s.objs b o hb
  own := s.own

/-- A new vector without memory. -/
theorem new_nil (s : SimH G h w) (e : TypeId) (t : Ty) (hw : 1 ≤ t.width) (lk : Bool) :
    ∃ G', Ext G w G' w ∧ SimH G' (h ++ [.vec e t [] lk]) w ∧ Rep G' w (.vec h.length) (.slice none 0 0) := by
  let G' : Gh := { n := G.n + 1, loc := upd G.loc G.n (.slice none 0 0), wd := upd G.wd G.n t.width, bo := G.bo, fr := G.fr }
  have ex : Ext G w G' w := ⟨Nat.le_succ _, fun b hb _ => ⟨upd_ne _ _ (by omega), upd_ne _ _ (by omega)⟩, rfl, rfl, rfl, Nat.le_refl _, fun _ _ hb => ⟨rfl, hb, fun _ => Iff.rfl⟩, Keeps.refl _ _, fun _ => rfl⟩
  have hloc : G'.loc G.n = .slice none 0 0 := upd_same _ _ _
  refine ⟨G', ex, ⟨by simp [G', s.n], fun b o hb => ?_, fun B b hb => ?_⟩, ?_⟩
  · by_cases hlt : b < h.length
    · rw [List.getElem?_append_left hlt] at hb
      exact (s.objs b o hb).mono ex ⟨upd_ne _ _ (by rw [s.n]; omega), upd_ne _ _ (by rw [s.n]; omega)⟩ fun B hB => ⟨rfl, hB, fun _ => Iff.rfl⟩
    · rw [List.getElem?_append_right (by omega)] at hb
      have e : b = h.length := by
        have := (List.getElem?_eq_some_iff.1 hb).1
        simp at this; omega
      subst e
      simp only [Nat.sub_self, List.getElem?_cons_zero, Option.some.injEq] at hb
      subst hb
      rw [← s.n]
      refine ⟨hw, upd_same _ _ _, [], ?_, fun i x hx => by simp at hx, fun B hB => ?_⟩
      · rw [hloc]; exact World.ownsRow_nil w 0 e t.width
      · rw [hloc] at hB; simp [Value.ownBlock] at hB
  · obtain ⟨h1, h2⟩ := s.own B b hb
    exact ⟨Nat.lt_succ_of_lt h1, h2⟩
  · have := Rep.vec (G := G') (w := w) G.n (Nat.lt_succ_self _) (by rw [hloc]; rfl)
    rw [hloc] at this
    rw [← s.n]; exact this

/-- The row of vector k passes to a new vector, with more in it. -/
theorem pass_row (s : SimH G h w) {k g cap : Nat} {e : TypeId} {t : Ty} {xs ys : List t.den} {lk : Bool} {cur : Array Value} {news : List Value} (hk : h[k]? = some (.vec e t xs lk))
    (hloc : G.loc k = .slice (some ⟨g, 0, none⟩) xs.length cap) (hcur : w.heap[g]? = some (.cells cur e (0, 0))) (hcap : xs.length + ys.length ≤ cap) (hnl : news.length = ys.length * t.width)
    (hny : ∀ i y, ys[i]? = some y → DV G.fr w t y ((news.drop (i * t.width)).take t.width)) :
    ∃ G', Ext G w G' (w.setRow g (cur.toList.take (xs.length * t.width) ++ news ++ cur.toList.drop (xs.length * t.width + news.length)).toArray) ∧
      SimH G' (h.set k .dead ++ [.vec e t (xs ++ ys) lk]) (w.setRow g (cur.toList.take (xs.length * t.width) ++ news ++ cur.toList.drop (xs.length * t.width + news.length)).toArray) ∧
      Rep G' (w.setRow g (cur.toList.take (xs.length * t.width) ++ news ++ cur.toList.drop (xs.length * t.width + news.length)).toArray) (.vec h.length) (.slice (some ⟨g, 0, none⟩) (xs.length + ys.length) cap) := by
  obtain ⟨q0, q1, us, q2, q3, q4⟩ := s.objs k _ hk
  obtain ⟨o1, o2, o3⟩ := q4 g (by rw [hloc]; rfl)
  have hgs := (s.own g k o1).2
  rcases q2.2 with ⟨r1, r2⟩ | ⟨g', cap', cur', r1, _, r3, r4, r5, r6, r7⟩
  · rw [hloc] at r1; simp at r1
  rw [hloc] at r1
  simp only [Value.slice.injEq, Option.some.injEq, Addr.mk.injEq, and_true, true_and] at r1
  obtain ⟨rfl, rfl⟩ := r1
  rw [hcur] at r3
  simp only [Option.some.injEq, Obj.cells.injEq, and_true] at r3
  subst r3
  have hcs : cur.toList.length = cap * t.width := by simpa using r6
  have hfit : (xs.length + ys.length) * t.width ≤ cap * t.width := Nat.mul_le_mul_right _ hcap
  rw [Nat.add_mul] at hfit
  generalize hw' : w.setRow g (cur.toList.take (xs.length * t.width) ++ news ++ cur.toList.drop (xs.length * t.width + news.length)).toArray = w'
  have hnew : w'.heap[g]? = some (.cells (cur.toList.take (xs.length * t.width) ++ news ++ cur.toList.drop (xs.length * t.width + news.length)).toArray e (0, 0)) := by
    rw [← hw']; exact setRow_heap w g cur _ e (0, 0) hcur
  have hoth : ∀ B, B ≠ g → w'.heap[B]? = w.heap[B]? := fun B hB => by rw [← hw']; exact setRow_get w g _ B hB
  let G' : Gh := { n := G.n + 1, loc := upd G.loc G.n (.slice (some ⟨g, 0, none⟩) (xs.length + ys.length) cap), wd := upd G.wd G.n t.width, bo := upd G.bo g (some G.n), fr := G.fr }
  have hkn : k < G.n := by rw [s.n]; exact (List.getElem?_eq_some_iff.1 hk).1
  have ex : Ext G w G' w' := by
    refine ⟨Nat.le_succ _, fun b hb _ => ⟨upd_ne _ _ (by omega), upd_ne _ _ (by omega)⟩, by rw [← hw']; rfl, by rw [← hw']; rfl, by rw [← hw']; rfl, by rw [← hw']; simp [World.setRow], fun B hB hb => ?_, fun B o u h1 h2 => ⟨h1, ?_⟩, by rw [← hw']; exact setRow_fz hcur⟩
    · have hBg : B ≠ g := fun e => by rw [e, o1] at hb; simp at hb
      exact ⟨hoth B hBg, by show upd G.bo _ _ B = none; rw [upd_ne _ _ hBg]; exact hb, fun _ => Iff.rfl⟩
    · by_cases e : B = g
      · subst e
        have ho : o < xs.length * t.width := by
          rcases Nat.lt_or_ge o (xs.length * t.width) with hh | hh
          · exact hh
          · exact absurd h1 (o3 o hh)
        simp only [World.cell?, hcur, hnew] at h2 ⊢
        have hol : o < cur.toList.length := by omega
        simp only [Option.isSome_none, Bool.false_eq_true, if_false] at h2 ⊢
        rw [List.getElem?_toArray, List.append_assoc, List.getElem?_append_left (by simp; omega), List.getElem?_take, if_pos ho]
        simpa using h2
      · simp only [World.cell?, hoth B e] at h2 ⊢
        exact h2
  have hloc' : G'.loc G.n = .slice (some ⟨g, 0, none⟩) (xs.length + ys.length) cap := upd_same _ _ _
  refine ⟨G', ex, ⟨by simp [G', s.n], fun b o hb => ?_, fun B b hb => ?_⟩, ?_⟩
  · by_cases hlt : b < h.length
    · rw [List.getElem?_append_left (by simpa using hlt), List.getElem?_set] at hb
      by_cases ek : k = b
      · subst ek
        rw [if_pos rfl, if_pos hlt] at hb
        simp only [Option.some.injEq] at hb
        subst hb
        trivial
      · rw [if_neg ek] at hb
        refine (s.objs b o hb).mono ex ⟨upd_ne _ _ (by rw [s.n]; omega), upd_ne _ _ (by rw [s.n]; omega)⟩ fun B hB => ?_
        have hBg : B ≠ g := fun e => by rw [e, o1] at hB; exact ek (Option.some.inj hB)
        exact ⟨hoth B hBg, by show upd G.bo _ _ B = _; rw [upd_ne _ _ hBg]; exact hB, fun _ => Iff.rfl⟩
    · rw [List.getElem?_append_right (by simp; omega)] at hb
      have e : b = h.length := by
        have := (List.getElem?_eq_some_iff.1 hb).1
        simp at this; omega
      subst e
      simp only [List.length_set, Nat.sub_self, List.getElem?_cons_zero, Option.some.injEq] at hb
      subst hb
      rw [← s.n]
      have hul : us.length = xs.length * t.width := q2.1
      have htk : (cur.toList.take (xs.length * t.width) ++ news ++ cur.toList.drop (xs.length * t.width + news.length)).take ((xs.length + ys.length) * t.width) = us ++ news := by
        rw [r7, Nat.add_mul, ← hul, ← hnl, ← List.length_append, List.take_left']
        rfl
      refine ⟨q0, upd_same _ _ _, us ++ news, ?_, fun i x hx => ?_, fun B hB => ?_⟩
      · rw [hloc', List.length_append]
        refine ⟨by simp [hul, hnl, Nat.add_mul], .inr ⟨g, cap, _, rfl, Nat.zero_le _, hnew, hcap, r5, ?_, by simpa using htk⟩⟩
        have : (cur.toList.take (xs.length * t.width) ++ news ++ cur.toList.drop (xs.length * t.width + news.length)).length = cap * t.width := by
          rw [List.length_append, List.length_append, List.length_take, List.length_drop, hcs, hnl]; omega
        simpa using this
      · by_cases hi : i < xs.length
        · rw [List.getElem?_append_left hi] at hx
          have := (q3 i x hx).mono ex.keeps
          have hb : (i + 1) * t.width ≤ xs.length * t.width := Nat.mul_le_mul_right _ hi
          rw [Nat.add_mul, Nat.one_mul] at hb
          rw [List.drop_append_of_le_length (by omega), List.take_append_of_le_length (by simp; omega)]
          exact this
        · rw [List.getElem?_append_right (by omega)] at hx
          have := (hny (i - xs.length) x hx).mono ex.keeps
          have hm : i * t.width = us.length + (i - xs.length) * t.width := by
            rw [hul, ← Nat.add_mul]; congr 1; omega
          rw [hm, ← List.drop_drop, List.drop_left]
          exact this
      · rw [hloc'] at hB
        simp only [Value.ownBlock, Option.some.injEq] at hB
        subst hB
        exact ⟨upd_same _ _ _, o2, fun o ho => o3 o (by rw [List.length_append, Nat.add_mul] at ho; omega)⟩
  · change upd G.bo _ _ B = some b at hb
    by_cases e : B = g
    · subst e
      rw [upd_same] at hb
      simp only [Option.some.injEq] at hb
      subst hb
      exact ⟨Nat.lt_succ_self _, Nat.lt_of_lt_of_le hgs ex.size⟩
    · rw [upd_ne _ _ e] at hb
      obtain ⟨h1, h2⟩ := s.own B b hb
      exact ⟨Nat.lt_succ_of_lt h1, Nat.lt_of_lt_of_le h2 ex.size⟩
  · have := Rep.vec (G := G') (w := w') G.n (Nat.lt_succ_self _) (by rw [hloc']; rfl)
    rw [hloc'] at this
    rw [← s.n]; exact this

end
end Go.RX

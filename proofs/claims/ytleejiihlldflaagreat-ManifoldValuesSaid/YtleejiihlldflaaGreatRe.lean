/-
  Data out of cells, and back; locking; new objects; stores.
-/
import Derived.Test.YtleejiihlldflaaGreatRd
namespace Go.RX

theorem flat_rep {G : Gh} {w : World} : ∀ {t : Ty} {x : t.den} {vs : List Value}, DV G.fr w t x vs → RepL G w (flat t x) vs
  | .unit, _, _, h => by simp [DV] at h; subst h; exact RepL.nil G w
  | .int k, x, _, h => by simp [DV] at h; subst h; exact RepL.cons (.int k x) (RepL.nil G w)
  | .bool, x, _, h => by simp [DV] at h; subst h; exact RepL.cons (.bool x) (RepL.nil G w)
  | .str, x, _, h => by simp [DV] at h; subst h; exact RepL.cons (.str x) (RepL.nil G w)
  | .list t, xs, _, h => by
    obtain ⟨a, cap, rfl, hcp, hs⟩ := h
    exact RepL.cons (.lst t xs a cap hcp hs) (RepL.nil G w)
  | .one t, _, _, h => flat_rep (t := t) h
  | .pair a b, _, _, h => by
    obtain ⟨v1, v2, rfl, h1, h2⟩ := h
    exact (flat_rep (t := a) h1).append (flat_rep (t := b) h2)

theorem flat_len : ∀ (t : Ty) (x : t.den), (flat t x).length = t.width
  | .unit, _ => rfl
  | .int _, _ => rfl
  | .bool, _ => rfl
  | .str, _ => rfl
  | .list _, _ => rfl
  | .one t, x => flat_len t x
  | .pair a b, x => by simp [flat, Ty.width, flat_len a x.1, flat_len b x.2]

theorem vecIds_mem : ∀ (l : List AV) (j : Nat), j ∈ vecIds l ↔ .vec j ∈ l
  | [], j => by simp [vecIds]
  | c :: l, j => by
    have := vecIds_mem l j
    cases c <;> simp_all [vecIds]

theorem flat_noVec : ∀ (t : Ty) (x : t.den) (j : Nat), j ∉ vecIds (flat t x)
  | .unit, _, _ => by simp [flat, vecIds]
  | .int _, _, _ => by simp [flat, vecIds]
  | .bool, _, _ => by simp [flat, vecIds]
  | .str, _, _ => by simp [flat, vecIds]
  | .list _, _, _ => by simp [flat, vecIds]
  | .one t, x, j => flat_noVec t x j
  | .pair a b, x, j => by
    have h1 := flat_noVec a x.1 j
    have h2 := flat_noVec b x.2 j
    rw [vecIds_mem] at *
    simp only [flat, List.mem_append, not_or]
    exact ⟨h1, h2⟩

/-- Vector k, as it stands in h, is data that nobody will write any more. -/
def Sealed (G : Gh) (w : World) (h : List HObj) (k : Nat) : Prop :=
  ∀ e t xs lk, h[k]? = some (.vec e t xs lk) → ∃ a cap, G.loc k = .slice a xs.length cap ∧ xs.length ≤ cap ∧ SL G.fr w (fun x us => DV G.fr w t x us) t.width xs a

theorem Sealed.mono {G G' : Gh} {w w' : World} {h : List HObj} {k : Nat} (e : Ext G w G' w') (hk : k < G.n) (hs : Sealed G w h k) : Sealed G' w' h k := by
  intro el t xs lk hh
  obtain ⟨a, cap, h1, h3, h2⟩ := hs el t xs lk hh
  exact ⟨a, cap, (e.loc k hk (by rw [h1]; exact one_ne rfl)).1.trans h1, h3, h2.mono e.keeps fun x us hx => hx.mono e.keeps⟩

theorem vecIds_cons_sub (c : AV) (cs : List AV) (k : Nat) (h : k ∈ vecIds cs) : k ∈ vecIds (c :: cs) := by
  cases c <;> simp_all [vecIds]

theorem cast_eq {t t' : Ty} (h : t = t') (xs : List t.den) {fr : Nat → Nat → Prop} {w : World} {a : Option Addr} :
    (castL h xs).length = xs.length ∧ (SL fr w (fun x us => DV fr w t' x us) t'.width (castL h xs) a ↔ SL fr w (fun x us => DV fr w t x us) t.width xs a) := by
  subst h; exact ⟨rfl, Iff.rfl⟩

theorem unflat_rep {G : Gh} {w : World} {h : List HObj} : ∀ {t : Ty} {cs : List AV} {vs : List Value} {x : t.den} {rest : List AV}, RepL G w cs vs → (∀ k ∈ vecIds cs, Sealed G w h k) →
    unflat h t cs = some (x, rest) → ∃ v1 v2, vs = v1 ++ v2 ∧ DV G.fr w t x v1 ∧ RepL G w rest v2 ∧ ∀ k ∈ vecIds rest, k ∈ vecIds cs
  | .unit, cs, vs, x, rest, hr, hs, hu => by
    simp [unflat] at hu
    subst hu
    exact ⟨[], vs, rfl, rfl, hr, fun k hk => hk⟩
  | .int k, cs, vs, x, rest, hr, hs, hu => by
    cases cs with
    | nil => simp [unflat] at hu
    | cons c cs =>
      obtain ⟨v, us, rfl, h1, h2⟩ := hr.cons_inv
      cases c <;> simp [unflat] at hu
      obtain ⟨rfl, rfl, rfl⟩ := hu
      cases h1
      exact ⟨[_], us, rfl, rfl, h2, fun k hk => vecIds_cons_sub _ _ _ hk⟩
  | .bool, cs, vs, x, rest, hr, hs, hu => by
    cases cs with
    | nil => simp [unflat] at hu
    | cons c cs =>
      obtain ⟨v, us, rfl, h1, h2⟩ := hr.cons_inv
      cases c <;> simp [unflat] at hu
      obtain ⟨rfl, rfl⟩ := hu
      cases h1
      exact ⟨[_], us, rfl, rfl, h2, fun k hk => vecIds_cons_sub _ _ _ hk⟩
  | .str, cs, vs, x, rest, hr, hs, hu => by
    cases cs with
    | nil => simp [unflat] at hu
    | cons c cs =>
      obtain ⟨v, us, rfl, h1, h2⟩ := hr.cons_inv
      cases c <;> simp [unflat] at hu
      obtain ⟨rfl, rfl⟩ := hu
      cases h1
      exact ⟨[_], us, rfl, rfl, h2, fun k hk => vecIds_cons_sub _ _ _ hk⟩
  | .list t, cs, vs, x, rest, hr, hs, hu => by
    cases cs with
    | nil => simp [unflat] at hu
    | cons c cs =>
      obtain ⟨v, us, rfl, h1, h2⟩ := hr.cons_inv
      cases c <;> simp only [unflat] at hu <;> try (simp at hu; done)
      case lst t' xs =>
        split at hu
        · rename_i ht
          simp only [Option.some.injEq, Prod.mk.injEq] at hu
          obtain ⟨rfl, rfl⟩ := hu
          cases h1
          rename_i a cap hcp hsl
          exact ⟨[_], us, rfl, ⟨a, cap, by rw [(cast_eq (fr := G.fr) (w := w) (a := a) ht xs).1], by rw [(cast_eq (fr := G.fr) (w := w) (a := a) ht xs).1]; exact hcp, (cast_eq ht xs).2.2 hsl⟩, h2, fun k hk => vecIds_cons_sub _ _ _ hk⟩
        · simp at hu
      case nils =>
        simp only [Option.some.injEq, Prod.mk.injEq] at hu
        obtain ⟨rfl, rfl⟩ := hu
        cases h1
        exact ⟨[_], us, rfl, ⟨none, 0, rfl, Nat.le_refl _, .inl rfl⟩, h2, fun k hk => vecIds_cons_sub _ _ _ hk⟩
      case vec k =>
        split at hu
        · rename_i e t' xs lk hk
          split at hu
          · rename_i ht
            simp only [Option.some.injEq, Prod.mk.injEq] at hu
            obtain ⟨rfl, rfl⟩ := hu
            obtain ⟨a, cap, q1, hcp, q2⟩ := hs k (by simp [vecIds]) e t' xs lk hk
            cases h1
            exact ⟨[_], us, rfl, ⟨a, cap, by rw [q1, (cast_eq (fr := G.fr) (w := w) (a := a) ht xs).1], by rw [(cast_eq (fr := G.fr) (w := w) (a := a) ht xs).1]; exact hcp, (cast_eq ht xs).2.2 q2⟩, h2, fun k hk => vecIds_cons_sub _ _ _ hk⟩
          · simp at hu
        · simp at hu
  | .one t, cs, vs, x, rest, hr, hs, hu => unflat_rep (t := t) hr hs hu
  | .pair a b, cs, vs, x, rest, hr, hs, hu => by
    simp only [unflat] at hu
    split at hu
    · rename_i y cs' h1
      split at hu
      · rename_i z cs'' h2
        simp only [Option.some.injEq, Prod.mk.injEq] at hu
        obtain ⟨rfl, rfl⟩ := hu
        obtain ⟨v1, v2, rfl, d1, r1, s1⟩ := unflat_rep (t := a) hr hs h1
        obtain ⟨u1, u2, rfl, d2, r2, s2⟩ := unflat_rep (t := b) r1 (fun k hk => hs k (s1 k hk)) h2
        exact ⟨v1 ++ u1, u2, by simp, ⟨v1, u1, rfl, d1, d2⟩, r2, fun k hk => s1 k (s2 k hk)⟩
      · simp at hu
    · simp at hu

/-- A whole value that is data. -/
def DVal (fr : Nat → Nat → Prop) (w : World) (T : Ty) (x : T.den) (v : Value) : Prop :=
  bif T.isAgg then ∃ vs : Array Value, v = .agg vs ∧ DV fr w T x vs.toList else DV fr w T x [v]

theorem DVal.mono {fr fr' : Nat → Nat → Prop} {w w' : World} (hk : Keeps fr w fr' w') {T : Ty} {x : T.den} {v : Value} (h : DVal fr w T x v) : DVal fr' w' T x v := by
  unfold DVal at *
  cases hT : T.isAgg with
  | true => rw [hT] at h; obtain ⟨vs, h1, h2⟩ := h; exact ⟨vs, h1, h2.mono hk⟩
  | false => rw [hT] at h; exact DV.mono hk h

theorem ofD_rep {G : Gh} {w : World} {T : Ty} {x : T.den} {v : Value} (h : DVal G.fr w T x v) : Rep G w (ofD T x) v := by
  unfold DVal at h
  unfold ofD
  cases hT : T.isAgg with
  | true =>
    rw [hT] at h
    obtain ⟨vs, rfl, h2⟩ := h
    have r := flat_rep h2
    exact .agg _ _ (by simpa using r.1) fun i c v hc hv => r.2 i c v hc (by simpa using hv)
  | false =>
    rw [hT] at h
    have r : RepL G w (flat T x) [v] := flat_rep h
    cases hf : flat T x with
    | nil => rw [hf] at r; simp [RepL] at r
    | cons c cs => rw [hf] at r; exact r.head

theorem toD_rep {G : Gh} {w : World} {h : List HObj} {T : Ty} {c : AV} {v : Value} {x : T.den} (hr : Rep G w c v) (hs : ∀ k ∈ vecIds (cellsOf c), Sealed G w h k)
    (ht : toD h T c = some x) : DVal G.fr w T x v := by
  unfold toD at ht
  unfold DVal
  cases hT : T.isAgg with
  | true =>
    simp only [hT, cond_true] at ht ⊢
    cases c <;> simp only at ht <;> try (exact absurd ht (by simp))
    rename_i cs
    split at ht
    · rename_i y hy
      simp only [Option.some.injEq] at ht
      subst ht
      cases hr
      rename_i vs hl r
      obtain ⟨v1, v2, e, d, r2, _⟩ := unflat_rep (vs := vs.toList) ⟨by simpa using hl, fun i c v hc hv => r i c v hc (by simpa using hv)⟩ hs hy
      have := r2.nil_inv
      subst this
      exact ⟨vs, rfl, by rw [e]; simpa using d⟩
    · simp at ht
  | false =>
    simp only [hT, cond_false] at ht ⊢
    split at ht
    · rename_i y hy
      simp only [Option.some.injEq] at ht
      subst ht
      have hs' : ∀ k ∈ vecIds [c], Sealed G w h k := by
        intro k hk
        refine hs k ?_
        cases c <;> simp_all [vecIds, cellsOf]
      obtain ⟨v1, v2, e, d, r2, _⟩ := unflat_rep (vs := [v]) (RepL.cons hr (RepL.nil G w)) hs' hy
      have := r2.nil_inv
      subst this
      rw [e]; simpa using d
    · simp at ht

/- LOCKING -/

theorem lockAt_len (k : Nat) (h : List HObj) : (lockAt k h).length = h.length := by
  unfold lockAt; split <;> simp

theorem lockAll_len : ∀ (ks : List Nat) (h : List HObj), (lockAll ks h).length = h.length
  | [], _ => rfl
  | k :: ks, h => by simp only [lockAll]; rw [lockAll_len ks, lockAt_len]

/-- What the lock of one object does to the others: nothing; to itself: the mark alone. -/
theorem lockAt_get (k : Nat) (h : List HObj) (b : Nat) : (lockAt k h)[b]? = if b = k then (match h[k]? with
    | some (.vec e t xs _) => some (.vec e t xs true)
    | some (.val cs _) => some (.val cs true)
    | o => o) else h[b]? := by
  unfold lockAt
  split
  · rename_i e t xs lk hk
    rw [List.getElem?_set, hk]
    have : k < h.length := (List.getElem?_eq_some_iff.1 hk).1
    by_cases e : k = b
    · subst e; simp [this]
    · rw [if_neg e, if_neg (fun x => e x.symm)]
  · rename_i cs lk hk
    rw [List.getElem?_set, hk]
    have : k < h.length := (List.getElem?_eq_some_iff.1 hk).1
    by_cases e : k = b
    · subst e; simp [this]
    · rw [if_neg e, if_neg (fun x => e x.symm)]
  · rename_i h1 h2
    by_cases e : b = k
    · subst e
      rw [if_pos rfl]
      cases hb : h[b]? with
      | none => rfl
      | some o => cases o with
        | val cs lk => exact absurd hb (h2 cs lk)
        | vec e t xs lk => exact absurd hb (h1 e t xs lk)
        | dead => rfl
        | free => rfl
    · rw [if_neg e]

theorem lock1 {G : Gh} {h : List HObj} {w : World} (s : SimH G h w) (k : Nat) :
    ∃ G', SimH G' (lockAt k h) w ∧ Ext G w G' w ∧ G'.n = G.n ∧ Sealed G' w h k := by
  cases hk : h[k]? with
  | none =>
    refine ⟨G, ?_, Ext.refl G w, rfl, fun e t xs lk hh => by rw [hk] at hh; simp at hh⟩
    have : lockAt k h = h := by simp [lockAt, hk]
    rw [this]; exact s
  | some o =>
    have hkn : k < G.n := by rw [s.n]; exact (List.getElem?_eq_some_iff.1 hk).1
    have ho := s.objs k o hk
    cases o with
    | free =>
      refine ⟨G, ?_, Ext.refl G w, rfl, fun e t xs lk hh => by rw [hk] at hh; simp at hh⟩
      have : lockAt k h = h := by simp [lockAt, hk]
      rw [this]; exact s
    | dead =>
      refine ⟨G, ?_, Ext.refl G w, rfl, fun e t xs lk hh => by rw [hk] at hh; simp at hh⟩
      have : lockAt k h = h := by simp [lockAt, hk]
      rw [this]; exact s
    | val cs lk =>
      obtain ⟨B, T, vs, h1, h2, h3, h4, h5⟩ := ho
      let G' : Gh := { G with fr := fun B' o => G.fr B' o ∨ (B' = B ∧ o < vs.size) }
      have e : Ext G w G' w := ⟨Nat.le_refl _, fun _ _ _ => ⟨rfl, rfl⟩, rfl, rfl, rfl, Nat.le_refl _, fun B' _ hb => ⟨rfl, hb, fun o => ⟨fun hh => hh.resolve_right (fun q => by rw [q.1, h3] at hb; simp at hb), .inl⟩⟩,
        fun B' o u a b => ⟨.inl a, b⟩, fun _ => rfl⟩
      refine ⟨G', ⟨by rw [lockAt_len]; exact s.n, fun b o hb => ?_, s.own⟩, e, rfl, fun e t xs lk hh => by rw [hk] at hh; simp at hh⟩
      rw [lockAt_get] at hb
      by_cases eb : b = k
      · subst eb
        rw [if_pos rfl, hk] at hb
        simp only [Option.some.injEq] at hb
        subst hb
        exact ⟨B, T, vs, h1, h2, h3, h4.mono e, fun o ho => ⟨fun _ => rfl, fun _ => .inr ⟨rfl, ho⟩⟩⟩
      · rw [if_neg eb] at hb
        refine (s.objs b o hb).mono e ⟨rfl, rfl⟩ fun B' hB' => ⟨rfl, hB', fun o => ⟨fun hh => hh.resolve_right (fun q => eb ?_), .inl⟩⟩
        rw [q.1, h3] at hB'
        exact (Option.some.inj hB').symm
    | vec el t xs lk =>
      obtain ⟨q0, q1, us, q2, q3, q4⟩ := ho
      let G' : Gh := { G with fr := fun B' o => G.fr B' o ∨ ((G.loc k).ownBlock = some B' ∧ o < xs.length * t.width) }
      have e : Ext G w G' w := ⟨Nat.le_refl _, fun _ _ _ => ⟨rfl, rfl⟩, rfl, rfl, rfl, Nat.le_refl _, fun B' _ hb => ⟨rfl, hb, fun o => ⟨fun hh => hh.resolve_right (fun q => by rw [(q4 B' q.1).1] at hb; simp at hb), .inl⟩⟩,
        fun B' o u a b => ⟨.inl a, b⟩, fun _ => rfl⟩
      refine ⟨G', ⟨by rw [lockAt_len]; exact s.n, fun b o hb => ?_, s.own⟩, e, rfl, ?_⟩
      · rw [lockAt_get] at hb
        by_cases eb : b = k
        · subst eb
          rw [if_pos rfl, hk] at hb
          simp only [Option.some.injEq] at hb
          subst hb
          refine ⟨q0, q1, us, q2, fun i x hx => (q3 i x hx).mono e.keeps, fun B hB => ⟨(q4 B hB).1, fun hl => by simp at hl, fun o ho hf => ?_⟩⟩
          rcases hf with hf | hf
          · exact (q4 B hB).2.2 o ho hf
          · omega
        · rw [if_neg eb] at hb
          refine (s.objs b o hb).mono e ⟨rfl, rfl⟩ fun B' hB' => ⟨rfl, hB', fun o => ⟨fun hh => hh.resolve_right (fun q => eb ?_), .inl⟩⟩
          rw [(q4 B' q.1).1] at hB'
          exact (Option.some.inj hB').symm
      · intro el' t' xs' lk' hh
        rw [hk] at hh
        simp only [Option.some.injEq, HObj.vec.injEq] at hh
        obtain ⟨rfl, rfl, hx, rfl⟩ := hh
        obtain rfl := eq_of_heq hx
        rcases q2.2 with ⟨r1, r2⟩ | ⟨g, cap, cur, r1, _, r3, r4, r5, r6, r7⟩
        · have hx0 : xs = [] := List.eq_nil_of_length_eq_zero r2
          subst hx0
          exact ⟨none, 0, r1, Nat.le_refl _, .inl rfl⟩
        · refine ⟨some ⟨g, 0, none⟩, cap, r1, r4, .inr ⟨g, 0, rfl, fun i x hx => ⟨_, (q3 i x hx).mono e.keeps, (q3 i x hx).len, fun j u hj => ?_⟩⟩⟩
          have hi : i < xs.length := (List.getElem?_eq_some_iff.1 hx).1
          rw [List.getElem?_take] at hj
          split at hj
          · rename_i hjw
            rw [List.getElem?_drop] at hj
            have hb : i * t.width + j < xs.length * t.width := by
              have : (i + 1) * t.width ≤ xs.length * t.width := Nat.mul_le_mul_right _ hi
              rw [Nat.add_mul] at this
              omega
            refine ⟨.inr ⟨by rw [r1]; rfl, by omega⟩, ?_⟩
            have := World.ownsRow.cells (w := w) q2 (g := g) (by rw [r1]; rfl) (i * t.width + j) u hj
            simpa [Addr.add] using (by
              rw [← this]
              congr 1
              unfold Addr.add
              split <;> simp_all)
          · simp at hj

theorem lockS {w : World} : ∀ (ks : List Nat) {h : List HObj} {G : Gh}, SimH G h w →
    ∃ G', SimH G' (lockAll ks h) w ∧ Ext G w G' w ∧ G'.n = G.n ∧ ∀ k ∈ ks, Sealed G' w h k
  | [], h, G, s => ⟨G, s, Ext.refl G w, rfl, by simp⟩
  | k :: ks, h, G, s => by
    obtain ⟨G1, s1, e1, n1, d1⟩ := lock1 s k
    obtain ⟨G2, s2, e2, n2, d2⟩ := lockS ks s1
    refine ⟨G2, s2, e1.trans e2, n2.trans n1, fun j hj => ?_⟩
    rcases List.mem_cons.1 hj with rfl | hj2
    · intro e t xs lk hh
      have hjn : j < G1.n := by rw [n1, s.n]; exact (List.getElem?_eq_some_iff.1 hh).1
      exact (d1.mono e2 hjn) e t xs lk hh
    · intro e t xs lk hh
      by_cases eb : j = k
      · subst eb
        exact d2 j hj2 e t xs true (by rw [lockAt_get, if_pos rfl, hh])
      · exact d2 j hj2 e t xs lk (by rw [lockAt_get, if_neg eb]; exact hh)

end Go.RX

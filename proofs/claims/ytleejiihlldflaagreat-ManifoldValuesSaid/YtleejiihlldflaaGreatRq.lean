/-
  Orders: what may be done in the order of the text may be done in any order that the edges let.
-/
import Derived.Test.YtleejiihlldflaaGreatRp
namespace Go.RX

section
variable {C : Cfg}

theorem mapM_congr {ρ ρ' : Operand → AV} {l : List Operand} (h : ∀ x ∈ l, ρ x = ρ' x) : l.map ρ = l.map ρ' := List.map_congr_left h

theorem aop_congr {ρ ρ' : Operand → AV} {op : Op} {h : List HObj} (hh : ∀ x ∈ op.operands, ρ x = ρ' x) : aop C ρ op h = aop C ρ' op h := by
  cases op <;> simp only [aop]
  all_goals try simp only [Op.operands, Array.mem_def, List.mem_cons, List.not_mem_nil, or_false, forall_eq_or_imp, forall_eq] at hh
  all_goals try (first | rfl | (rw [hh]; done) | (rw [hh.1, hh.2]; done))
  case build t parts =>
    have h1 : ∀ p ∈ parts.toList, ρ p.2 = ρ' p.2 := fun p hp => hh p.2 (List.mem_map.2 ⟨p, hp, rfl⟩)
    have e1 : (parts.toList.map fun p => (p.1, ρ p.2)) = parts.toList.map fun p => (p.1, ρ' p.2) := List.map_congr_left fun p hp => by rw [h1 p hp]
    have e2 : parts.toList.all (fun p => boxable (ρ p.2)) = parts.toList.all (fun p => boxable (ρ' p.2)) := by
      rw [Bool.eq_iff_iff, List.all_eq_true, List.all_eq_true]
      exact ⟨fun q p hp => by rw [← h1 p hp]; exact q p hp, fun q p hp => by rw [h1 p hp]; exact q p hp⟩
    rw [e1, e2]
  case buildSlice t len parts =>
    have h1 : ∀ p ∈ parts.toList, ρ p.2 = ρ' p.2 := fun p hp => hh p.2 (List.mem_map.2 ⟨p, hp, rfl⟩)
    have e1 : (parts.toList.map fun p => (p.1, ρ p.2)) = parts.toList.map fun p => (p.1, ρ' p.2) := List.map_congr_left fun p hp => by rw [h1 p hp]
    have e2 : parts.toList.all (fun p => boxable (ρ p.2)) = parts.toList.all (fun p => boxable (ρ' p.2)) := by
      rw [Bool.eq_iff_iff, List.all_eq_true, List.all_eq_true]
      exact ⟨fun q p hp => by rw [← h1 p hp]; exact q p hp, fun q p hp => by rw [h1 p hp]; exact q p hp⟩
    rw [e1, e2]
  case makeFunc fn first caps =>
    have h1 : first.toList.map ρ = first.toList.map ρ' := List.map_congr_left fun x hx => hh x (by simp at hx ⊢; exact .inl hx)
    have h2 : caps.toList.map ρ = caps.toList.map ρ' := List.map_congr_left fun x hx => hh x (by simp at hx ⊢; exact .inr hx)
    rw [h1, h2]
  case slice t x lo hi mx =>
    have h0 : ρ x = ρ' x := hh x (by simp)
    have h1 : lo.map ρ = lo.map ρ' := by
      cases lo with
      | none => rfl
      | some y => simp only [Option.map_some]; rw [hh y (by simp)]
    have h2 : hi.map ρ = hi.map ρ' := by
      cases hi with
      | none => rfl
      | some y => simp only [Option.map_some]; rw [hh y (by simp)]
    have h3 : mx.map ρ = mx.map ρ' := by
      cases mx with
      | none => rfl
      | some y => simp only [Option.map_some]; rw [hh y (by simp)]
    rw [h0, h1, h2, h3]
  case call c =>
    obtain ⟨callee, args, tys⟩ := c
    have h1 : args.toList.map ρ = args.toList.map ρ' := List.map_congr_left fun x hx => hh x (by simp only [Call.operands, Array.toList_append, List.mem_append]; exact .inr hx)
    cases callee <;> dsimp only
    rw [h1]

theorem bif_some {α : Type} {c : Bool} {x : Option α} {y : α} (h : (bif c then x else none) = some y) : c = true ∧ x = some y := by
  cases c <;> simp_all

/-- What an operation leaves alone, and what it hangs on. -/
def Loc (f : List HObj → Option Out) (h : List HObj) : Prop := ∀ out, f h = some out →
  (∀ b, b ∉ (outFoot out h).wr → out.h[b]? = h[b]?) ∧ (out.eff = false → out.h.length = h.length) ∧ h.length ≤ out.h.length ∧
  ∀ h2, (out.eff = true → h2.length = h.length) → (∀ b ∈ out.rd ++ out.wr, h2[b]? = h[b]?) →
    ∃ h2', f h2 = some { out with h := h2' } ∧ (out.eff = false → h2'.length = h2.length) ∧ (out.eff = true → h2'.length = out.h.length) ∧
      (∀ b ∈ (outFoot out h).wr, h2'[b]? = out.h[b]?) ∧ ∀ b, b ∉ (outFoot out h).wr → h2'[b]? = h2[b]?

theorem loc_none {h : List HObj} : Loc (fun _ => none) h := fun out ho => by simp at ho

/-- An operation that turns nothing. -/
theorem loc_quiet {f : List HObj → Option Out} {h : List HObj} {out : Out} (hh : out.h = h) (he : out.eff = false) (hw : out.wr = []) (hf : ∀ h2, (∀ b ∈ out.rd, h2[b]? = h[b]?) → f h2 = some { out with h := h2 }) :
    (∀ b, b ∉ (outFoot out h).wr → out.h[b]? = h[b]?) ∧ (out.eff = false → out.h.length = h.length) ∧ h.length ≤ out.h.length ∧
    ∀ h2, (out.eff = true → h2.length = h.length) → (∀ b ∈ out.rd ++ out.wr, h2[b]? = h[b]?) →
      ∃ h2', f h2 = some { out with h := h2' } ∧ (out.eff = false → h2'.length = h2.length) ∧ (out.eff = true → h2'.length = out.h.length) ∧
        (∀ b ∈ (outFoot out h).wr, h2'[b]? = out.h[b]?) ∧ ∀ b, b ∉ (outFoot out h).wr → h2'[b]? = h2[b]? := by
  refine ⟨fun b _ => by rw [hh], fun _ => by rw [hh], by rw [hh]; exact Nat.le_refl _, fun h2 _ hr => ⟨h2, hf h2 fun b hb => hr b (by simp [hb]), fun _ => rfl, fun e => by rw [he] at e; simp at e, fun b hb => ?_, fun _ _ => rfl⟩⟩
  simp [outFoot, he, hw] at hb

theorem loc_some {h : List HObj} (g : Bool) (v : AV) : Loc (fun h => some { g := g, v := v, h := h }) h := fun out ho => by
  simp only [Option.some.injEq] at ho; subst ho
  exact loc_quiet rfl rfl rfl fun h2 _ => rfl
theorem loc_pure {h : List HObj} (v : AV) : Loc (fun h => some (Out.pure v h)) h := loc_some true v

theorem loc_map {h : List HObj} {f : List HObj → Option Out} (r : Option (Bool × AV)) (hf : ∀ h, f h = r.map fun p => { g := p.1, v := p.2, h := h }) : Loc f h := fun out ho => by
  rw [hf] at ho
  cases r with
  | none => simp at ho
  | some p =>
    simp only [Option.map_some, Option.some.injEq] at ho; subst ho
    exact loc_quiet rfl rfl rfl fun h2 _ => by rw [hf]; rfl

/-- An operation that turns objects in place. -/
theorem loc_place {f : List HObj → Option Out} {h : List HObj} {out : Out} (he : out.eff = false) (hl : out.h.length = h.length) (hw : ∀ b, b ∉ out.wr → out.h[b]? = h[b]?)
    (hf : ∀ h2, (∀ b ∈ out.rd ++ out.wr, h2[b]? = h[b]?) → ∃ h2', f h2 = some { out with h := h2' } ∧ h2'.length = h2.length ∧ (∀ b ∈ out.wr, h2'[b]? = out.h[b]?) ∧ ∀ b, b ∉ out.wr → h2'[b]? = h2[b]?) :
    (∀ b, b ∉ (outFoot out h).wr → out.h[b]? = h[b]?) ∧ (out.eff = false → out.h.length = h.length) ∧ h.length ≤ out.h.length ∧
    ∀ h2, (out.eff = true → h2.length = h.length) → (∀ b ∈ out.rd ++ out.wr, h2[b]? = h[b]?) →
      ∃ h2', f h2 = some { out with h := h2' } ∧ (out.eff = false → h2'.length = h2.length) ∧ (out.eff = true → h2'.length = out.h.length) ∧
        (∀ b ∈ (outFoot out h).wr, h2'[b]? = out.h[b]?) ∧ ∀ b, b ∉ (outFoot out h).wr → h2'[b]? = h2[b]? := by
  have e : (outFoot out h).wr = out.wr := by simp [outFoot, he]
  rw [e]
  refine ⟨hw, fun _ => hl, by rw [hl]; exact Nat.le_refl _, fun h2 _ hr => ?_⟩
  obtain ⟨h2', a1, a2, a3, a4⟩ := hf h2 hr
  exact ⟨h2', a1, fun _ => a2, fun e => by rw [he] at e; simp at e, a3, a4⟩

/-- An operation that makes one new object behind the others, and turns some in place. -/
theorem loc_push {f : List HObj → Option Out} {h : List HObj} {out : Out} (he : out.eff = true) {T : List HObj → List HObj} {x : HObj} (hh : out.h = T h ++ [x]) (hT : ∀ h, (T h).length = h.length)
    (hTo : ∀ h b, b ∉ out.wr → (T h)[b]? = h[b]?) (hTc : ∀ h2, (∀ b ∈ out.wr, h2[b]? = h[b]?) → ∀ b ∈ out.wr, (T h2)[b]? = (T h)[b]?)
    (hf : ∀ h2 : List HObj, h2.length = h.length → (∀ b ∈ out.rd ++ out.wr, h2[b]? = h[b]?) → f h2 = some { out with h := T h2 ++ [x] }) :
    (∀ b, b ∉ (outFoot out h).wr → out.h[b]? = h[b]?) ∧ (out.eff = false → out.h.length = h.length) ∧ h.length ≤ out.h.length ∧
    ∀ h2, (out.eff = true → h2.length = h.length) → (∀ b ∈ out.rd ++ out.wr, h2[b]? = h[b]?) →
      ∃ h2', f h2 = some { out with h := h2' } ∧ (out.eff = false → h2'.length = h2.length) ∧ (out.eff = true → h2'.length = out.h.length) ∧
        (∀ b ∈ (outFoot out h).wr, h2'[b]? = out.h[b]?) ∧ ∀ b, b ∉ (outFoot out h).wr → h2'[b]? = h2[b]? := by
  have hlen : out.h.length = h.length + 1 := by rw [hh]; simp [hT]
  have e : ∀ b, b ∈ (outFoot out h).wr ↔ b ∈ out.wr ∨ b = h.length := by
    intro b
    simp only [outFoot, he, cond_true, hlen, List.mem_append, List.mem_range']
    constructor
    · rintro (h1 | ⟨i, h1, h2⟩)
      · exact .inl h1
      · exact .inr (by omega)
    · rintro (h1 | h1)
      · exact .inl h1
      · exact .inr ⟨0, by omega, by omega⟩
  have off : ∀ (h' : List HObj), h'.length = h.length → ∀ b, b ∉ (outFoot out h).wr → (T h' ++ [x])[b]? = h'[b]? := by
    intro h' hl b hb
    rw [e, not_or] at hb
    rcases Nat.lt_or_ge b h'.length with hlt | hge
    · rw [List.getElem?_append_left (by rw [hT]; exact hlt)]; exact hTo h' b hb.1
    · rw [List.getElem?_eq_none (by simp [hT]; omega), List.getElem?_eq_none hge]
  refine ⟨fun b hb => by rw [hh]; exact off h rfl b hb, fun e' => by rw [he] at e'; simp at e', by omega, fun h2 hl hr => ?_⟩
  have hl2 := hl he
  refine ⟨T h2 ++ [x], hf h2 hl2 hr, fun e' => by rw [he] at e'; simp at e', fun _ => by rw [hh]; simp [hT, hl2], fun b hb => ?_, fun b hb => off h2 hl2 b hb⟩
  rw [hh]
  rcases (e b).1 hb with hb | hb
  · rcases Nat.lt_or_ge b h.length with hlt | hge
    · rw [List.getElem?_append_left (by rw [hT]; omega), List.getElem?_append_left (by rw [hT]; omega)]
      exact hTc h2 (fun b hb => hr b (by simp [hb])) b hb
    · rw [List.getElem?_append_right (by rw [hT]; omega), List.getElem?_append_right (by rw [hT]; omega), hT, hT, hl2]
  · subst hb
    rw [List.getElem?_append_right (by rw [hT]; omega), List.getElem?_append_right (by rw [hT]; omega), hT, hT, hl2]

theorem lockAt_congr {k : Nat} {h h2 : List HObj} (hk : h2[k]? = h[k]?) (b : Nat) : (lockAt k h2)[b]? = if b = k then (lockAt k h)[b]? else h2[b]? := by
  rw [lockAt_get, lockAt_get, hk]
  by_cases e : b = k <;> simp [e]

theorem lockAll_congr : ∀ {ks : List Nat} {h h2 : List HObj}, (∀ b ∈ ks, h2[b]? = h[b]?) → ∀ b ∈ ks, (lockAll ks h2)[b]? = (lockAll ks h)[b]?
  | [], _, _, _, b, hb => by simp at hb
  | k :: ks, h, h2, hk, b, hb => by
    simp only [lockAll]
    have hstep : ∀ c ∈ k :: ks, (lockAt k h2)[c]? = (lockAt k h)[c]? := by
      intro c hc
      rw [lockAt_congr (hk k (by simp)) c]
      split
      · rfl
      · rename_i hne
        rw [lockAt_get, if_neg hne]
        exact hk c hc
    by_cases hm : b ∈ ks
    · exact lockAll_congr (fun c hc => hstep c (by simp [hc])) b hm
    · rw [lockAll_get (b := b) (ks := ks) (fun j hj (e : j = b) => hm (e ▸ hj)), lockAll_get (b := b) (ks := ks) (fun j hj (e : j = b) => hm (e ▸ hj))]
      exact hstep b hb

theorem lockAll_off {b : Nat} {ks : List Nat} {h : List HObj} (hb : b ∉ ks) : (lockAll ks h)[b]? = h[b]? := lockAll_get fun _ hj e => hb (e ▸ hj)
theorem lockAt_off {b k : Nat} {h : List HObj} (hb : b ∉ [k]) : (lockAt k h)[b]? = h[b]? := by
  rw [lockAt_get, if_neg (by simpa using hb)]

theorem unflat_congr {h h2 : List HObj} : ∀ {t : Ty} {cs : List AV}, (∀ k ∈ vecIds cs, h2[k]? = h[k]?) → unflat h2 t cs = unflat h t cs ∧ ∀ x r, unflat h t cs = some (x, r) → ∀ k ∈ vecIds r, k ∈ vecIds cs
  | .unit, cs, hn => ⟨rfl, fun x r he => by simp [unflat] at he; rw [← he]; exact fun k hk => hk⟩
  | .int _, cs, hn => by
    cases cs with
    | nil => exact ⟨rfl, fun x r he => by simp [unflat] at he⟩
    | cons c cs =>
      refine ⟨by cases c <;> rfl, fun x r he => ?_⟩
      cases c <;> simp [unflat] at he
      rw [← he.2.2]
      exact fun k hk => vecIds_cons_sub _ _ _ hk
  | .bool, cs, hn => by
    cases cs with
    | nil => exact ⟨rfl, fun x r he => by simp [unflat] at he⟩
    | cons c cs =>
      refine ⟨by cases c <;> rfl, fun x r he => ?_⟩
      cases c <;> simp [unflat] at he
      rw [← he.2]
      exact fun k hk => vecIds_cons_sub _ _ _ hk
  | .str, cs, hn => by
    cases cs with
    | nil => exact ⟨rfl, fun x r he => by simp [unflat] at he⟩
    | cons c cs =>
      refine ⟨by cases c <;> rfl, fun x r he => ?_⟩
      cases c <;> simp [unflat] at he
      rw [← he.2]
      exact fun k hk => vecIds_cons_sub _ _ _ hk
  | .list t, cs, hn => by
    cases cs with
    | nil => exact ⟨rfl, fun x r he => by simp [unflat] at he⟩
    | cons c cs =>
      refine ⟨?_, fun x r he => ?_⟩
      · cases c <;> try rfl
        simp only [unflat]
        rw [hn _ (by simp [vecIds])]
      · have : r = cs := by
          cases c <;> simp only [unflat] at he <;> try (simp at he; done)
          · split at he
            · simp only [Option.some.injEq, Prod.mk.injEq] at he; exact he.2.symm
            · simp at he
          · simp only [Option.some.injEq, Prod.mk.injEq] at he; exact he.2.symm
          · split at he
            · split at he
              · simp only [Option.some.injEq, Prod.mk.injEq] at he; exact he.2.symm
              · simp at he
            · simp at he
        rw [this]
        exact fun k hk => vecIds_cons_sub _ _ _ hk
  | .one t, cs, hn => unflat_congr (t := t) hn
  | .pair a b, cs, hn => by
    obtain ⟨h1, h3⟩ := unflat_congr (h := h) (h2 := h2) (t := a) hn
    simp only [unflat]
    rw [h1]
    cases ha : unflat h a cs with
    | none => exact ⟨rfl, fun x r he => by simp at he⟩
    | some p =>
      obtain ⟨x, r⟩ := p
      dsimp only
      have hr := h3 x r ha
      obtain ⟨k1, k2⟩ := unflat_congr (h := h) (h2 := h2) (t := b) (fun k hk => hn k (hr k hk))
      rw [k1]
      refine ⟨rfl, fun y s he => ?_⟩
      cases hb : unflat h b r with
      | none => rw [hb] at he; simp at he
      | some q =>
        obtain ⟨z, s'⟩ := q
        rw [hb] at he
        simp only [Option.some.injEq, Prod.mk.injEq] at he
        rw [← he.2]
        exact fun k hk => hr k (k2 z s' hb k hk)

theorem unrows_congr {h h2 : List HObj} {t : Ty} : ∀ {n : Nat} {cs : List AV}, (∀ k ∈ vecIds cs, h2[k]? = h[k]?) → unrows h2 t n cs = unrows h t n cs
  | 0, _, _ => rfl
  | n + 1, cs, hn => by
    obtain ⟨h1, h3⟩ := unflat_congr (h := h) (h2 := h2) (t := t) hn
    simp only [unrows]
    rw [h1]
    cases ha : unflat h t cs with
    | none => rfl
    | some p =>
      obtain ⟨x, r⟩ := p
      dsimp only
      rw [unrows_congr (n := n) fun k hk => hn k (h3 x r ha k hk)]

theorem loc_index (t : TypeId) (x i : AV) (h : List HObj) : Loc (indexA C t x i) h := by
  intro out ho
  unfold indexA at ho ⊢
  repeat' split at ho
  all_goals first
    | (simp at ho; done)
    | (simp only [Option.some.injEq] at ho; subst ho; refine loc_quiet rfl rfl rfl fun h2 _ => ?_; simp_all; done)
    | skip
  all_goals
    have hb := (bif_some ho).1
    replace ho := (bif_some ho).2
    simp only [Option.some.injEq] at ho; subst ho
    refine loc_quiet rfl rfl rfl fun h2 h3 => ?_
    try have h4 := h3 _ (by simp)
    simp_all

theorem loc_indexV (t : TypeId) (x i : AV) (h : List HObj) : Loc (indexV C t x i) h := by
  refine loc_map ((indexV C t x i []).map fun o => (o.g, o.v)) fun h => ?_
  unfold indexV
  repeat' split
  all_goals first
    | rfl
    | (simp_all; done)
    | (cases hb : (Nat.beq _ 1 && Nat.beq _ _) <;> rfl)
    | (cases hb : isAggK _ <;> first | (cases hb2 : Nat.beq _ (_ * _) <;> rfl) | (cases hb2 : (Nat.beq _ 1 && Nat.beq _ _) <;> rfl))

theorem loc_field (t : TypeId) (x : AV) (f : Nat) (h : List HObj) : Loc (fieldA C t x f) h := by
  intro out ho
  unfold fieldA at ho ⊢
  repeat' split at ho
  all_goals first
    | (simp at ho; done)
    | (simp only [Option.some.injEq] at ho; subst ho; refine loc_quiet rfl rfl rfl fun h2 _ => ?_; simp_all [Out.pure]; done)

theorem rd_loc {h h2 : List HObj} {a : AV} {n : Nat} {cs : List AV} (hr : rd h a n = some cs) (hb : ∀ b ∈ rdIds a, h2[b]? = h[b]?) : rd h2 a n = some cs := by
  rw [← hr]
  unfold rd
  cases a <;> try rfl
  all_goals
    dsimp only
    rw [hb _ (by simp [rdIds])]

theorem loc_load (t : TypeId) (a : AV) (h : List HObj) : Loc (loadA C t a) h := by
  intro out ho
  unfold loadA at ho ⊢
  split at ho
  · rename_i r hr
    split at ho
    · rename_i cs hcs
      cases hk : isAggK r.k with
      | true =>
        rw [hk] at ho
        simp only [cond_true, Option.some.injEq] at ho; subst ho
        refine loc_quiet rfl rfl rfl fun h2 h3 => ?_
        simp only [rd_loc hcs h3, cond_true]
      | false =>
        rw [hk] at ho
        simp only [cond_false] at ho
        split at ho
        · simp only [Option.some.injEq] at ho; subst ho
          refine loc_quiet rfl rfl rfl fun h2 h3 => ?_
          simp only [rd_loc hcs h3, cond_false]
        · simp at ho
    · simp at ho
  · simp at ho

theorem wr_loc {h h' : List HObj} {a : AV} {vs : List AV} (hw : wr h a vs = some h') : h'.length = h.length ∧ (∀ b, b ∉ rdIds a ++ vecIds vs → h'[b]? = h[b]?) ∧
    ∀ h2, (∀ b ∈ rdIds a ++ vecIds vs, h2[b]? = h[b]?) → ∃ h2', wr h2 a vs = some h2' ∧ h2'.length = h2.length ∧ (∀ b ∈ rdIds a ++ vecIds vs, h2'[b]? = h'[b]?) ∧ ∀ b, b ∉ rdIds a ++ vecIds vs → h2'[b]? = h2[b]? := by
  unfold wr at hw ⊢
  have inb : ∀ {h h2 : List HObj} {b : Nat} {x : HObj}, h2[b]? = h[b]? → h[b]? = some x → b < h2.length := fun e1 e2 => (List.getElem?_eq_some_iff.1 (e1.trans e2)).1
  split at hw
  · rename_i b off
    split at hw
    · rename_i cs hb
      have hc := (bif_some hw).1
      replace hw := (bif_some hw).2
      simp only [Option.some.injEq] at hw; subst hw
      have hbl : b < h.length := (List.getElem?_eq_some_iff.1 hb).1
      refine ⟨by simp, fun c hc' => List.getElem?_set_ne (fun e => hc' (by simp [rdIds, e])), fun h2 h3 => ?_⟩
      have h4 := h3 b (by simp [rdIds])
      rw [h4, hb]
      dsimp only
      rw [hc]
      simp only [cond_true]
      have hbl2 := inb h4 hb
      refine ⟨_, rfl, by simp, fun c hc' => ?_, fun c hc' => List.getElem?_set_ne (fun e => hc' (by simp [rdIds, e]))⟩
      by_cases e : b = c
      · subst e; rw [List.getElem?_set_self hbl2, List.getElem?_set_self hbl]
      · rw [List.getElem?_set_ne e, List.getElem?_set_ne e]; exact h3 c hc'
    · simp at hw
  · rename_i k i off
    split at hw
    · rename_i e t xs hb
      have hc := (bif_some hw).1
      replace hw := (bif_some hw).2
      split at hw
      · rename_i x hx
        simp only [Option.some.injEq] at hw; subst hw
        have hbl : k < h.length := (List.getElem?_eq_some_iff.1 hb).1
        refine ⟨by simp [lockAll_len], fun c hc' => ?_, fun h2 h3 => ?_⟩
        · simp only [List.mem_append, not_or] at hc'
          rw [List.getElem?_set_ne (fun e => hc'.1 (by simp [rdIds, e])), lockAll_off hc'.2]
        · have h4 := h3 k (by simp [rdIds])
          have hbl2 := inb h4 hb
          rw [h4, hb]
          dsimp only
          rw [hc]
          have hu : unflat h2 t (splice (flat t (xs.getD i t.dflt)) off vs) = some (x, []) := by
            rw [← hx]
            refine (unflat_congr fun j hj => h3 j ?_).1
            have hnv := flat_noVec t (xs.getD i t.dflt)
            rw [vecIds_mem] at hj
            unfold splice at hj
            simp only [List.mem_append] at hj
            rcases hj with (hj | hj) | hj
            · exact absurd ((vecIds_mem _ _).2 (List.mem_of_mem_take hj)) (hnv j)
            · simp only [List.mem_append]; exact .inr ((vecIds_mem _ _).2 hj)
            · exact absurd ((vecIds_mem _ _).2 (List.mem_of_mem_drop hj)) (hnv j)
          rw [hu]
          simp only [cond_true]
          refine ⟨_, rfl, by simp [lockAll_len], fun c hc' => ?_, fun c hc' => ?_⟩
          · by_cases ek : k = c
            · subst ek; rw [List.getElem?_set_self (by rw [lockAll_len]; exact hbl2), List.getElem?_set_self (by rw [lockAll_len]; exact hbl)]
            · rw [List.getElem?_set_ne ek, List.getElem?_set_ne ek]
              by_cases hm : c ∈ vecIds vs
              · exact lockAll_congr (fun d hd => h3 d (by simp [hd])) c hm
              · rw [lockAll_off hm, lockAll_off hm]; exact h3 c hc'
          · simp only [List.mem_append, not_or] at hc'
            rw [List.getElem?_set_ne (fun e => hc'.1 (by simp [rdIds, e])), lockAll_off hc'.2]
      · simp at hw
    · simp at hw
  · simp at hw

theorem loc_store (t : TypeId) (a v : AV) (h : List HObj) : Loc (storeA C t a v) h := by
  intro out ho
  unfold storeA at ho ⊢
  split at ho
  · rename_i r hr
    have hc := (bif_some ho).1
    replace ho := (bif_some ho).2
    split at ho
    · rename_i h' hw
      simp only [Option.some.injEq] at ho; subst ho
      obtain ⟨a1, a2, a3⟩ := wr_loc hw
      refine loc_place rfl a1 a2 fun h2 hr2 => ?_
      obtain ⟨h2', b1, b2, b3, b4⟩ := a3 h2 (by simpa using hr2)
      exact ⟨h2', by simp only [hc, cond_true, b1], b2, b3, b4⟩
    · simp at ho
  · simp at ho

theorem loc_bin (op : BinOp) (t : TypeId) (x y : AV) (h : List HObj) : Loc (binA C op t x y) h := by
  refine loc_map ((binA C op t x y []).map fun o => (o.g, o.v)) fun h => ?_
  unfold binA
  repeat' split
  all_goals first
    | rfl
    | (simp_all [Out.pure]; done)

theorem loc_build (t : TypeId) (parts : List (Nat × AV)) (h : List HObj) : Loc (buildA C t parts) h := by
  refine loc_map ((buildA C t parts []).map fun o => (o.g, o.v)) fun h => ?_
  unfold buildA
  repeat' split
  all_goals first
    | rfl
    | (simp_all [Out.pure]; done)

theorem loc_buildSlice (t : TypeId) (len : Nat) (parts : List (Nat × AV)) (h : List HObj) : Loc (buildSliceA C t len parts) h := by
  intro out ho
  unfold buildSliceA at ho ⊢
  split at ho
  · split at ho
    · rename_i r hr
      split at ho
      · rename_i cs hcs
        have hc := (bif_some ho).1
        replace ho := (bif_some ho).2
        split at ho
        · rename_i xs hxs
          simp only [Option.some.injEq] at ho; subst ho
          refine loc_push rfl (T := lockAll (vecIds cs)) rfl (lockAll_len _) (fun h b hb => lockAll_off hb) (fun h2 h3 => lockAll_congr h3) fun h2 hl h3 => ?_
          have hx2 : unrows h2 r.dt len cs = some xs := by rw [← hxs]; exact unrows_congr (by simpa using h3)
          simp only [hc, cond_true, hx2, hl]
        · simp at ho
      · simp at ho
    · simp at ho
  · simp at ho

theorem loc_makeSlice (t : TypeId) (n m : AV) (h : List HObj) : Loc (makeSliceA C t n m) h := by
  intro out ho
  unfold makeSliceA at ho ⊢
  split at ho
  · split at ho
    · rename_i r hr
      have hc := (bif_some ho).1
      replace ho := (bif_some ho).2
      simp only [Option.some.injEq] at ho; subst ho
      refine loc_push rfl (T := id) rfl (fun _ => rfl) (fun _ _ _ => rfl) (fun h2 h3 => h3) fun h2 hl h3 => ?_
      simp only [hc, cond_true, hl, id]
    · simp at ho
  · simp at ho

theorem loc_slice (t : TypeId) (x : AV) (lo hi : Option AV) (h : List HObj) : Loc (sliceA C t x lo hi) h := by
  intro out ho
  unfold sliceA at ho ⊢
  repeat' split at ho
  all_goals first
    | (simp at ho; done)
    | (simp only [Option.some.injEq] at ho; subst ho; refine loc_quiet rfl rfl rfl fun h2 _ => ?_; simp_all; done)
    | skip
  · have hb := (bif_some ho).1
    replace ho := (bif_some ho).2
    simp only [Option.some.injEq] at ho; subst ho
    refine loc_quiet rfl rfl rfl fun h2 _ => ?_
    simp_all
  · rename_i hk _ _ _ _ _ _
    have hc := (bif_some ho).1
    replace ho := (bif_some ho).2
    simp only [Option.some.injEq] at ho; subst ho
    refine loc_place rfl (lockAt_len _ _) (fun b hb => lockAt_off hb) fun h2 h3 => ?_
    have h4 := h3 _ (by simp; rfl)
    refine ⟨lockAt _ h2, ?_, lockAt_len _ _, fun b hb => ?_, fun b hb => lockAt_off hb⟩
    · simp_all
    · rw [lockAt_congr h4 b, if_pos (by simpa using hb)]
  · have hc := (bif_some ho).1
    replace ho := (bif_some ho).2
    rename_i hcs _ _ hxs
    simp only [Option.some.injEq] at ho; subst ho
    refine loc_place rfl (lockAt_len _ _) (fun b hb => lockAt_off hb) fun h2 h3 => ?_
    have h4 := h3 _ (by simp; rfl)
    refine ⟨lockAt _ h2, ?_, lockAt_len _ _, fun b hb => ?_, fun b hb => lockAt_off hb⟩
    · have h5 := rd_loc hcs (h2 := h2) (by simpa [rdIds] using h4)
      have h6 : ∀ k ∈ vecIds _, h2[k]? = h[k]? := fun k hk => by
        simp only [Bool.and_eq_true, Nat.beq_eq] at hc
        rw [List.eq_nil_of_length_eq_zero hc.1.2] at hk
        simp at hk
      simp only [h5, hc, cond_true, unrows_congr h6, hxs]
    · rw [lockAt_congr h4 b, if_pos (by simpa using hb)]

theorem elems_congr {h h2 : List HObj} {t : Ty} {v : AV} (hv : ∀ k ∈ vecIds [v], h2[k]? = h[k]?) : elems h2 t v = elems h t v := by
  unfold elems
  rw [(unflat_congr (h := h) (h2 := h2) (t := .list t) hv).1]

theorem loc_append (t : TypeId) (x y : AV) (h : List HObj) : Loc (appendA C t x y) h := by
  intro out ho
  unfold appendA at ho ⊢
  split at ho
  · split at ho
    · rename_i r hr
      have hc := (bif_some ho).1
      replace ho := (bif_some ho).2
      split at ho
      · rename_i ys hys
        split at ho
        · simp only [Option.some.injEq] at ho; subst ho
          refine loc_push rfl (T := id) rfl (fun _ => rfl) (fun _ _ _ => rfl) (fun h2 h3 => h3) fun h2 hl h3 => ?_
          have h5 : elems h2 r.dt y = some ys := by rw [← hys]; exact elems_congr fun k hk => h3 k (by simp [hk])
          simp only [hc, cond_true, h5, hl, id]
        · rename_i k
          split at ho
          · rename_i e' T xs lk hk
            split at ho
            · rename_i hT
              have hb := (bif_some ho).1
              replace ho := (bif_some ho).2
              simp only [Option.some.injEq] at ho; subst ho
              have hkl : k < h.length := (List.getElem?_eq_some_iff.1 hk).1
              refine loc_push rfl (T := fun h => h.set k .dead) rfl (fun _ => by simp) (fun h b hb => List.getElem?_set_ne (fun e => hb (by simp [e]))) (fun h2 h3 b hb => ?_) fun h2 hl h3 => ?_
              · simp only [List.mem_singleton] at hb
                subst hb
                have h4 := h3 b (by simp)
                have hkl2 : b < h2.length := (List.getElem?_eq_some_iff.1 (h4.trans hk)).1
                rw [List.getElem?_set_self hkl2, List.getElem?_set_self hkl]
              · have h4 := h3 k (by simp)
                have h5 : elems h2 r.dt y = some ys := by rw [← hys]; exact elems_congr fun j hj => h3 j (by simp [hj])
                rw [h5]
                simp only [hc, cond_true, h4, hk, hT, dite_true, hb, hl]
            · simp at ho
          · simp at ho
        · simp at ho
      · simp at ho
    · simp at ho
  · simp at ho

theorem loc_len (t : TypeId) (x : AV) (h : List HObj) : Loc (lenA C t x) h := by
  intro out ho
  unfold lenA at ho ⊢
  repeat' split at ho
  all_goals first
    | (simp at ho; done)
    | (simp only [Option.some.injEq] at ho; subst ho; refine loc_quiet rfl rfl rfl fun h2 _ => ?_; simp_all [Out.pure]; done)
    | skip
  all_goals
    simp only [Option.some.injEq] at ho; subst ho
    refine loc_quiet rfl rfl rfl fun h2 h3 => ?_
    have h4 := h3 _ (by simp)
    simp_all

theorem loc_builtin (b : Builtin) (vs : List AV) (tys : List TypeId) (h : List HObj) : Loc (builtinA C b vs tys) h := by
  unfold builtinA
  split
  · split
    · exact loc_len _ _ h
    · exact loc_none
  · split
    · split
      · exact loc_pure _
      · exact loc_none
    · exact loc_none
  · split
    · split
      · exact loc_pure _
      · exact loc_none
    · exact loc_none
  · split
    · cases hb : Nat.beq _ _ with
      | false => exact loc_none
      | true => exact loc_append _ _ _ h
    · exact loc_none
  · exact loc_none

theorem loc_aop (ρ : Operand → AV) (op : Op) (h : List HObj) : Loc (aop C ρ op) h := by
  cases op <;> unfold aop
  case move x => exact loc_pure _
  case assign x => exact loc_pure _
  case alloc t =>
    intro out ho
    dsimp only at ho ⊢
    split at ho
    · simp only [Option.some.injEq] at ho; subst ho
      refine loc_push rfl (T := id) rfl (fun _ => rfl) (fun _ _ _ => rfl) (fun h2 h3 => h3) fun h2 hl h3 => ?_
      simp only [hl, id]
    · simp at ho
  case box t x =>
    intro out ho
    dsimp only at ho ⊢
    have hb := (bif_some ho).1
    replace ho := (bif_some ho).2
    simp only [Option.some.injEq] at ho; subst ho
    refine loc_push rfl (T := id) rfl (fun _ => rfl) (fun _ _ _ => rfl) (fun h2 h3 => h3) fun h2 hl h3 => ?_
    simp only [hb, cond_true, hl, id]
  case build t parts =>
    dsimp only
    cases hb : parts.toList.all (fun p => boxable (ρ p.2)) with
    | false => exact loc_none
    | true => exact loc_build _ _ h
  case buildSlice t len parts =>
    dsimp only
    cases hb : parts.toList.all (fun p => boxable (ρ p.2)) with
    | false => exact loc_none
    | true => exact loc_buildSlice _ _ _ h
  case load t a => exact loc_load _ _ h
  case store t a v => exact loc_store _ _ _ h
  case nilCheck x =>
    dsimp only
    split
    · exact loc_pure _
    · exact loc_pure _
    · exact loc_pure _
    · exact loc_pure _
    · exact loc_none
  case binOp op t x y u => exact loc_bin _ _ _ _ h
  case unOp op t x =>
    refine loc_map ((unA op (ρ x) []).map fun o => (o.g, o.v)) fun h => ?_
    dsimp only
    unfold unA
    split <;> rfl
  case convert a b x =>
    dsimp only
    split
    · exact loc_pure _
    · exact loc_none
  case makeFunc fn a b =>
    dsimp only [makeFuncA]
    split
    · exact loc_pure _
    · exact loc_none
  case makeSlice t n m => exact loc_makeSlice _ _ _ h
  case slice t x lo hi mx =>
    dsimp only [sliceMA]
    split
    · exact loc_slice _ _ _ _ h
    · exact loc_none
  case fieldAddr t x f => exact loc_field _ _ _ h
  case indexAddr t x i => exact loc_index _ _ _ h
  case index t x i => exact loc_indexV _ _ _ h
  case extract x i =>
    dsimp only
    split
    · split
      · exact loc_pure _
      · exact loc_none
    · exact loc_none
  case call c =>
    obtain ⟨callee, args, tys⟩ := c
    cases callee <;> dsimp only
    · exact loc_none
    · exact loc_none
    · exact loc_builtin _ _ _ h
  all_goals exact loc_none

theorem loc_aopS (sl : Option Nat) (ρ : Operand → AV) (op : Op) (h : List HObj) : Loc (aopS C sl ρ op) h := by
  intro out ho
  unfold aopS at ho ⊢
  split at ho
  · rename_i b t
    split at ho
    · rename_i r hr
      split at ho
      · rename_i hb
        simp only [Option.some.injEq] at ho; subst ho
        have hbl : b < h.length := (List.getElem?_eq_some_iff.1 hb).1
        refine loc_place rfl (by simp) (fun c hc => List.getElem?_set_ne (fun e => hc (by simp [e]))) fun h2 h3 => ?_
        have h4 := h3 b (by simp)
        have hbl2 : b < h2.length := (List.getElem?_eq_some_iff.1 (h4.trans hb)).1
        refine ⟨h2.set b (.val (r.z.map ofAtom) false), by simp only [h4, hb], by simp, fun c hc => ?_, fun c hc => List.getElem?_set_ne (fun e => hc (by simp [e]))⟩
        simp only [List.mem_singleton] at hc
        subst hc
        rw [List.getElem?_set_self hbl2, List.getElem?_set_self hbl]
      · simp at ho
    · simp at ho
  · exact loc_aop ρ op h out ho

theorem aopS_congr {sl : Option Nat} {ρ ρ' : Operand → AV} {op : Op} {h : List HObj} (hh : ∀ x ∈ op.operands, ρ x = ρ' x) : aopS C sl ρ op h = aopS C sl ρ' op h := by
  unfold aopS
  split
  · rfl
  · exact aop_congr hh

end
end Go.RX

/-
  '==' on structs and arrays, cell by cell.
-/
import Derived.Test.YtleejiihlldflaaGreatRh
namespace Go.RX

section
variable (P : Program)

def leavesF (lv : TypeId → Option (List TK)) : List Field → Nat → Option (List TK)
  | [], _ => some []
  | f :: fs, off => if f.name = "_" then none else if f.offset ≠ off then none else
    match lv f.type, leavesF lv fs (off + P.cellsOf f.type) with
    | some a, some b => if a.length = P.cellsOf f.type ∧ P.cellsOf f.type ≠ 0 then some (a ++ b) else none
    | _, _ => none

def rep (n : Nat) (l : List TK) : List TK := (List.replicate n l).flatten

def leaves : Nat → TypeId → Option (List TK)
  | 0, _ => none
  | d + 1, t => match P.underlying t with
    | some .bool => some [.bool]
    | some (.int k) => some [.int k]
    | some .string => some [.str]
    | some (.struct fs) => if P.stoodInHeld t then none else leavesF P (leaves d) fs.toList 0
    | some (.array n e) => match leaves d e with
      | some l => if l.length = P.cellsOf e ∧ P.cellsOf e ≠ 0 then some (rep n l) else none
      | none => none
    | _ => none

def aggT (t : TypeId) : Bool := match P.underlying t with
  | some (.struct _) => true
  | some (.array _ _) => true
  | _ => false

def eqV : List TK → List Value → List Value → Option Bool
  | [], [], [] => some true
  | .int k :: ks, .int k1 x :: xs, .int k2 y :: ys => if k1 = k ∧ k2 = k then match eqV ks xs ys with
    | some b => some (decide (x = y) && b)
    | none => none
    else none
  | .bool :: ks, .bool x :: xs, .bool y :: ys => match eqV ks xs ys with
    | some b => some ((x == y) && b)
    | none => none
  | .str :: ks, .string x :: xs, .string y :: ys => match eqV ks xs ys with
    | some b => some ((x.toList == y.toList) && b)
    | none => none
  | _, _, _ => none

variable {P}

theorem eqV_rep {G : Gh} {w : World} : ∀ {ks : List TK} {cs ds : List AV} {vs us : List Value} {b : Bool}, RepL G w cs vs → RepL G w ds us → eqCells ks cs ds = some b → eqV ks vs us = some b := by
  intro ks
  induction ks with
  | nil =>
    intro cs ds vs us b h1 h2 he
    cases cs <;> cases ds <;> simp [eqCells] at he
    rw [h1.nil_inv, h2.nil_inv, he]; rfl
  | cons k ks ih =>
    intro cs ds vs us b h1 h2 he
    cases cs with
    | nil => cases k <;> simp [eqCells] at he
    | cons c cs =>
      cases ds with
      | nil => cases k <;> cases c <;> simp [eqCells] at he
      | cons d ds =>
        obtain ⟨v, vs', rfl, a1, a2⟩ := h1.cons_inv
        obtain ⟨u, us', rfl, b1, b2⟩ := h2.cons_inv
        cases k <;> cases c <;> cases d <;> simp [eqCells] at he
        all_goals
          cases a1
          cases b1
          simp only [eqV]
        · obtain ⟨hk, he⟩ := he
          rw [if_pos hk]
          cases hb : eqCells ks cs ds with
          | none => rw [hb] at he; simp at he
          | some b' => rw [hb] at he; rw [ih a2 b2 hb]; simpa using he
        · cases hb : eqCells ks cs ds with
          | none => rw [hb] at he; simp at he
          | some b' => rw [hb] at he; rw [ih a2 b2 hb]; simpa using he
        · cases hb : eqCells ks cs ds with
          | none => rw [hb] at he; simp at he
          | some b' => rw [hb] at he; rw [ih a2 b2 hb]; simpa using he

theorem eqV_len : ∀ {ks : List TK} {vs us : List Value} {b : Bool}, eqV ks vs us = some b → vs.length = ks.length ∧ us.length = ks.length := by
  intro ks
  induction ks with
  | nil => intro vs us b h; cases vs <;> cases us <;> simp [eqV] at h; simp
  | cons k ks ih =>
    intro vs us b h
    cases vs with
    | nil => cases k <;> simp [eqV] at h
    | cons v vs =>
      cases us with
      | nil => cases k <;> cases v <;> simp [eqV] at h
      | cons u us =>
        cases k <;> cases v <;> cases u <;> simp [eqV] at h
        · obtain ⟨_, h⟩ := h
          cases hb : eqV ks vs us with
          | none => rw [hb] at h; simp at h
          | some b' => have := ih hb; simp [this.1, this.2]
        all_goals
          cases hb : eqV ks vs us with
          | none => rw [hb] at h; simp at h
          | some b' => have := ih hb; simp [this.1, this.2]

theorem eqV_append : ∀ {ks ks' : List TK} {vs us : List Value} {b : Bool}, eqV (ks ++ ks') vs us = some b →
    ∃ b1 b2, eqV ks (vs.take ks.length) (us.take ks.length) = some b1 ∧ eqV ks' (vs.drop ks.length) (us.drop ks.length) = some b2 ∧ b = (b1 && b2) := by
  intro ks
  induction ks with
  | nil => intro ks' vs us b h; exact ⟨true, b, rfl, by simpa using h, by simp⟩
  | cons k ks ih =>
    intro ks' vs us b h
    cases vs with
    | nil => cases k <;> simp [eqV] at h
    | cons v vs =>
      cases us with
      | nil => cases k <;> cases v <;> simp [eqV] at h
      | cons u us =>
        cases k <;> cases v <;> cases u <;> simp [eqV] at h
        · obtain ⟨hk, h⟩ := h
          cases hb : eqV (ks ++ ks') vs us with
          | none => rw [hb] at h; simp at h
          | some b' =>
            rw [hb] at h
            obtain ⟨b1, b2, h1, h2, h3⟩ := ih hb
            simp only [List.length_cons, List.take_succ_cons, List.drop_succ_cons, eqV]
            rw [if_pos hk, h1]
            exact ⟨_, _, rfl, h2, by rw [h3] at h; simpa [Bool.and_assoc] using h.symm⟩
        all_goals
          cases hb : eqV (ks ++ ks') vs us with
          | none => rw [hb] at h; simp at h
          | some b' =>
            rw [hb] at h
            obtain ⟨b1, b2, h1, h2, h3⟩ := ih hb
            simp only [List.length_cons, List.take_succ_cons, List.drop_succ_cons, eqV]
            rw [h1]
            exact ⟨_, _, rfl, h2, by rw [h3] at h; simpa [Bool.and_assoc] using h.symm⟩

/-- The value of a type over these cells. -/
def mkV (P : Program) (t : TypeId) (vs : List Value) : Value := if aggT P t then .agg vs.toArray else vs.headD undef

theorem run_isAggT (t : TypeId) (w : World) (h : (P.underlying t).isSome) : (isAgg t).run P w = .ok (aggT P t) w := by
  obtain ⟨d, hd⟩ := Option.isSome_iff_exists.1 h
  simp only [isAgg, Sem.run_bind, run_underlying hd, Result.andThen_ok, aggT, hd]
  cases d <;> rfl

theorem run_part {t : TypeId} {w : World} {xs : List Value} {off : Nat} (h : (P.underlying t).isSome) (hs : P.cellsOf t ≠ 0) (hl : off + P.cellsOf t ≤ xs.length) (h1 : aggT P t = false → P.cellsOf t = 1) :
    (part t xs.toArray off).run P w = .ok (mkV P t ((xs.drop off).take (P.cellsOf t))) w := by
  simp only [part, Sem.run_bind, run_isAggT t w h, Result.andThen_ok, mkV]
  cases ha : aggT P t with
  | true =>
    simp only [if_true, Sem.run_bind, run_sizeOf_ne w hs, Result.andThen_ok, Sem.run_pure]
    congr 2
    apply Array.ext'
    simp
  | false =>
    rw [h1 ha] at hl ⊢
    have hlt : off < xs.length := by omega
    simp only [Bool.false_eq_true, if_false, List.getElem?_toArray, List.getElem?_eq_getElem hlt, Sem.run_pure]
    rw [List.drop_eq_getElem_cons hlt]
    rfl

theorem leaves_some {d : Nat} {t : TypeId} {ks : List TK} (h : leaves P d t = some ks) : (P.underlying t).isSome ∧ (aggT P t = false → ks.length = 1) := by
  cases d with
  | zero => simp [leaves] at h
  | succ d =>
    simp only [leaves] at h
    cases hu : P.underlying t with
    | none => rw [hu] at h; simp at h
    | some dd =>
      rw [hu] at h
      refine ⟨rfl, fun ha => ?_⟩
      cases dd <;> simp [aggT, hu] at ha h <;> subst h <;> rfl

theorem run_eqFields {d : Nat} {w : World} (ih : ∀ t ks, leaves P d t = some ks → ∀ vs us b, eqV ks vs us = some b → ∀ m, (Op.equalIn (d + m) t (mkV P t vs) (mkV P t us)).run P w = .ok b w) (m : Nat) :
    ∀ (fs : List Field) (off : Nat) (ks : List TK) (xs ys : List Value) (b : Bool), leavesF P (leaves P d) fs off = some ks → eqV ks (xs.drop off) (ys.drop off) = some b →
      (Op.eqFields (d + m) xs.toArray ys.toArray fs).run P w = .ok b w
  | [], off, ks, xs, ys, b, hl, he => by
    simp only [leavesF, Option.some.injEq] at hl
    subst hl
    cases h1 : xs.drop off <;> cases h2 : ys.drop off <;> rw [h1, h2] at he <;> simp [eqV] at he
    subst he
    simp [Op.eqFields]
  | f :: fs, off, ks, xs, ys, b, hl, he => by
    simp only [leavesF] at hl
    split at hl
    · simp at hl
    · rename_i hn
      split at hl
      · simp at hl
      · rename_i ho
        have ho : f.offset = off := by omega
        split at hl
        · rename_i a c ha hc
          split at hl
          · rename_i hlen
            obtain ⟨hlen, hz⟩ := hlen
            simp only [Option.some.injEq] at hl
            subst hl
            obtain ⟨b1, b2, e1, e2, rfl⟩ := eqV_append he
            obtain ⟨hu, h1⟩ := leaves_some ha
            have hlx := (eqV_len he).1
            have hly := (eqV_len he).2
            simp only [List.length_drop, List.length_append, hlen] at hlx hly
            have hx := run_part (P := P) (w := w) (xs := xs) (off := off) hu hz (by omega) (fun hf => by rw [← hlen]; exact h1 hf)
            have hy := run_part (P := P) (w := w) (xs := ys) (off := off) hu hz (by omega) (fun hf => by rw [← hlen]; exact h1 hf)
            rw [hlen] at e1 e2
            have hi := ih f.type a ha _ _ b1 e1 m
            simp only [Op.eqFields, ne_eq, hn, not_false_eq_true, if_true, Sem.run_bind, ho, hx, hy, Result.andThen_ok, hi]
            cases b1 with
            | false => simp
            | true =>
              simp only [Bool.not_true, Bool.false_eq_true, if_false, Bool.true_and]
              exact run_eqFields ih m fs _ c xs ys b2 hc (by simpa [List.drop_drop, Nat.add_comm] using e2)
          · simp at hl
        · simp at hl

theorem run_eqElems {d : Nat} {w : World} (ih : ∀ t ks, leaves P d t = some ks → ∀ vs us b, eqV ks vs us = some b → ∀ m, (Op.equalIn (d + m) t (mkV P t vs) (mkV P t us)).run P w = .ok b w) (m : Nat)
    {e : TypeId} {l : List TK} (he : leaves P d e = some l) (hl : l.length = P.cellsOf e) (hz : P.cellsOf e ≠ 0) (t : TypeId) (n : Nat) (ht : P.underlying t = some (.array n e)) (xs ys : List Value) (b : Bool)
    (hx : eqV (rep n l) xs ys = some b) : (Op.equalIn (d + m + 1) t (.agg xs.toArray) (.agg ys.toArray)).run P w = .ok b w := by
  simp only [Op.equalIn, Sem.run_bind, run_underlying ht, Result.andThen_ok, run_sizeOf_ne w hz, Std.Legacy.Range.forIn_eq_forIn_range', Std.Legacy.Range.size]
  have key : ∀ (c i : Nat) (b : Bool), eqV (rep c l) (xs.drop (i * P.cellsOf e)) (ys.drop (i * P.cellsOf e)) = some b →
      ∃ r : Option Bool, ((forIn (List.range' i c) ((none : Option Bool), ()) fun i _ => do
          let x ← part e xs.toArray (i * P.cellsOf e)
          let y ← part e ys.toArray (i * P.cellsOf e)
          let q ← Op.equalIn (d + m) e x y
          if (!q) = true then pure (ForInStep.done (some false, ())) else pure (ForInStep.yield (none, ())) : Sem (Option Bool × Unit)).run P w) = .ok (r, ()) w ∧ r.getD true = b := by
    intro c
    induction c with
    | zero =>
      intro i b hb
      have := eqV_len hb
      simp only [rep, List.replicate_zero, List.flatten_nil, List.length_nil] at this
      have h1 := List.eq_nil_of_length_eq_zero this.1
      have h2 := List.eq_nil_of_length_eq_zero this.2
      rw [h1, h2] at hb
      simp only [rep, List.replicate_zero, List.flatten_nil, eqV, Option.some.injEq] at hb
      subst hb
      exact ⟨none, by simp, rfl⟩
    | succ c ihc =>
      intro i b hb
      have hr : rep (c + 1) l = l ++ rep c l := by simp [rep, List.replicate_succ]
      rw [hr] at hb
      obtain ⟨b1, b2, e1, e2, rfl⟩ := eqV_append hb
      obtain ⟨hu, h1⟩ := leaves_some he
      have hlx := (eqV_len hb).1
      have hly := (eqV_len hb).2
      simp only [List.length_drop, List.length_append, hl] at hlx hly
      have px := run_part (P := P) (w := w) (xs := xs) (off := i * P.cellsOf e) hu hz (by omega) (fun hf => by rw [← hl]; exact h1 hf)
      have py := run_part (P := P) (w := w) (xs := ys) (off := i * P.cellsOf e) hu hz (by omega) (fun hf => by rw [← hl]; exact h1 hf)
      rw [hl] at e1 e2
      have hi := ih e l he _ _ b1 e1 m
      simp only [List.range'_succ, List.forIn_cons, Sem.run_bind, px, py, Result.andThen_ok, hi]
      cases b1 with
      | false => exact ⟨some false, by simp, rfl⟩
      | true =>
        obtain ⟨r, hr1, hr2⟩ := ihc (i + 1) b2 (by
          rw [List.drop_drop, List.drop_drop] at e2
          rw [Nat.add_mul, Nat.one_mul]
          exact e2)
        refine ⟨r, ?_, by simpa using hr2⟩
        simp only [Bool.not_true, Bool.false_eq_true, if_false, Sem.run_pure, Result.andThen_ok]
        exact hr1
  obtain ⟨r, h1, h2⟩ := key n 0 b (by simpa using hx)
  have hsz : (n - 0 + 1 - 1) / 1 = n := by simp
  rw [hsz, h1]
  cases r <;> simp at h2 <;> simp [h2]

theorem run_equalIn_leaves : ∀ (d : Nat) (w : World) (t : TypeId) (ks : List TK), leaves P d t = some ks → ∀ (vs us : List Value) (b : Bool), eqV ks vs us = some b → ∀ m : Nat,
    (Op.equalIn (d + m) t (mkV P t vs) (mkV P t us)).run P w = .ok b w
  | 0, _, _, _, h => by simp [leaves] at h
  | d + 1, w, t, ks, h => by
    intro vs us b he m
    have hd : d + 1 + m = d + m + 1 := by omega
    rw [hd]
    simp only [leaves] at h
    cases hu : P.underlying t with
    | none => rw [hu] at h; simp at h
    | some dd =>
      rw [hu] at h
      cases dd with
      | bool =>
        simp only [Option.some.injEq] at h
        subst h
        cases vs with
        | nil => simp [eqV] at he
        | cons v vs => cases us with
          | nil => cases v <;> simp [eqV] at he
          | cons u us => cases v <;> cases u <;> simp [eqV] at he
                         cases vs <;> cases us <;> simp [eqV] at he
                         subst he
                         simp only [mkV, aggT, hu, Bool.false_eq_true, if_false, List.headD_cons]
                         rw [run_equalIn_bool' w _ t _ _ hu]
      | int k =>
        simp only [Option.some.injEq] at h
        subst h
        cases vs with
        | nil => simp [eqV] at he
        | cons v vs => cases us with
          | nil => cases v <;> simp [eqV] at he
          | cons u us => cases v <;> cases u <;> simp [eqV] at he
                         cases vs <;> cases us <;> simp [eqV] at he
                         obtain ⟨⟨rfl, rfl⟩, he⟩ := he
                         subst he
                         simp only [mkV, aggT, hu, Bool.false_eq_true, if_false, List.headD_cons]
                         rw [run_equalIn_int w _ t _ _ _ _ hu]
                         rfl
      | string =>
        simp only [Option.some.injEq] at h
        subst h
        cases vs with
        | nil => simp [eqV] at he
        | cons v vs => cases us with
          | nil => cases v <;> simp [eqV] at he
          | cons u us => cases v <;> cases u <;> simp [eqV] at he
                         cases vs <;> cases us <;> simp [eqV] at he
                         subst he
                         simp only [mkV, aggT, hu, Bool.false_eq_true, if_false, List.headD_cons]
                         rw [run_equalIn_string w _ t _ _ hu]
      | struct fs =>
        dsimp only at h
        split at h
        · simp at h
        · rename_i hst
          have hag : aggT P t = true := by simp [aggT, hu]
          have hfs : P.underlying t = some (.struct (P.fieldsOf t)) := by simp [Program.fieldsOf, hu]
          have hfs' : P.fieldsOf t = fs := by simp [Program.fieldsOf, hu]
          simp only [mkV, hag, if_true]
          rw [run_equalIn_struct w (d + m) t _ _ hfs (by simpa using hst), hfs']
          exact run_eqFields (fun t' ks' h' vs' us' b' he' m' => run_equalIn_leaves d w t' ks' h' vs' us' b' he' m') m fs.toList 0 ks vs us b h (by simpa using he)
      | array n e =>
        dsimp only at h
        split at h
        · rename_i l hl
          split at h
          · rename_i hc
            simp only [Option.some.injEq] at h
            subst h
            have hag : aggT P t = true := by simp [aggT, hu]
            simp only [mkV, hag, if_true]
            exact run_eqElems (fun t' ks' h' vs' us' b' he' m' => run_equalIn_leaves d w t' ks' h' vs' us' b' he' m') m hl hc.1 hc.2 t n hu vs us b he
          · simp at h
        · simp at h
      | _ => simp at h

def eqOk (P : Program) (t : TypeId) (x : Bool × List TK) : Bool :=
  (match leaves P 20 t with
  | some ks => decide (ks = x.2)
  | none => false) && decide (aggT P t = x.1) && !P.eqGuardType P.depth t

def eqsOk (P : Program) : List (Nat × (Bool × List TK)) → Bool
  | [] => true
  | (t, x) :: l => eqOk P t x && eqsOk P l

theorem eqsOk_ok : ∀ {l : List (Nat × (Bool × List TK))}, eqsOk P l = true → ∀ t x, look l t = some x → eqOk P t x = true
  | [], _, t, r, h => by simp [look] at h
  | (k, r') :: l, h, t, r, hl => by
    simp only [eqsOk, Bool.and_eq_true] at h
    simp only [look] at hl
    cases hk : Nat.beq k t with
    | true =>
      rw [hk] at hl
      simp only [cond_true, Option.some.injEq] at hl
      subst hl
      rw [← Nat.eq_of_beq_eq_true hk]
      exact h.1
    | false =>
      rw [hk] at hl
      exact eqsOk_ok h.2 t r hl

/-- '==' between two values of such a type. -/
theorem equal_ok {G : Gh} {w : World} {t : TypeId} {ag : Bool} {ks : List TK} (h : eqOk P t (ag, ks) = true) {x y : AV} {vx vy : Value} (hx : Rep G w x vx) (hy : Rep G w y vy) {b : Bool}
    (he : eqVals ks ag x y = some b) : (Op.equal t vx vy).run P w = .ok b w ∧ P.eqGuardType P.depth t = false := by
  simp only [eqOk, Bool.and_eq_true, Bool.not_eq_true', decide_eq_true_eq] at h
  obtain ⟨⟨h1, h2⟩, h3⟩ := h
  refine ⟨?_, h3⟩
  split at h1
  · rename_i ks' hks
    have h1 := of_decide_eq_true h1
    subst h1
    unfold eqVals at he
    cases ag with
    | true =>
      cases x <;> cases y <;> simp only at he <;> try (simp at he; done)
      cases hx
      cases hy
      rename_i vx hlx rx vy hly ry
      have := run_equalIn_leaves 20 w t ks' hks vx.toList vy.toList b (eqV_rep ⟨by simpa using hlx, fun i c v hc hv => rx i c v hc (by simpa using hv)⟩ ⟨by simpa using hly, fun i c v hc hv => ry i c v hc (by simpa using hv)⟩ he) 9980
      simpa [mkV, h2, Op.equal, Op.maxDepth] using this
    | false =>
      have := run_equalIn_leaves 20 w t ks' hks [vx] [vy] b (eqV_rep (RepL.cons hx (RepL.nil G w)) (RepL.cons hy (RepL.nil G w)) (by cases x <;> cases y <;> exact he)) 9980
      simpa [mkV, h2, Op.equal, Op.maxDepth] using this
  · simp at h1

end
end Go.RX

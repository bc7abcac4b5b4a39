/-
  Loops, and functions that are handed places, by slots.
-/
import Derived.Test.YtleejiihlldflaaGreatRx
import Derived.Test.YtleejiihlldflaaGreatRu
namespace Go.RX
open Go.RowKit

def Ct.dflt : (c : Ct) → c.den
  | .d t => t.dflt
  | .v _ _ => []
def ctsDflt : (cs : List Ct) → Cts cs
  | [] => ()
  | c :: cs => (c.dflt, ctsDflt cs)
def slDflt : (ss : List Slot) → Sl ss
  | [] => ()
  | s :: ss => (ctsDflt s.cts, slDflt ss)
instance (ss : List Slot) : Inhabited (Sl ss) := ⟨slDflt ss⟩

@[reducible] def Outs : List (Exit × List Slot) → Type
  | [] => Unit
  | [o] => Sl o.2
  | o :: p :: r => Sl o.2 ⊕ Outs (p :: r)

def outsDflt : (os : List (Exit × List Slot)) → Outs os
  | [] => ()
  | [o] => slDflt o.2
  | o :: _ :: _ => .inl (slDflt o.2)
instance (os : List (Exit × List Slot)) : Inhabited (Outs os) := ⟨outsDflt os⟩

def loopN {X Y : Type} (step : X → Option (X ⊕ Y)) : Nat → X → Option Y
  | 0, _ => none
  | n + 1, x => match step x with
    | some (.inl x') => loopN step n x'
    | some (.inr y) => some y
    | none => none

def sameX : Exit → Exit → Bool
  | .ret, .ret => true
  | .exit i, .exit j => Nat.beq i j
  | _, _ => false

theorem sameX_eq {a b : Exit} (h : sameX a b = true) : a = b := by
  cases a <;> cases b <;> simp [sameX] at h <;> first | rfl | (rw [h])

/-- Slots at the end of a piece: places are where they were. -/
def rdEnd (ss : List Slot) (s : St) : Option (Sl ss) :=
  match rdSs s.heap s.tmps some ss 0 with
  | some (y, src, lk) => bif okSrc src lk && stay (ssB ss) src then some y else none
  | none => none

def rdOut : (os : List (Exit × List Slot)) → Exit → St → Option (Outs os)
  | [], _, _ => none
  | [o], e, s => bif sameX o.1 e then rdEnd o.2 s else none
  | o :: p :: r, e, s => bif sameX o.1 e then (match rdEnd o.2 s with
      | some y => some (.inl y)
      | none => none)
    else (match rdOut (p :: r) e s with
      | some y => some (.inr y)
      | none => none)

def endK (ss : List Slot) (os : List (Exit × List Slot)) (nt : Nat) (kp : List Nat) (e : Exit) (s : St) : Option ((Sl ss ⊕ Outs os) × List AV) :=
  bif Nat.beq s.tmps.length nt then
    match e with
    | .normal => match rdEnd ss s with
      | some x => some (.inl x, kp.map fun t => s.tmps.getD t .top)
      | none => none
    | e => match rdOut os e s with
      | some y => some (.inr y, kp.map fun t => s.tmps.getD t .top)
      | none => none
  else none

/-- A function value that a loop keeps: its function, and the places that it holds. -/
structure FT where
  f : FuncId
  first : List Nat
  caps : List Nat

def FT.av (T : FT) : AV := .fn T.f (T.first.map fun n => .ptr n 0) (T.caps.map fun n => .ptr n 0)
def FT.val (T : FT) (loc : Nat → Value) : Value := .func (.func T.f) (T.first.map loc).toArray (T.caps.map loc).toArray

def keptA (fx : List (Nat × FT)) (vs : Nat → Value) (t : Nat) : AV :=
  match look fx t with
  | some T => T.av
  | none => .opq (vs t)

def baseT (nt : Nat) (kp : List Nat) (fx : List (Nat × FT)) (vs : Nat → Value) : List AV := (List.range nt).map fun t => bif kp.any (Nat.beq t) then keptA fx vs t else .top

/-- The places of the function values are among the slots. -/
def fxWf (ss : List Slot) (kp : List Nat) (fx : List (Nat × FT)) : Bool :=
  fx.all fun p => kp.any (Nat.beq p.1) && (p.2.first ++ p.2.caps).all fun i => (ssB ss).getD i false

theorem look_mem {α : Type} : ∀ {l : List (Nat × α)} {t : Nat} {x : α}, look l t = some x → (t, x) ∈ l
  | [], _, _, h => by simp [look] at h
  | (k, v) :: l, t, x, h => by
    simp only [look] at h
    cases hb : Nat.beq k t with
    | true =>
      rw [hb] at h
      simp only [cond_true, Option.some.injEq] at h
      rw [← Nat.eq_of_beq_eq_true hb, h]; simp
    | false => rw [hb] at h; exact List.mem_cons_of_mem _ (look_mem h)

theorem fxWf_at {ss : List Slot} {kp : List Nat} {fx : List (Nat × FT)} (h : fxWf ss kp fx = true) {t : Nat} {T : FT} (ht : look fx t = some T) : t ∈ kp ∧ ∀ i ∈ T.first ++ T.caps, (ssB ss)[i]? = some true := by
  have := List.all_eq_true.1 h _ (look_mem ht)
  simp only [Bool.and_eq_true, List.any_eq_true, List.all_eq_true] at this
  obtain ⟨⟨k, h1, h2⟩, h3⟩ := this
  refine ⟨by rw [Nat.eq_of_beq_eq_true h2]; exact h1, fun i hi => ?_⟩
  have := h3 i hi
  rw [List.getD_eq_getElem?_getD] at this
  cases hb : (ssB ss)[i]? with
  | none => rw [hb] at this; simp at this
  | some b => rw [hb] at this; simp at this; rw [this]

/-- A box is behind a pointer. -/
theorem box_at {fr : Nat → Nat → Prop} {w : World} {loc : Nat → Value} : ∀ {ss : List Slot} {x : Sl ss} {n i : Nat}, SsOb fr w loc ss x n → (ssB ss)[i]? = some true → ∃ B, loc (n + i) = .pointer (some ⟨B, 0, none⟩)
  | [], _, _, _, _, h => by simp [ssB] at h
  | s :: ss, x, n, i, ho, h => by
    by_cases hi : i < s.no
    · rw [ssB, List.getElem?_append_left (by rw [slB_len]; exact hi)] at h
      unfold slB at h
      cases hb : s.box with
      | true =>
        rw [hb] at h
        cases i with
        | zero =>
          have h1 := ho.1
          unfold SlOb at h1
          rw [hb] at h1
          obtain ⟨⟨B, T, vs, e, _⟩, _⟩ := h1
          exact ⟨B, e⟩
        | succ i => simp [List.getElem?_map] at h
      | false => rw [hb] at h; simp [List.getElem?_map] at h
    · rw [ssB, List.getElem?_append_right (by rw [slB_len]; omega), slB_len] at h
      obtain ⟨B, hB⟩ := box_at (n := n + s.no) ho.2 h
      exact ⟨B, by rw [← hB]; congr 1; omega⟩

section
variable {G : Gh} {w : World}

theorem refs_rep {loc : Nat → Value} : ∀ {l : List Nat}, (∀ i ∈ l, i < G.n ∧ G.loc i = loc i ∧ ∃ B, loc i = .pointer (some ⟨B, 0, none⟩)) → RepL G w (l.map fun n => .ptr n 0) (l.map loc)
  | [], _ => RepL.nil G w
  | i :: l, h => by
    obtain ⟨h1, h2, B, h3⟩ := h i (by simp)
    refine RepL.cons ?_ (refs_rep fun j hj => h j (List.mem_cons_of_mem _ hj))
    rw [h3]
    exact .ptr i 0 B h1 (h2.trans h3)

theorem refs_val : ∀ {l : List Nat} {vs : List Value}, RepL G w (l.map fun n => .ptr n 0) vs → vs = l.map G.loc
  | [], vs, h => h.nil_inv
  | i :: l, vs, h => by
    obtain ⟨v, us, rfl, h1, h2⟩ := RepL.cons_inv (cs := l.map fun n => AV.ptr n 0) h
    rw [refs_val h2]
    cases h1
    rename_i B _ hl
    simp [hl]

theorem ft_rep {loc : Nat → Value} {T : FT} (h : ∀ i ∈ T.first ++ T.caps, i < G.n ∧ G.loc i = loc i ∧ ∃ B, loc i = .pointer (some ⟨B, 0, none⟩)) : Rep G w T.av (T.val loc) := by
  have r1 := refs_rep (G := G) (w := w) (l := T.first) fun i hi => h i (by simp [hi])
  have r2 := refs_rep (G := G) (w := w) (l := T.caps) fun i hi => h i (by simp [hi])
  exact .fn T.f _ _ _ _ (by simp) (by simp) (fun i c v hc hv => r1.2 i c v hc (by simpa using hv)) fun i c v hc hv => r2.2 i c v hc (by simpa using hv)

theorem ft_val {T : FT} {v : Value} (h : Rep G w T.av v) : v = T.val G.loc := by
  unfold FT.av at h
  generalize ha : (T.first.map fun n => AV.ptr n 0) = a at h
  generalize hb : (T.caps.map fun n => AV.ptr n 0) = b at h
  cases h with
  | fn _ _ _ va vb la lb ra rb =>
    have r1 : RepL G w (T.first.map fun n => .ptr n 0) va.toList := by rw [ha]; exact ⟨by simpa using la, fun i c v hc hv => ra i c v hc (by simpa using hv)⟩
    have r2 : RepL G w (T.caps.map fun n => .ptr n 0) vb.toList := by rw [hb]; exact ⟨by simpa using lb, fun i c v hc hv => rb i c v hc (by simpa using hv)⟩
    have e1 := refs_val r1
    have e2 := refs_val r2
    unfold FT.val
    rw [← e1, ← e2]

theorem ft_loc {T : FT} {l1 l2 : Nat → Value} (h : ∀ i ∈ T.first ++ T.caps, l1 i = l2 i) : T.val l1 = T.val l2 := by
  unfold FT.val
  rw [List.map_congr_left (l := T.first) fun i hi => h i (by simp [hi]), List.map_congr_left (l := T.caps) fun i hi => h i (by simp [hi])]

end

/-- The function values of a frame. -/
def Fxs (fx : List (Nat × FT)) (loc : Nat → Value) (tv : List Value) : Prop := ∀ t T, look fx t = some T → tv.getD t undef = T.val loc

def leB : List Bool → List Bool → Bool
  | [], _ => true
  | false :: a, _ :: b => leB a b
  | false :: a, [] => leB a []
  | true :: a, true :: b => leB a b
  | true :: _, _ => false

theorem leB_at : ∀ {a b : List Bool} {i : Nat}, leB a b = true → a[i]? = some true → b[i]? = some true
  | [], _, _, _, h => by simp at h
  | false :: a, c :: b, 0, _, h => by simp at h
  | false :: a, c :: b, i + 1, hl, h => by simpa using leB_at (a := a) (b := b) hl (by simpa using h)
  | false :: a, [], 0, _, h => by simp at h
  | false :: a, [], i + 1, hl, h => by
    have := leB_at (a := a) (b := []) (i := i) hl (by simpa using h)
    simp at this
  | true :: a, true :: b, 0, _, _ => rfl
  | true :: a, true :: b, i + 1, hl, h => by simpa using leB_at (a := a) (b := b) hl (by simpa using h)
  | true :: a, false :: b, _, hl, _ => by simp [leB] at hl
  | true :: a, [], _, hl, _ => by simp [leB] at hl

/-- What holds of the way that a loop ends in. -/
def OutAll : (os : List (Exit × List Slot)) → Outs os → (Exit → (ss : List Slot) → Sl ss → Prop) → Prop
  | [], _, _ => False
  | [o], y, Φ => Φ o.1 o.2 y
  | o :: _ :: _, .inl y, Φ => Φ o.1 o.2 y
  | _ :: p :: r, .inr y, Φ => OutAll (p :: r) y Φ

theorem OutAll.mono : ∀ {os : List (Exit × List Slot)} {y : Outs os} {Φ Ψ : Exit → (ss : List Slot) → Sl ss → Prop}, (∀ e ss y, (e, ss) ∈ os → Φ e ss y → Ψ e ss y) → OutAll os y Φ → OutAll os y Ψ
  | [], _, _, _, _, h => h
  | [o], y, _, _, hm, h => hm _ _ _ (by simp) h
  | o :: _ :: _, .inl y, _, _, hm, h => hm _ _ _ (by simp) h
  | _ :: p :: r, .inr y, _, _, hm, h => OutAll.mono (os := p :: r) (fun e ss y hy => hm e ss y (List.mem_cons_of_mem _ hy)) h

theorem OutAll.of_all : ∀ {os : List (Exit × List Slot)} {y : Outs os} {Φ : Exit → (ss : List Slot) → Sl ss → Prop}, os ≠ [] → (∀ e ss y, Φ e ss y) → OutAll os y Φ
  | [], _, _, h, _ => absurd rfl h
  | [o], y, _, _, hm => hm _ _ _
  | o :: _ :: _, .inl y, _, _, hm => hm _ _ _
  | _ :: p :: r, .inr y, _, _, hm => OutAll.of_all (os := p :: r) (by simp) hm

theorem rdOut_all : ∀ {os : List (Exit × List Slot)} {e : Exit} {s : St} {y : Outs os}, rdOut os e s = some y → OutAll os y fun e' ss z => e' = e ∧ rdEnd ss s = some z
  | [], _, _, _, h => by simp [rdOut] at h
  | [o], e, s, y, h => by
    simp only [rdOut] at h
    cases hx : sameX o.1 e with
    | false => rw [hx] at h; simp at h
    | true => rw [hx] at h; exact ⟨sameX_eq hx, h⟩
  | o :: p :: r, e, s, y, h => by
    simp only [rdOut] at h
    cases hx : sameX o.1 e with
    | true =>
      rw [hx] at h
      simp only [cond_true] at h
      split at h
      · rename_i z hz
        simp only [Option.some.injEq] at h
        subst h
        exact ⟨sameX_eq hx, hz⟩
      · simp at h
    | false =>
      rw [hx] at h
      simp only [cond_false] at h
      split at h
      · rename_i z hz
        simp only [Option.some.injEq] at h
        subst h
        exact rdOut_all (os := p :: r) hz
      · simp at h

section
variable {P : Program} {C : Cfg} {ss : List Slot} {os : List (Exit × List Slot)} {nt : Nat} {kp : List Nat} {fx : List (Nat × FT)} {cur : FuncId} {b : Code} {n : Nat} {step : Sl ss → Option (Sl ss ⊕ Outs os)}

theorem baseT_rep {fr : Nat → Nat → Prop} {w : World} {loc : Nat → Value} {x : Sl ss} {tv : List Value} (own : Own fr w loc ss x tv) (hw : fxWf ss kp fx = true) (hf : Fxs fx loc tv) (h : tv.length = nt) :
    RepL (ghOf fr loc ss) w (baseT nt kp fx fun t => tv.getD t undef) tv := by
  unfold baseT
  refine ⟨by simp [h], fun i c v hc hv => ?_⟩
  rw [List.getElem?_map] at hc
  have hi : i < nt := by rw [← h]; exact (List.getElem?_eq_some_iff.1 hv).1
  rw [show (List.range nt)[i]? = some i by simp [hi]] at hc
  simp only [Option.map_some, Option.some.injEq] at hc
  subst hc
  cases kp.any (Nat.beq i) with
  | true =>
    simp only [cond_true]
    unfold keptA
    split
    · rename_i T hT
      have := hf i T hT
      rw [List.getD_eq_getElem?_getD, hv] at this
      have this : v = T.val loc := this
      rw [this]
      refine ft_rep fun j hj => ?_
      have hb := (fxWf_at hw hT).2 j hj
      have hj : j < nos ss := by rw [← ssB_len]; exact (List.getElem?_eq_some_iff.1 hb).1
      obtain ⟨B, hB⟩ := box_at own.ob hb
      rw [Nat.zero_add] at hB
      exact ⟨hj, rfl, B, hB⟩
    · dsimp only
      rw [List.getD_eq_getElem?_getD, hv]
      exact .opq v
  | false => exact .top v

/-- A loop's body, run over any state of the slots: what it comes to. -/
def Turns (C : Cfg) (n : Nat) (cur : FuncId) (b : Code) (ss : List Slot) (os : List (Exit × List Slot)) (nt : Nat) (kp : List Nat) (fx : List (Nat × FT)) (step : Sl ss → Option (Sl ss ⊕ Outs os)) : Prop :=
  ∀ (x : Sl ss) (vs : Nat → Value), run C n cur b (mkSt ss x (baseT nt kp fx vs)) (endK ss os nt kp) = match step x with
    | some r => some (r, kp.map (keptA fx vs))
    | none => none

/-- What is the same behind a piece in a frame. -/
structure Kept (kp : List Nat) (nt : Nat) (a a' : Act) : Prop where
  dfr : a'.defers = []
  size : a'.tmps.toList.length = nt
  same : ∀ t ∈ kp, a'.tmps.toList.getD t undef = a.tmps.toList.getD t undef

theorem turn_ok (hC : CfgOk P C) (ht : Turns C n cur b ss os nt kp fx step) (hw : fxWf ss kp fx = true) (hl : ∀ id L body, C.loops cur id = some L → body ∈ blocksIn id b → LoopOk P L id body) (hos : ∀ e ss', (e, ss') ∈ os → leB (ssB ss') (ssB ss) = true)
    {fr : Nat → Nat → Prop} {w : World} {loc : Nat → Value} {x : Sl ss} {a : Act} (own : Own fr w loc ss x a.tmps.toList) (hf : Fxs fx loc a.tmps.toList) (hd : a.defers = []) (hn : a.tmps.toList.length = nt) {r : Sl ss ⊕ Outs os} (hr : step x = some r)
    {Q : Exit → Act → World → Prop}
    (hQ : ∀ fr' w' loc' a', Kept kp nt a a' → match r with
      | .inl x' => Own fr' w' loc' ss x' a'.tmps.toList → Goes fr w loc ss fr' w' loc' ss → Q .normal a' w'
      | .inr y => OutAll os y fun e ss' y' => Own fr' w' loc' ss' y' a'.tmps.toList → Goes fr w loc ss fr' w' loc' ss' → Q e a' w') : b.wp P Q a w := by
  have h := ht x fun t => a.tmps.toList.getD t undef
  rw [hr, run_eq] at h
  obtain ⟨⟨e, s'⟩, hrun, hend⟩ := Option.bind_eq_some_iff.1 h
  have hsim := own_sim (ss := ss) own hd (baseT_rep (kp := kp) (fx := fx) own hw hf hn)
  refine (run_ok hC n cur b _ e s' hrun hl _ _ w _ hsim fun G' a' w' hs' he' => ?_).1
  unfold endK at hend
  dsimp only at hend
  cases hlen : Nat.beq s'.tmps.length nt with
  | false => rw [hlen] at hend; simp at hend
  | true =>
    rw [hlen] at hend
    simp only [cond_true] at hend
    have hsz : a'.tmps.toList.length = nt := by rw [← hs'.tmps.1]; exact Nat.eq_of_beq_eq_true hlen
    have kept : ∀ (l : List AV), l = kp.map (fun t => s'.tmps.getD t .top) → l = kp.map (keptA fx fun t => a.tmps.toList.getD t undef) → Kept kp nt a a' := by
      intro l h1 h2
      refine ⟨hs'.dfr, hsz, fun t ht => ?_⟩
      rw [h1] at h2
      have := List.map_inj_left.1 h2 t ht
      have hrep := hs'.tmps.getD t
      rw [this] at hrep
      generalize a'.tmps.toList.getD t undef = v at hrep
      unfold keptA at hrep
      split at hrep
      · rename_i T hT
        rw [ft_val hrep, hf t T hT]
        refine ft_loc fun i hi => ?_
        have hb := (fxWf_at hw hT).2 i hi
        have hj : i < nos ss := by rw [← ssB_len]; exact (List.getElem?_eq_some_iff.1 hb).1
        obtain ⟨B, hB⟩ := box_at own.ob hb
        rw [Nat.zero_add] at hB
        exact (he'.loc i hj (by rw [show (ghOf fr loc ss).loc i = loc i from rfl, hB]; exact one_ne rfl)).1
      · cases hrep
        rfl
    have fin : ∀ (ss' : List Slot) (y : Sl ss'), leB (ssB ss') (ssB ss) = true → rdEnd ss' s' = some y → ∃ fr' loc', Own fr' w' loc' ss' y a'.tmps.toList ∧ Goes fr w loc ss fr' w' loc' ss' := by
      intro ss' y hle hy
      unfold rdEnd at hy
      split at hy
      · rename_i y' src lk hrd
        cases hk : okSrc src lk && stay (ssB ss') src with
        | false => rw [hk] at hy; simp at hy
        | true =>
          rw [hk] at hy
          simp only [cond_true, Option.some.injEq] at hy
          subst hy
          simp only [Bool.and_eq_true] at hk
          exact goes_of own hs' he' hrd hk.1 hk.2 fun i hi => leB_at hle hi
      · simp at hy
    have outs : (match rdOut os e s' with
        | some y => some ((Sum.inr y : Sl ss ⊕ Outs os), kp.map fun t => s'.tmps.getD t .top)
        | none => none) = some (r, kp.map (keptA fx fun t => a.tmps.toList.getD t undef)) → Q e a' w' := by
      intro hend
      split at hend
      · rename_i y hy
        simp only [Option.some.injEq, Prod.mk.injEq] at hend
        obtain ⟨rfl, hk⟩ := hend
        have hkp := kept _ rfl hk
        have h1 := rdOut_all hy
        -- the way out is one of the ways
        have key : ∀ {os' : List (Exit × List Slot)} {y' : Outs os'}, (∀ e ss', (e, ss') ∈ os' → leB (ssB ss') (ssB ss) = true) → (OutAll os' y' fun e' ss z => e' = e ∧ rdEnd ss s' = some z) →
            (∀ fr' loc', OutAll os' y' fun e ss' z => Own fr' w' loc' ss' z a'.tmps.toList → Goes fr w loc ss fr' w' loc' ss' → Q e a' w') → Q e a' w' := by
          intro os'
          induction os' with
          | nil => intro y' _ h1 _; exact h1.elim
          | cons o r ih =>
            intro y' hle h1 h2
            cases r with
            | nil =>
              obtain ⟨he, hz⟩ : o.1 = e ∧ rdEnd o.2 s' = some y' := h1
              obtain ⟨fr', loc', g1, g2⟩ := fin o.2 y' (hle o.1 o.2 (by simp)) hz
              rw [← he]; exact h2 fr' loc' g1 g2
            | cons p r =>
              cases y' with
              | inl z =>
                obtain ⟨he, hz⟩ : o.1 = e ∧ rdEnd o.2 s' = some z := h1
                obtain ⟨fr', loc', g1, g2⟩ := fin o.2 z (hle o.1 o.2 (by simp)) hz
                rw [← he]; exact h2 fr' loc' g1 g2
              | inr z => exact ih (y' := z) (fun e ss' hm => hle e ss' (List.mem_cons_of_mem _ hm)) h1 h2
        exact key hos h1 fun fr' loc' => hQ fr' w' loc' a' hkp
      · simp at hend
    cases e with
    | normal =>
      dsimp only at hend
      split at hend
      · rename_i x' hx'
        simp only [Option.some.injEq, Prod.mk.injEq] at hend
        obtain ⟨rfl, hk⟩ := hend
        have hle : leB (ssB ss) (ssB ss) = true := by
          generalize ssB ss = l
          induction l with
          | nil => rfl
          | cons c l ih => cases c <;> exact ih
        obtain ⟨fr', loc', g1, g2⟩ := fin ss x' hle hx'
        exact hQ fr' w' loc' a' (kept _ rfl hk) g1 g2
      · simp at hend
    | _ => exact outs hend

theorem Kept.trans {a b c : Act} (h : Kept kp nt a b) (k : Kept kp nt b c) : Kept kp nt a c := ⟨k.dfr, k.size, fun t ht => (k.same t ht).trans (h.same t ht)⟩

theorem loop_rounds (hC : CfgOk P C) (ht : Turns C n cur b ss os nt kp fx step) (hw : fxWf ss kp fx = true) (hl : ∀ id L body, C.loops cur id = some L → body ∈ blocksIn id b → LoopOk P L id body) (hos : ∀ e ss', (e, ss') ∈ os → leB (ssB ss') (ssB ss) = true)
    {Q : Exit → Act → World → Prop} {y : Outs os} : ∀ (m : Nat) (x : Sl ss) (fr : Nat → Nat → Prop) (w : World) (loc : Nat → Value) (a : Act), Own fr w loc ss x a.tmps.toList → Fxs fx loc a.tmps.toList → a.defers = [] → a.tmps.toList.length = nt → loopN step m x = some y →
    (OutAll os y fun e ss' y' => ∀ fr' w' loc' a', Kept kp nt a a' → Own fr' w' loc' ss' y' a'.tmps.toList → Goes fr w loc ss fr' w' loc' ss' → Q e a' w') → (∀ e ss', (e, ss') ∈ os → e ≠ .normal) → Code.rounds P b Q m a w
  | 0, x, fr, w, loc, a, _, _, _, _, h, _, _ => by simp [loopN] at h
  | m + 1, x, fr, w, loc, a, own, hf, hd, hn, h, hQ, hne => by
    rw [rounds_succ]
    simp only [loopN] at h
    cases hs : step x with
    | none => rw [hs] at h; simp at h
    | some r =>
      rw [hs] at h
      refine turn_ok hC ht hw hl hos own hf hd hn hs fun fr' w' loc' a' hk => ?_
      cases r with
      | inl x' =>
        dsimp only at h ⊢
        intro own' go'
        have hf' : Fxs fx loc' a'.tmps.toList := fun t T hT => by
          obtain ⟨k1, k2⟩ := fxWf_at hw hT
          rw [hk.same t k1, hf t T hT]
          exact ft_loc fun i hi => ((go'.box i (k2 i hi)).2).symm
        refine loop_rounds hC ht hw hl hos m x' fr' w' loc' a' own' hf' hk.dfr hk.size h ?_ hne
        refine OutAll.mono (fun e ss1 y1 hm hq fr2 w2 loc2 a2 hk2 own2 go2 => hq fr2 w2 loc2 a2 (hk.trans hk2) own2 (go'.trans go2 fun i hi => leB_at (hos e ss1 hm) hi)) hQ
      | inr y' =>
        dsimp only at h ⊢
        simp only [Option.some.injEq] at h
        subst h
        refine OutAll.mono (fun e ss1 y1 hm hq own1 go1 => ?_) hQ
        have := hq fr' w' loc' a' hk own1 go1
        cases e with
        | normal => exact absurd rfl (hne _ _ hm)
        | _ => exact this

end
end Go.RX

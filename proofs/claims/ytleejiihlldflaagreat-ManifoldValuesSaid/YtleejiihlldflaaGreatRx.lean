/-
  Reading slots out of a state; frames; putting them back.
-/
import Derived.Test.YtleejiihlldflaaGreatRw
namespace Go.RX

inductive Src where
  | nil
  | obj (k : Nat)
  deriving DecidableEq

def rdCt (h : List HObj) : (c : Ct) → List AV → Option (c.den × List AV × List Src × List Nat)
  | .d t, cs => match unflat h t (cs.take t.width) with
    | some (x, []) => some (x, cs.drop t.width, [], vecIds (cs.take t.width))
    | _ => none
  | .v e t, c :: cs => match c with
    | .nils => bif Nat.ble 1 t.width then some ([], cs, [.nil], []) else none
    | .vec k => match h[k]? with
      | some (.vec e' t' xs false) => if ht : t' = t then (bif Nat.beq e' e then some (castL ht xs, cs, [.obj k], []) else none) else none
      | _ => none
    | _ => none
  | .v _ _, [] => none

def rdCts (h : List HObj) : (cs : List Ct) → List AV → Option (Cts cs × List Src × List Nat)
  | [], [] => some ((), [], [])
  | [], _ :: _ => none
  | c :: cs, l => match rdCt h c l with
    | some (x, r, s, k) => match rdCts h cs r with
      | some (y, s', k') => some ((x, y), s ++ s', k ++ k')
      | none => none
    | none => none

def headPtr (tm : List AV) : List Nat → Option Nat
  | [] => none
  | t :: _ => match tm.getD t .top with
    | .ptr b 0 => some b
    | _ => none

def isPtr (b : Nat) : AV → Bool
  | .ptr b' 0 => Nat.beq b b'
  | _ => false

def boxAt (tm : List AV) (bx : Option Nat) (ts : List Nat) : Option Nat :=
  match bx with
  | some b => some b
  | none => headPtr tm ts

def rdSl (h : List HObj) (tm : List AV) (bx : Option Nat) (s : Slot) : Option (Cts s.cts × List Src × List Nat) :=
  bif s.box then
    match boxAt tm bx s.tmps with
    | some b => bif s.tmps.all fun t => isPtr b (tm.getD t .top) then match h[b]? with
      | some (.val cs false) => match rdCts h s.cts cs with
        | some (x, src, lk) => some (x, .obj b :: src, lk)
        | none => none
      | _ => none
      else none
    | none => none
  else match s.tmps with
    | [t] => bif Nat.ble (t + 1) tm.length then (bif s.agg then match tm.getD t .top with
        | .agg cs => rdCts h s.cts cs
        | _ => none
      else rdCts h s.cts [tm.getD t .top]) else none
    | _ => none

def rdSs (h : List HObj) (tm : List AV) (bx : Nat → Option Nat) : (ss : List Slot) → Nat → Option (Sl ss × List Src × List Nat)
  | [], _ => some ((), [], [])
  | s :: ss, n => match rdSl h tm (bx n) s with
    | some (x, src, lk) => match rdSs h tm bx ss (n + s.no) with
      | some (y, src', lk') => some ((x, y), src ++ src', lk ++ lk')
      | none => none
    | none => none

def objsOf : List Src → List Nat
  | [] => []
  | .nil :: l => objsOf l
  | .obj k :: l => k :: objsOf l

def nodupB : List Nat → Bool
  | [] => true
  | k :: l => !(l.any fun j => Nat.beq j k) && nodupB l

def okSrc (src : List Src) (lk : List Nat) : Bool := nodupB (objsOf src) && (objsOf src).all fun k => !(lk.any fun j => Nat.beq j k)

theorem nodupB_ok : ∀ {l : List Nat}, nodupB l = true → l.Nodup
  | [], _ => List.nodup_nil
  | k :: l, h => by
    simp only [nodupB, Bool.and_eq_true, Bool.not_eq_true', List.any_eq_false, Nat.beq_eq] at h
    exact List.nodup_cons.2 ⟨fun hk => h.1 k hk rfl, nodupB_ok h.2⟩

theorem mem_objs : ∀ {src : List Src} {k : Nat}, .obj k ∈ src ↔ k ∈ objsOf src
  | [], k => by simp [objsOf]
  | .nil :: l, k => by simp [objsOf, mem_objs (src := l)]
  | .obj j :: l, k => by simp [objsOf, mem_objs (src := l)]

/-- Where the objects of slots lie. -/
def locOf (G : Gh) (src : List Src) (n : Nat) : Value :=
  match src[n]? with
  | some (.obj k) => G.loc k
  | _ => .slice none 0 0

theorem lockAll_out : ∀ {ks : List Nat} {h : List HObj} {k : Nat}, k ∉ ks → (lockAll ks h)[k]? = h[k]?
  | [], _, _, _ => rfl
  | j :: ks, h, k, hk => by
    simp only [List.mem_cons, not_or] at hk
    rw [lockAll, lockAll_out hk.2, lockAt_get, if_neg hk.1]

section
variable {G : Gh} {w : World} {h : List HObj} {L : List Nat}

theorem okVec_of (s : SimH G (lockAll L h) w) {k : Nat} (hk : k ∉ L) {e : TypeId} {t : Ty} {xs : List t.den} (hh : h[k]? = some (.vec e t xs false)) (h1 : (G.loc k).oneCell' = true) : OkVec G.fr w (G.loc k) e t xs := by
  have ho := s.objs k _ (by rw [lockAll_out hk]; exact hh)
  obtain ⟨q0, q1, us, q2, q3, q4⟩ := ho
  exact ⟨q0, h1, us, q2, q3, fun B hB => (q4 B hB).2.1 rfl⟩

theorem okVec_nil {fr : Nat → Nat → Prop} {e : TypeId} {t : Ty} (ht : 1 ≤ t.width) : OkVec fr w (.slice none 0 0) e t [] :=
  ⟨ht, rfl, [], ⟨by simp, .inl ⟨rfl, rfl⟩⟩, fun i x hx => by simp at hx, fun B hB => by simp [Value.ownBlock] at hB⟩

/-- The places of a part's objects are as the sources say. -/
def At (G : Gh) (loc : Nat → Value) (n : Nat) (src : List Src) : Prop := ∀ i s, src[i]? = some s → loc (n + i) = match s with
  | .obj k => G.loc k
  | .nil => .slice none 0 0

theorem At.left {loc : Nat → Value} {n : Nat} {a b : List Src} (h : At G loc n (a ++ b)) : At G loc n a := fun i s hs => h i s (by
  rw [List.getElem?_append_left (List.getElem?_eq_some_iff.1 hs).1]; exact hs)
theorem At.right {loc : Nat → Value} {n : Nat} {a b : List Src} (h : At G loc n (a ++ b)) : At G loc (n + a.length) b := fun i s hs => by
  have := h (a.length + i) s (by rw [List.getElem?_append_right (by omega), Nat.add_sub_cancel_left]; exact hs)
  rw [← Nat.add_assoc] at this; exact this

theorem rdCt_ok (s : SimH G (lockAll L h) w) (hS : ∀ k ∈ L, Sealed G w h k) {loc : Nat → Value} : ∀ {c : Ct} {cs : List AV} {vs : List Value} {x : c.den} {r : List AV} {src : List Src} {lk : List Nat} {n : Nat},
    rdCt h c cs = some (x, r, src, lk) → RepL G w cs vs → (∀ k ∈ lk, k ∈ L) → (∀ k ∈ objsOf src, k ∉ L) → At G loc n src →
    src.length = c.nv ∧ ∃ v1 v2, vs = v1 ++ v2 ∧ CtV G.fr w loc c x n v1 ∧ CtOb G.fr w loc c x n ∧ RepL G w r v2
  | .d t, cs, vs, x, r, src, lk, n, he, hr, hl, ho, ha => by
    simp only [rdCt] at he
    split at he
    · rename_i y hy
      simp only [Option.some.injEq, Prod.mk.injEq] at he
      obtain ⟨rfl, rfl, rfl, rfl⟩ := he
      obtain ⟨v1, v2, e, d, r2, _⟩ := unflat_rep (hr.take t.width) (fun k hk => hS k (hl k hk)) hy
      refine ⟨rfl, vs.take t.width, vs.drop t.width, (List.take_append_drop _ _).symm, ?_, trivial, hr.drop t.width⟩
      have := r2.nil_inv
      rw [this, List.append_nil] at e
      rw [e]; exact d
    · simp at he
  | .v e t, cs, vs, x, r, src, lk, n, he, hr, hl, ho, ha => by
    cases cs with
    | nil => simp [rdCt] at he
    | cons c cs =>
      obtain ⟨v, us, rfl, h1, h2⟩ := hr.cons_inv
      cases c <;> simp only [rdCt] at he <;> try (exact absurd he (by simp))
      case nils =>
        cases hw : Nat.ble 1 t.width with
        | false => rw [hw] at he; simp at he
        | true =>
          rw [hw] at he
          simp only [cond_true, Option.some.injEq, Prod.mk.injEq] at he
          obtain ⟨rfl, rfl, rfl, rfl⟩ := he
          have hln : loc n = .slice none 0 0 := ha 0 .nil rfl
          cases h1
          refine ⟨rfl, [.slice none 0 0], us, rfl, ?_, ?_, h2⟩
          · show [Value.slice none 0 0] = [loc n]
            rw [hln]
          · show OkVec G.fr w (loc n) e t []
            rw [hln]; exact okVec_nil (Nat.le_of_ble_eq_true hw)
      case vec k =>
        split at he
        · rename_i e' t' xs hk
          split at he
          · rename_i ht
            subst ht
            cases hb : Nat.beq e' e with
            | false => rw [hb] at he; simp at he
            | true =>
              rw [hb] at he
              simp only [cond_true, Option.some.injEq, Prod.mk.injEq] at he
              obtain ⟨rfl, rfl, rfl, rfl⟩ := he
              have hee := Nat.eq_of_beq_eq_true hb
              subst hee
              have hln : loc n = G.loc k := ha 0 (.obj k) rfl
              cases h1
              rename_i hkn hone
              refine ⟨rfl, [G.loc k], us, rfl, ?_, ?_, h2⟩
              · show [G.loc k] = [loc n]
                rw [hln]
              · show OkVec G.fr w (loc n) e' t' (castL rfl xs)
                rw [hln]
                exact okVec_of s (ho k (by simp [objsOf])) hk hone
          · simp at he
        · simp at he

theorem objs_app : ∀ {a b : List Src}, objsOf (a ++ b) = objsOf a ++ objsOf b
  | [], _ => rfl
  | .nil :: a, b => by simp [objsOf, objs_app (a := a)]
  | .obj k :: a, b => by simp [objsOf, objs_app (a := a)]

theorem rdCts_ok (s : SimH G (lockAll L h) w) (hS : ∀ k ∈ L, Sealed G w h k) {loc : Nat → Value} : ∀ {cs : List Ct} {l : List AV} {vs : List Value} {x : Cts cs} {src : List Src} {lk : List Nat} {n : Nat},
    rdCts h cs l = some (x, src, lk) → RepL G w l vs → (∀ k ∈ lk, k ∈ L) → (∀ k ∈ objsOf src, k ∉ L) → At G loc n src →
    src.length = nvs cs ∧ CtsV G.fr w loc cs x n vs ∧ CtsOb G.fr w loc cs x n
  | [], l, vs, x, src, lk, n, he, hr, hl, ho, ha => by
    cases l with
    | nil =>
      simp only [rdCts, Option.some.injEq, Prod.mk.injEq] at he
      obtain ⟨_, rfl, rfl⟩ := he
      exact ⟨rfl, hr.nil_inv, trivial⟩
    | cons c l => simp [rdCts] at he
  | c :: cs, l, vs, x, src, lk, n, he, hr, hl, ho, ha => by
    simp only [rdCts] at he
    split at he
    · rename_i y r s1 k1 h1
      split at he
      · rename_i z s2 k2 h2
        simp only [Option.some.injEq, Prod.mk.injEq] at he
        obtain ⟨rfl, rfl, rfl⟩ := he
        rw [objs_app] at ho
        obtain ⟨q1, v1, v2, rfl, q2, q3, q4⟩ := rdCt_ok s hS h1 hr (fun k hk => hl k (by simp [hk])) (fun k hk => ho k (by simp [hk])) ha.left
        have ha2 := ha.right
        rw [q1] at ha2
        obtain ⟨p1, p2, p3⟩ := rdCts_ok s hS h2 q4 (fun k hk => hl k (by simp [hk])) (fun k hk => ho k (by simp [hk])) ha2
        exact ⟨by simp [q1, p1, nvs], ⟨v1, v2, rfl, q2, p2⟩, q3, p3⟩
      · simp at he
    · simp at he

theorem rdSl_ok (s : SimH G (lockAll L h) w) (hS : ∀ k ∈ L, Sealed G w h k) {loc : Nat → Value} {sl : Slot} {tm : List AV} {tv : List Value} {bx : Option Nat} {x : Cts sl.cts} {src : List Src} {lk : List Nat} {n : Nat}
    (he : rdSl h tm bx sl = some (x, src, lk)) (hr : RepL G w tm tv) (hl : ∀ k ∈ lk, k ∈ L) (ho : ∀ k ∈ objsOf src, k ∉ L) (ha : At G loc n src) :
    src.length = sl.no ∧ (∀ t ∈ sl.tmps, ∀ v, tv[t]? = some v → SlV G.fr w loc sl x n v) ∧ SlOb G.fr w loc sl x n := by
  have hget : ∀ t v, tv[t]? = some v → Rep G w (tm.getD t .top) v := by
    intro t v hv
    have := hr.getD t
    rw [List.getD_eq_getElem?_getD (l := tv), hv] at this
    exact this
  unfold rdSl at he
  unfold SlV SlOb Slot.no
  cases hb : sl.box with
  | true =>
    rw [hb] at he
    simp only [cond_true] at he ⊢
    split at he
    · rename_i b hb1
      cases hall : sl.tmps.all fun t => isPtr b (tm.getD t .top) with
      | false => rw [hall] at he; simp at he
      | true =>
        rw [hall] at he
        simp only [cond_true] at he
        split at he
        · rename_i cs hcs
          split at he
          · rename_i y s1 k1 h1
            simp only [Option.some.injEq, Prod.mk.injEq] at he
            obtain ⟨rfl, rfl, rfl⟩ := he
            have hbL : b ∉ L := ho b (by simp [objsOf])
            obtain ⟨B, T, vs, q1, q2, q3, q4, q5⟩ := s.objs b _ (by rw [lockAll_out hbL]; exact hcs)
            have hln : loc n = G.loc b := ha 0 (.obj b) rfl
            have ha2 : At G loc (n + 1) s1 := At.right (a := [.obj b]) ha
            obtain ⟨p1, p2, p3⟩ := rdCts_ok s hS h1 q4 hl (fun k hk => ho k (by simp [objsOf, hk])) ha2
            refine ⟨by simp [p1]; omega, fun t ht v hv => ?_, ⟨⟨B, T, vs, hln.trans q1, q2, p2, fun o ho' hf => ?_⟩, p3⟩⟩
            · have hp := List.all_eq_true.1 hall t ht
              have hrt := hget t v hv
              generalize tm.getD t .top = c at hp hrt
              unfold isPtr at hp
              split at hp
              · rename_i b'
                have := Nat.eq_of_beq_eq_true hp
                subst this
                cases hrt
                rename_i B' _ hl'
                rw [hln, hl']
              · simp at hp
            · have := (q5 o ho').1 hf
              simp at this
          · simp at he
        · simp at he
    · simp at he
  | false =>
    rw [hb] at he
    simp only [cond_false] at he ⊢
    split at he
    · rename_i t ht
      cases hlen : Nat.ble (t + 1) tm.length with
      | false => rw [hlen] at he; simp at he
      | true =>
        rw [hlen] at he
        simp only [cond_true] at he
        have hlt : t < tv.length := by rw [← hr.1]; exact Nat.le_of_ble_eq_true hlen
        have hv : tv[t]? = some tv[t] := List.getElem?_eq_getElem hlt
        have hrt := hget t _ hv
        rw [ht]
        cases hagg : sl.agg with
        | true =>
          rw [hagg] at he
          simp only [cond_true] at he ⊢
          split at he
          · rename_i cs hcs
            rw [hcs] at hrt
            generalize hvv : tv[t] = vv at hrt hv
            cases hrt
            rename_i vs hl' r
            have hrl : RepL G w cs vs.toList := ⟨by simpa using hl', fun i c v hc hv => r i c v hc (by simpa using hv)⟩
            obtain ⟨p1, p2, p3⟩ := rdCts_ok s hS he hrl hl ho ha
            refine ⟨by simpa using p1, fun t' ht' v hv' => ?_, p3⟩
            simp only [List.mem_singleton] at ht'
            subst ht'
            rw [hv] at hv'
            simp only [Option.some.injEq] at hv'
            subst hv'
            exact ⟨vs, rfl, p2⟩
          · simp at he
        | false =>
          rw [hagg] at he
          simp only [cond_false] at he ⊢
          obtain ⟨p1, p2, p3⟩ := rdCts_ok s hS he (RepL.cons hrt (RepL.nil G w)) hl ho ha
          refine ⟨by simpa using p1, fun t' ht' v hv' => ?_, p3⟩
          simp only [List.mem_singleton] at ht'
          subst ht'
          rw [hv] at hv'
          simp only [Option.some.injEq] at hv'
          subst hv'
          exact p2
    · simp at he

theorem rdSs_ok (s : SimH G (lockAll L h) w) (hS : ∀ k ∈ L, Sealed G w h k) {loc : Nat → Value} {tm : List AV} {tv : List Value} {bx : Nat → Option Nat} (hr : RepL G w tm tv) : ∀ {ss : List Slot} {x : Sl ss} {src : List Src} {lk : List Nat} {n : Nat},
    rdSs h tm bx ss n = some (x, src, lk) → (∀ k ∈ lk, k ∈ L) → (∀ k ∈ objsOf src, k ∉ L) → At G loc n src →
    src.length = nos ss ∧ SsV G.fr w loc tv ss x n ∧ SsOb G.fr w loc ss x n
  | [], x, src, lk, n, he, hl, ho, ha => by
    simp only [rdSs, Option.some.injEq, Prod.mk.injEq] at he
    obtain ⟨_, rfl, rfl⟩ := he
    exact ⟨rfl, trivial, trivial⟩
  | sl :: ss, x, src, lk, n, he, hl, ho, ha => by
    simp only [rdSs] at he
    split at he
    · rename_i y s1 k1 h1
      split at he
      · rename_i z s2 k2 h2
        simp only [Option.some.injEq, Prod.mk.injEq] at he
        obtain ⟨rfl, rfl, rfl⟩ := he
        rw [objs_app] at ho
        obtain ⟨q1, q2, q3⟩ := rdSl_ok s hS h1 hr (fun k hk => hl k (by simp [hk])) (fun k hk => ho k (by simp [hk])) ha.left
        have ha2 := ha.right
        rw [q1] at ha2
        obtain ⟨p1, p2, p3⟩ := rdSs_ok s hS hr h2 (fun k hk => hl k (by simp [hk])) (fun k hk => ho k (by simp [hk])) ha2
        exact ⟨by simp [q1, p1, nos], ⟨q2, p2⟩, q3, p3⟩
      · simp at he
    · simp at he

/-- Every object among the sources is alive, and its block is its own. -/
def Live (G : Gh) (src : List Src) : Prop := ∀ k ∈ objsOf src, k < G.n ∧ ∀ B, blkOf (G.loc k) = some B → G.bo B = some k

def ownObj (h : List HObj) (k : Nat) : Prop := (∃ cs, h[k]? = some (.val cs false)) ∨ ∃ e t xs, h[k]? = some (.vec e t xs false)

theorem rdCt_live : ∀ {c : Ct} {cs : List AV} {x : c.den} {r : List AV} {src : List Src} {lk : List Nat}, rdCt h c cs = some (x, r, src, lk) → ∀ k ∈ objsOf src, ownObj h k
  | .d t, cs, x, r, src, lk, he, k, hk => by
    simp only [rdCt] at he
    split at he
    · simp only [Option.some.injEq, Prod.mk.injEq] at he
      obtain ⟨_, _, rfl, _⟩ := he
      simp [objsOf] at hk
    · simp at he
  | .v e t, cs, x, r, src, lk, he, k, hk => by
    cases cs with
    | nil => simp [rdCt] at he
    | cons c cs =>
      cases c <;> simp only [rdCt] at he <;> try (exact absurd he (by simp))
      case nils =>
        cases hw : Nat.ble 1 t.width with
        | false => rw [hw] at he; simp at he
        | true =>
          rw [hw] at he
          simp only [cond_true, Option.some.injEq, Prod.mk.injEq] at he
          obtain ⟨_, _, rfl, _⟩ := he
          simp [objsOf] at hk
      case vec j =>
        split at he
        · rename_i e' t' xs hj
          split at he
          · cases hb : Nat.beq e' e with
            | false => rw [hb] at he; simp at he
            | true =>
              rw [hb] at he
              simp only [cond_true, Option.some.injEq, Prod.mk.injEq] at he
              obtain ⟨_, _, rfl, _⟩ := he
              simp only [objsOf, List.mem_singleton] at hk
              subst hk
              exact .inr ⟨_, _, _, hj⟩
          · simp at he
        · simp at he

theorem rdCts_live : ∀ {cs : List Ct} {l : List AV} {x : Cts cs} {src : List Src} {lk : List Nat}, rdCts h cs l = some (x, src, lk) → ∀ k ∈ objsOf src, ownObj h k
  | [], l, x, src, lk, he, k, hk => by
    cases l with
    | nil =>
      simp only [rdCts, Option.some.injEq, Prod.mk.injEq] at he
      obtain ⟨_, rfl, _⟩ := he
      simp [objsOf] at hk
    | cons c l => simp [rdCts] at he
  | c :: cs, l, x, src, lk, he, k, hk => by
    simp only [rdCts] at he
    split at he
    · rename_i y r s1 k1 h1
      split at he
      · rename_i z s2 k2 h2
        simp only [Option.some.injEq, Prod.mk.injEq] at he
        obtain ⟨_, rfl, _⟩ := he
        rw [objs_app, List.mem_append] at hk
        exact hk.elim (rdCt_live h1 k) (rdCts_live h2 k)
      · simp at he
    · simp at he

theorem rdSl_live {sl : Slot} {tm : List AV} {bx : Option Nat} {x : Cts sl.cts} {src : List Src} {lk : List Nat} (he : rdSl h tm bx sl = some (x, src, lk)) : ∀ k ∈ objsOf src, ownObj h k := by
  intro k hk
  unfold rdSl at he
  cases hb : sl.box with
  | true =>
    rw [hb] at he
    simp only [cond_true] at he
    split at he
    · rename_i b hb1
      cases hall : sl.tmps.all fun t => isPtr b (tm.getD t .top) with
      | false => rw [hall] at he; simp at he
      | true =>
        rw [hall] at he
        simp only [cond_true] at he
        split at he
        · rename_i cs hcs
          split at he
          · rename_i y s1 k1 h1
            simp only [Option.some.injEq, Prod.mk.injEq] at he
            obtain ⟨_, rfl, _⟩ := he
            rcases List.mem_cons.1 hk with rfl | hk
            · exact .inl ⟨_, hcs⟩
            · exact rdCts_live h1 k hk
          · simp at he
        · simp at he
    · simp at he
  | false =>
    rw [hb] at he
    simp only [cond_false] at he
    split at he
    · rename_i t ht
      cases hlen : Nat.ble (t + 1) tm.length with
      | false => rw [hlen] at he; simp at he
      | true =>
        rw [hlen] at he
        simp only [cond_true] at he
        cases hagg : sl.agg with
        | true =>
          rw [hagg] at he
          simp only [cond_true] at he
          split at he
          · exact rdCts_live he k hk
          · simp at he
        | false => rw [hagg] at he; exact rdCts_live he k hk
    · simp at he

theorem rdSs_live {tm : List AV} {bx : Nat → Option Nat} : ∀ {ss : List Slot} {x : Sl ss} {src : List Src} {lk : List Nat} {n : Nat}, rdSs h tm bx ss n = some (x, src, lk) → ∀ k ∈ objsOf src, ownObj h k
  | [], x, src, lk, n, he, k, hk => by
    simp only [rdSs, Option.some.injEq, Prod.mk.injEq] at he
    obtain ⟨_, rfl, _⟩ := he
    simp [objsOf] at hk
  | sl :: ss, x, src, lk, n, he, k, hk => by
    simp only [rdSs] at he
    split at he
    · rename_i y s1 k1 h1
      split at he
      · rename_i z s2 k2 h2
        simp only [Option.some.injEq, Prod.mk.injEq] at he
        obtain ⟨_, rfl, _⟩ := he
        rw [objs_app, List.mem_append] at hk
        exact hk.elim (rdSl_live h1 k) (rdSs_live h2 k)
      · simp at he
    · simp at he

theorem own_blk {v : Value} {B : Nat} (h1 : v.oneCell' = true ∨ True) (h : v.ownBlock = some B) : blkOf v = some B := by
  cases v with
  | slice a l c =>
    cases a with
    | none => simp [Value.ownBlock] at h
    | some a => exact h
  | _ => simp [Value.ownBlock] at h

theorem live_of (s : SimH G (lockAll L h) w) {src : List Src} (ho : ∀ k ∈ objsOf src, ownObj h k) (hL : ∀ k ∈ objsOf src, k ∉ L) : Live G src := by
  intro k hk
  have hg := lockAll_out (h := h) (hL k hk)
  rcases ho k hk with ⟨cs, hh⟩ | ⟨e, t, xs, hh⟩
  · rw [hh] at hg
    obtain ⟨B, T, vs, q1, q2, q3, _⟩ := s.objs k _ hg
    refine ⟨by rw [s.n]; exact (List.getElem?_eq_some_iff.1 hg).1, fun B' hB' => ?_⟩
    rw [q1] at hB'
    simp only [blkOf, Option.some.injEq] at hB'
    rw [← hB']; exact q3
  · rw [hh] at hg
    obtain ⟨q0, q1, us, q2, q3, q4⟩ := s.objs k _ hg
    refine ⟨by rw [s.n]; exact (List.getElem?_eq_some_iff.1 hg).1, fun B' hB' => ?_⟩
    rcases q2.2 with ⟨r1, _⟩ | ⟨g, cap, cur, r1, _⟩
    · rw [r1] at hB'; simp [blkOf] at hB'
    · rw [r1] at hB'
      simp only [blkOf, Option.some.injEq] at hB'
      exact (q4 B' (by rw [r1, ← hB']; rfl)).1

theorem at_loc {src : List Src} : At G (locOf G src) 0 src := by
  intro i s hs
  rw [Nat.zero_add]
  unfold locOf
  rw [hs]
  cases s <;> rfl

/-- A state, read as slots: the objects that are locked are given. -/
theorem rd_ownL (s1 : SimH G (lockAll L h) w) (d1 : ∀ k ∈ L, Sealed G w h k) {tm : List AV} {tv : List Value} (hr : RepL G w tm tv) {bx : Nat → Option Nat} {ss : List Slot} {x : Sl ss} {src : List Src} {lk : List Nat}
    (he : rdSs h tm bx ss 0 = some (x, src, lk)) (hlk : ∀ k ∈ lk, k ∈ L) (hk : okSrc src L = true) : Live G src ∧ src.length = nos ss ∧ Own G.fr w (locOf G src) ss x tv := by
  simp only [okSrc, Bool.and_eq_true, List.all_eq_true, Bool.not_eq_true', List.any_eq_false, Nat.beq_eq] at hk
  obtain ⟨hnd, hdis⟩ := hk
  have hL : ∀ k ∈ objsOf src, k ∉ L := fun k h1 h2 => hdis k h1 k h2 rfl
  obtain ⟨p1, p2, p3⟩ := rdSs_ok s1 d1 hr he hlk hL at_loc
  have hlive := live_of s1 (rdSs_live he) hL
  refine ⟨hlive, p1, p2, p3, fun i j B hi hj hBi hBj => ?_, fun i B hi hB => ?_⟩
  · have nd := nodupB_ok hnd
    have key : ∀ i, i < nos ss → blkOf (locOf G src i) = some B → ∃ k, src[i]? = some (.obj k) ∧ G.bo B = some k := by
      intro i hi hB
      unfold locOf at hB
      split at hB
      · rename_i k hk
        exact ⟨k, hk, (hlive k (mem_objs.1 (List.mem_of_getElem? hk))).2 B hB⟩
      · simp [blkOf] at hB
    obtain ⟨k, hk1, hk2⟩ := key i hi hBi
    obtain ⟨k', hk1', hk2'⟩ := key j hj hBj
    rw [hk2] at hk2'
    simp only [Option.some.injEq] at hk2'
    subst hk2'
    -- the same object twice among the sources
    have inj : ∀ {l : List Src} {i j : Nat}, (objsOf l).Nodup → l[i]? = some (.obj k) → l[j]? = some (.obj k) → i = j := by
      intro l
      induction l with
      | nil => intro i j _ h; simp at h
      | cons s l ih =>
        intro i j hn h1 h2
        cases s with
        | nil =>
          cases i with
          | zero => simp at h1
          | succ i => cases j with
            | zero => simp at h2
            | succ j => exact congrArg Nat.succ (ih hn (by simpa using h1) (by simpa using h2))
        | obj m =>
          simp only [objsOf, List.nodup_cons] at hn
          cases i with
          | zero =>
            simp only [List.getElem?_cons_zero, Option.some.injEq, Src.obj.injEq] at h1
            subst h1
            cases j with
            | zero => rfl
            | succ j => exact absurd (mem_objs.1 (List.mem_of_getElem? (by simpa using h2))) hn.1
          | succ i => cases j with
            | zero =>
              simp only [List.getElem?_cons_zero, Option.some.injEq, Src.obj.injEq] at h2
              subst h2
              exact absurd (mem_objs.1 (List.mem_of_getElem? (by simpa using h1))) hn.1
            | succ j => exact congrArg Nat.succ (ih hn.2 (by simpa using h1) (by simpa using h2))
    exact inj nd hk1 hk1'
  · unfold locOf at hB
    split at hB
    · rename_i k hk
      exact (s1.own B k ((hlive k (mem_objs.1 (List.mem_of_getElem? hk))).2 B hB)).2
    · simp [blkOf] at hB

/-- A state, read as slots. -/
theorem rd_own {s : St} {a : Act} (hs : Sim G s a w) {bx : Nat → Option Nat} {ss : List Slot} {x : Sl ss} {src : List Src} {lk : List Nat} (he : rdSs s.heap s.tmps bx ss 0 = some (x, src, lk)) (hk : okSrc src lk = true) :
    ∃ G', SimH G' (lockAll lk s.heap) w ∧ Ext G w G' w ∧ G'.n = G.n ∧ RepL G' w s.tmps a.tmps.toList ∧ Live G' src ∧ src.length = nos ss ∧ Own G'.fr w (locOf G' src) ss x a.tmps.toList := by
  obtain ⟨G', s1, e1, n1, d1⟩ := lockS lk hs.h
  have hr := hs.tmps.mono e1
  exact ⟨G', s1, e1, n1, hr, rd_ownL s1 d1 hr he (fun k h => h) hk⟩

end

/- FRAMES -/

/-- What a piece does to the world, seen from outside: nothing but to blocks of its own. -/
structure Fr (bs : Nat → Prop) (fr : Nat → Nat → Prop) (w : World) (fr' : Nat → Nat → Prop) (w' : World) : Prop where
  os : w'.os = w.os
  tape : w'.tape = w.tape
  output : w'.output = w.output
  size : w.heap.size ≤ w'.heap.size
  blocks : ∀ B, B < w.heap.size → ¬ bs B → w'.heap[B]? = w.heap[B]? ∧ ∀ o, fr' B o ↔ fr B o
  keeps : Keeps fr w fr' w'
  fz : ∀ a : Addr, w'.frozen? a = w.frozen? a

theorem Fr.refl (bs : Nat → Prop) (fr : Nat → Nat → Prop) (w : World) : Fr bs fr w fr w :=
  ⟨rfl, rfl, rfl, Nat.le_refl _, fun _ _ _ => ⟨rfl, fun _ => Iff.rfl⟩, Keeps.refl _ _, fun _ => rfl⟩

theorem Fr.trans {bs bs1 : Nat → Prop} {f0 f1 f2 : Nat → Nat → Prop} {w0 w1 w2 : World} (h : Fr bs f0 w0 f1 w1) (k : Fr bs1 f1 w1 f2 w2) (hb : ∀ B, bs1 B → bs B ∨ w0.heap.size ≤ B) : Fr bs f0 w0 f2 w2 where
  os := k.os.trans h.os
  tape := k.tape.trans h.tape
  output := k.output.trans h.output
  size := Nat.le_trans h.size k.size
  blocks B hB hn := by
    obtain ⟨a1, a2⟩ := h.blocks B hB hn
    obtain ⟨b1, b2⟩ := k.blocks B (Nat.lt_of_lt_of_le hB h.size) fun hc => (hb B hc).elim hn (fun hge => by omega)
    exact ⟨b1.trans a1, fun o => (b2 o).trans (a2 o)⟩
  keeps := h.keeps.trans k.keeps
  fz a := (k.fz a).trans (h.fz a)

/-- The blocks of n places. -/
def blks (loc : Nat → Value) (n : Nat) : Nat → Prop := fun B => ∃ i, i < n ∧ blkOf (loc i) = some B

/-- Which of the objects are behind pointers. -/
def slB (s : Slot) : List Bool := bif s.box then true :: (ctsW s.cts).map (fun _ => false) else (ctsW s.cts).map fun _ => false
def ssB : List Slot → List Bool
  | [] => []
  | s :: ss => slB s ++ ssB ss
theorem slB_len (s : Slot) : (slB s).length = s.no := by
  unfold slB Slot.no
  cases s.box <;> simp [ctsW_len]; omega
theorem ssB_len : ∀ ss : List Slot, (ssB ss).length = nos ss
  | [] => rfl
  | s :: ss => by simp [ssB, nos, slB_len, ssB_len ss]

/-- The objects behind pointers are where they were. -/
def stay (bs : List Bool) (src : List Src) : Bool :=
  (List.range bs.length).all fun i => match bs[i]? with
    | some true => match src[i]? with
      | some (.obj k) => Nat.beq k i
      | _ => false
    | _ => true

theorem stay_at {bs : List Bool} {src : List Src} (h : stay bs src = true) {i : Nat} (hi : bs[i]? = some true) : src[i]? = some (.obj i) := by
  unfold stay at h
  have := List.all_eq_true.1 h i (by simpa using (List.getElem?_eq_some_iff.1 hi).1)
  rw [hi] at this
  dsimp only at this
  split at this
  · rename_i k hk
    rw [hk, Nat.eq_of_beq_eq_true this]
  · simp at this

/-- A step of a state of slots: what it comes to, and what it has done. -/
structure Goes (fr : Nat → Nat → Prop) (w : World) (loc : Nat → Value) (ss : List Slot) (fr' : Nat → Nat → Prop) (w' : World) (loc' : Nat → Value) (ss' : List Slot) : Prop where
  fr : Fr (blks loc (nos ss)) fr w fr' w'
  new : ∀ B, blks loc' (nos ss') B → blks loc (nos ss) B ∨ w.heap.size ≤ B
  box : ∀ i : Nat, (ssB ss')[i]? = some true → i < nos ss ∧ loc' i = loc i

theorem Goes.trans {f0 f1 f2 : Nat → Nat → Prop} {w0 w1 w2 : World} {l0 l1 l2 : Nat → Value} {s0 s1 s2 : List Slot} (h : Goes f0 w0 l0 s0 f1 w1 l1 s1) (k : Goes f1 w1 l1 s1 f2 w2 l2 s2)
    (hb : ∀ i : Nat, (ssB s2)[i]? = some true → (ssB s1)[i]? = some true) : Goes f0 w0 l0 s0 f2 w2 l2 s2 where
  fr := h.fr.trans k.fr h.new
  new B hB := (k.new B hB).elim (h.new B) fun hge => .inr (Nat.le_trans h.fr.size hge)
  box i hi := by
    obtain ⟨a1, a2⟩ := k.box i hi
    obtain ⟨b1, b2⟩ := h.box i (hb i hi)
    exact ⟨b1, a2.trans b2⟩

/-- A run of a state of slots, seen from outside. -/
theorem goes_core {fr : Nat → Nat → Prop} {w w1 : World} {loc : Nat → Value} {ss ss' : List Slot} {x : Sl ss} {tv : List Value} (ho : Own fr w loc ss x tv) {G' : Gh} (e : Ext (ghOf fr loc ss) w G' w1)
    {src : List Src} (live : Live G' src) (hst : stay (ssB ss') src = true) (hbs : ∀ i : Nat, (ssB ss')[i]? = some true → (ssB ss)[i]? = some true) : Goes fr w loc ss G'.fr w1 (locOf G' src) ss' := by
  refine ⟨⟨e.os, e.tape, e.output, e.size, fun B hB hn => ?_, e.keeps, e.fz⟩, fun B hB => ?_, fun i hi => ?_⟩
  · have hbo : (ghOf fr loc ss).bo B = none := by
      cases hf : (ghOf fr loc ss).bo B with
      | none => rfl
      | some j => exact absurd ⟨j, ghOf_bo hf⟩ hn
    obtain ⟨a1, a2, a3⟩ := e.blocks B hB hbo
    exact ⟨a1, a3⟩
  · obtain ⟨i, hi, hb⟩ := hB
    rcases Nat.lt_or_ge B w.heap.size with hlt | hge
    · refine .inl ?_
      unfold locOf at hb
      split at hb
      · rename_i k hk
        have hbk := (live k (mem_objs.1 (List.mem_of_getElem? hk))).2 B hb
        cases hf : (ghOf fr loc ss).bo B with
        | some j => exact ⟨j, ghOf_bo hf⟩
        | none =>
          obtain ⟨_, a2, _⟩ := e.blocks B hlt hf
          rw [a2] at hbk; simp at hbk
      · simp [blkOf] at hb
    · exact .inr hge
  · have h1 := stay_at hst hi
    have hi2 : i < nos ss := by rw [← ssB_len]; exact (List.getElem?_eq_some_iff.1 (hbs i hi)).1
    refine ⟨hi2, ?_⟩
    unfold locOf
    rw [h1]
    have hne : (ghOf fr loc ss).loc i ≠ undef := by
      -- an object behind a pointer
      have : ∀ {ss : List Slot} {x : Sl ss} {n j : Nat}, SsOb fr w loc ss x n → (ssB ss)[j]? = some true → ∃ B, loc (n + j) = .pointer (some ⟨B, 0, none⟩) := by
        intro ss
        induction ss with
        | nil => intro x n j _ h; simp [ssB] at h
        | cons s ss ih =>
          intro x n j hob h
          by_cases hj : j < s.no
          · rw [ssB, List.getElem?_append_left (by rw [slB_len]; exact hj)] at h
            unfold slB at h
            have ho1 := hob.1
            unfold SlOb at ho1
            cases hb : s.box with
            | true =>
              rw [hb] at h ho1
              simp only [cond_true] at h ho1
              cases j with
              | zero => obtain ⟨⟨B, T, vs, q, _⟩, _⟩ := ho1; exact ⟨B, q⟩
              | succ j => simp [List.getElem?_map] at h
            | false => rw [hb] at h; simp [List.getElem?_map] at h
          · rw [ssB, List.getElem?_append_right (by rw [slB_len]; omega), slB_len] at h
            obtain ⟨B, q⟩ := ih (n := n + s.no) (j := j - s.no) hob.2 h
            exact ⟨B, by rw [← q]; congr 1; omega⟩
      obtain ⟨B, q⟩ := this ho.ob (hbs i hi)
      rw [Nat.zero_add] at q
      show loc i ≠ undef
      rw [q]; exact one_ne rfl
    exact (e.loc i (by simpa [ghOf] using hi2) hne).1

/-- A run of a state of slots, read as slots again. -/
theorem goes_of {fr : Nat → Nat → Prop} {w w1 : World} {loc : Nat → Value} {ss ss' : List Slot} {x : Sl ss} {tv : List Value} (ho : Own fr w loc ss x tv) {G1 : Gh} {s1 : St} {a1 : Act} (hs : Sim G1 s1 a1 w1) (he : Ext (ghOf fr loc ss) w G1 w1)
    {y : Sl ss'} {src : List Src} {lk : List Nat} (hr : rdSs s1.heap s1.tmps some ss' 0 = some (y, src, lk)) (hk : okSrc src lk = true) (hst : stay (ssB ss') src = true) (hbs : ∀ i : Nat, (ssB ss')[i]? = some true → (ssB ss)[i]? = some true) :
    ∃ fr' loc', Own fr' w1 loc' ss' y a1.tmps.toList ∧ Goes fr w loc ss fr' w1 loc' ss' := by
  obtain ⟨G', s', e', n', r', live, len, own⟩ := rd_own hs hr hk
  exact ⟨G'.fr, locOf G' src, own, goes_core ho (he.trans e') live hst hbs⟩

/- PUTTING SLOTS BACK -/

/-- Where object n of the slots is put: behind a pointer: where it was; a vector: behind the others. -/
def nuOf (off : Nat) (src : List Src) (bs : List Bool) (n : Nat) : Nat :=
  match bs[n]?, src[n]? with
  | some true, some (.obj k) => k
  | _, _ => off + n

def kill : List Nat → List HObj → List HObj
  | [], h => h
  | k :: ks, h => kill ks (h.set k .dead)

def isVal : HObj → Bool
  | .val _ _ => true
  | _ => false

/-- The objects behind pointers, each at its place. -/
def putV (ν : Nat → Nat) : List HObj → Nat → List HObj → List HObj
  | [], _, h => h
  | o :: os, n, h => putV ν os (n + 1) (bif isVal o then h.set (ν n) o else h)
/-- The vectors; nothing where an object has its place. -/
def putO : List HObj → List HObj
  | [] => []
  | o :: os => (bif isVal o then .dead else o) :: putO os

def wbH (h : List HObj) (src : List Src) (ss : List Slot) (y : Sl ss) : List HObj :=
  let os := mkH (nuOf h.length src (ssB ss)) ss y 0
  putV (nuOf h.length src (ssB ss)) os 0 (kill (objsOf src) h) ++ putO os

theorem kill_len : ∀ (ks : List Nat) (h : List HObj), (kill ks h).length = h.length
  | [], _ => rfl
  | k :: ks, h => by simp [kill, kill_len ks]
theorem putV_len (ν : Nat → Nat) : ∀ (os : List HObj) (n : Nat) (h : List HObj), (putV ν os n h).length = h.length
  | [], _, _ => rfl
  | o :: os, n, h => by
    rw [putV, putV_len ν os]
    cases isVal o <;> simp
theorem putO_len : ∀ os : List HObj, (putO os).length = os.length
  | [] => rfl
  | o :: os => by simp [putO, putO_len os]
theorem putO_get : ∀ {os : List HObj} {n : Nat} {o : HObj}, (putO os)[n]? = some o → o = .dead ∨ (os[n]? = some o ∧ isVal o = false)
  | [], n, o, h => by simp [putO] at h
  | p :: os, 0, o, h => by
    simp only [putO, List.getElem?_cons_zero, Option.some.injEq] at h
    cases hp : isVal p with
    | true => rw [hp] at h; exact .inl h.symm
    | false =>
      rw [hp] at h
      have h' : p = o := h
      exact .inr ⟨by rw [List.getElem?_cons_zero, h'], by rw [← h']; exact hp⟩
  | p :: os, n + 1, o, h => by
    simp only [putO, List.getElem?_cons_succ] at h ⊢
    exact putO_get h

theorem kill_get : ∀ {ks : List Nat} {h : List HObj} {b : Nat} {o : HObj}, (kill ks h)[b]? = some o → o = .dead ∨ (h[b]? = some o ∧ b ∉ ks)
  | [], h, b, o, hb => .inr ⟨hb, by simp⟩
  | k :: ks, h, b, o, hb => by
    rcases kill_get (ks := ks) hb with hd | ⟨hs, hn⟩
    · exact .inl hd
    · rw [List.getElem?_set] at hs
      split at hs
      · split at hs
        · simp only [Option.some.injEq] at hs; exact .inl hs.symm
        · simp at hs
      · rename_i hne
        exact .inr ⟨hs, by simp only [List.mem_cons, not_or]; exact ⟨fun e => hne e.symm, hn⟩⟩

theorem putV_get {ν : Nat → Nat} : ∀ {os : List HObj} {n : Nat} {h : List HObj} {b : Nat} {o : HObj}, (putV ν os n h)[b]? = some o →
    (∃ i, os[i]? = some o ∧ isVal o = true ∧ ν (n + i) = b) ∨ h[b]? = some o
  | [], n, h, b, o, hb => .inr hb
  | p :: os, n, h, b, o, hb => by
    rcases putV_get (os := os) (n := n + 1) hb with ⟨i, h1, h2, h3⟩ | h1
    · exact .inl ⟨i + 1, by simpa using h1, h2, by rw [← h3]; congr 1; omega⟩
    · cases hp : isVal p with
      | false => rw [hp] at h1; exact .inr h1
      | true =>
        rw [hp] at h1
        simp only [cond_true] at h1
        rw [List.getElem?_set] at h1
        split at h1
        · rename_i e
          split at h1
          · simp only [Option.some.injEq] at h1
            subst h1
            exact .inl ⟨0, by simp, hp, e⟩
          · simp at h1
        · exact .inr h1

/-- An object of slots stands behind a pointer, or is a vector. -/
theorem isVal_mkH {ν : Nat → Nat} : ∀ {ss : List Slot} {x : Sl ss} {n i : Nat} {o : HObj}, (mkH ν ss x n)[i]? = some o → (ssB ss)[i]? = some (isVal o)
  | [], _, _, _, _, h => by simp [mkH] at h
  | s :: ss, x, n, i, o, h => by
    have ctsv : ∀ {cs : List Ct} {x : Cts cs} {i : Nat} {o : HObj}, (ctsO cs x)[i]? = some o → isVal o = false := by
      intro cs
      induction cs with
      | nil => intro x i o h; simp [ctsO] at h
      | cons c cs ih =>
        intro x i o h
        cases c with
        | d t => exact ih (by simpa [ctsO, ctO] using h)
        | v e t =>
          cases i with
          | zero =>
            simp only [ctsO, ctO, List.singleton_append, List.getElem?_cons_zero, Option.some.injEq] at h
            subst h; rfl
          | succ i => exact ih (by simpa [ctsO, ctO] using h)
    by_cases hi : i < s.no
    · rw [mkH, List.getElem?_append_left (by rw [slO_len]; exact hi)] at h
      rw [ssB, List.getElem?_append_left (by rw [slB_len]; exact hi)]
      unfold slO at h
      unfold slB
      unfold Slot.no at hi
      cases hb : s.box with
      | true =>
        rw [hb] at h hi
        simp only [cond_true] at h hi ⊢
        cases i with
        | zero =>
          simp only [List.getElem?_cons_zero, Option.some.injEq] at h
          subst h; rfl
        | succ i =>
          rw [List.getElem?_cons_succ] at h ⊢
          rw [List.getElem?_map, List.getElem?_eq_getElem (by rw [ctsW_len]; omega), ctsv h]; rfl
      | false =>
        rw [hb] at h hi
        simp only [cond_false] at h hi ⊢
        rw [List.getElem?_map, List.getElem?_eq_getElem (by rw [ctsW_len]; omega), ctsv h]; rfl
    · rw [mkH, List.getElem?_append_right (by rw [slO_len]; omega), slO_len] at h
      rw [ssB, List.getElem?_append_right (by rw [slB_len]; omega), slB_len]
      exact isVal_mkH h

section
variable {G : Gh} {w w1 : World} {h : List HObj} {src : List Src} {ss ss' : List Slot} {y : Sl ss'} {fr1 : Nat → Nat → Prop} {loc1 : Nat → Value} {tv : List Value}

theorem ssW_box : ∀ {ss : List Slot} {i : Nat}, (ssB ss)[i]? = some true → (ssW ss)[i]? = some 0
  | [], i, h => by simp [ssB] at h
  | s :: ss, i, h => by
    by_cases hi : i < s.no
    · rw [ssB, List.getElem?_append_left (by rw [slB_len]; exact hi)] at h
      rw [ssW, List.getElem?_append_left (by rw [slW_len]; exact hi)]
      unfold slB at h
      unfold slW
      cases hb : s.box with
      | true =>
        rw [hb] at h
        simp only [cond_true] at h ⊢
        cases i with
        | zero => rfl
        | succ i => simp [List.getElem?_map] at h
      | false => rw [hb] at h; simp [List.getElem?_map] at h
    · rw [ssB, List.getElem?_append_right (by rw [slB_len]; omega), slB_len] at h
      rw [ssW, List.getElem?_append_right (by rw [slW_len]; omega), slW_len]
      exact ssW_box h

theorem nuOf_box {off : Nat} {bs : List Bool} {n k : Nat} (h1 : bs[n]? = some true) (h2 : src[n]? = some (.obj k)) : nuOf off src bs n = k := by unfold nuOf; rw [h1, h2]
theorem nuOf_vec {off : Nat} {bs : List Bool} {n : Nat} (h1 : bs[n]? ≠ some true) : nuOf off src bs n = off + n := by
  unfold nuOf
  split
  · rename_i h2 _; exact absurd h2 h1
  · rfl

/-- The ghost behind a piece. -/
def Gh.back (G : Gh) (off : Nat) (src : List Src) (ss' : List Slot) (fr1 : Nat → Nat → Prop) (loc1 : Nat → Value) : Gh where
  n := off + nos ss'
  loc b := if b < off then G.loc b else loc1 (b - off)
  wd b := if b < off then G.wd b else (ssW ss').getD (b - off) 0
  bo B := match (List.range (nos ss')).find? fun i => decide (blkOf (loc1 i) = some B) with
    | some i => some (nuOf off src (ssB ss') i)
    | none => match G.bo B with
      | some k => if k ∈ objsOf src then none else some k
      | none => none
  fr := fr1

theorem find_some {n i B : Nat} (h : ((List.range n).find? fun i => decide (blkOf (loc1 i) = some B)) = some i) : i < n ∧ blkOf (loc1 i) = some B := by
  have h1 := List.find?_some h
  have h2 := List.mem_of_find?_eq_some h
  simp only [decide_eq_true_eq] at h1
  exact ⟨by simpa using h2, h1⟩
theorem find_none {n B : Nat} (h : ∀ i, i < n → blkOf (loc1 i) ≠ some B) : ((List.range n).find? fun i => decide (blkOf (loc1 i) = some B)) = none := by
  rw [List.find?_eq_none]
  intro i hi
  simpa using h i (by simpa using hi)

/-- A piece that has gone from slots to slots, seen from the whole state. -/
theorem put_back (s : SimH G h w) (live : Live G src) (hbs : ∀ i : Nat, (ssB ss')[i]? = some true → ∃ k, src[i]? = some (Src.obj k))
    (go : Goes G.fr w (locOf G src) ss fr1 w1 loc1 ss') (own : Own fr1 w1 loc1 ss' y tv) :
    ∃ G2, SimH G2 (wbH h src ss' y) w1 ∧ Ext G w G2 w1 ∧ G2.fr = fr1 ∧ Num G2 loc1 (nuOf h.length src (ssB ss')) 0 (nos ss') := by
  let G2 := G.back h.length src ss' fr1 loc1
  have hN : Num G2 loc1 (nuOf h.length src (ssB ss')) 0 (nos ss') := by
    intro i _ hi
    have hi : i < nos ss' := by omega
    have hbo : ∀ B, blkOf (loc1 i) = some B → G2.bo B = some (nuOf h.length src (ssB ss') i) := by
      intro B hB
      show (match (List.range (nos ss')).find? fun i => decide (blkOf (loc1 i) = some B) with
        | some i => some (nuOf h.length src (ssB ss') i)
        | none => _) = _
      cases hf : (List.range (nos ss')).find? fun i => decide (blkOf (loc1 i) = some B) with
      | none =>
        have := List.find?_eq_none.1 hf i (by simpa using hi)
        simp [hB] at this
      | some j =>
        obtain ⟨h1, h2⟩ := find_some hf
        rw [own.inj i j B hi h1 hB h2]
    by_cases hb : (ssB ss')[i]? = some true
    · obtain ⟨k, hk⟩ := hbs i hb
      have hkn := (live k (mem_objs.1 (List.mem_of_getElem? hk))).1
      rw [s.n] at hkn
      have hν := nuOf_box (off := h.length) hb hk
      refine ⟨?_, ?_, hbo⟩
      · rw [hν]; exact Nat.lt_of_lt_of_le hkn (Nat.le_add_right _ _)
      · rw [hν, (go.box i hb).2]
        show (if k < h.length then G.loc k else _) = _
        rw [if_pos hkn]
        unfold locOf
        rw [hk]
    · have hν := nuOf_vec (off := h.length) (src := src) hb
      refine ⟨?_, ?_, hbo⟩
      · rw [hν]; show _ < h.length + nos ss'; omega
      · rw [hν]
        show (if h.length + i < h.length then _ else loc1 (h.length + i - h.length)) = _
        rw [if_neg (by omega), Nat.add_sub_cancel_left]
  have hW : Wid G2 (nuOf h.length src (ssB ss')) 0 (ssW ss') := by
    intro i k hk
    rw [Nat.zero_add]
    by_cases hb : (ssB ss')[i]? = some true
    · rw [ssW_box hb] at hk
      simp only [Option.some.injEq] at hk
      exact .inl hk.symm
    · refine .inr ?_
      rw [nuOf_vec hb]
      show (if h.length + i < h.length then _ else (ssW ss').getD (h.length + i - h.length) 0) = _
      rw [if_neg (by omega), Nat.add_sub_cancel_left, List.getD_eq_getElem?_getD, hk]; rfl
  have hob : ∀ i o, (mkH (nuOf h.length src (ssB ss')) ss' y 0)[i]? = some o → OkO G2 w1 (nuOf h.length src (ssB ss') i) o := by
    intro i o hi
    have := ss_obj (G := G2) hN own.ob hW i o hi
    simpa using this
  -- blocks that are none of the piece's
  have hout : ∀ B, B < w.heap.size → (∀ k, G.bo B = some k → k ∉ objsOf src) → ¬ blks (locOf G src) (nos ss) B ∧ ((List.range (nos ss')).find? fun i => decide (blkOf (loc1 i) = some B)) = none := by
    intro B hB hk
    have hnb : ¬ blks (locOf G src) (nos ss) B := by
      rintro ⟨i, hi, hb⟩
      unfold locOf at hb
      split at hb
      · rename_i k hsk
        have hm := mem_objs.1 (List.mem_of_getElem? hsk)
        exact hk k ((live k hm).2 B hb) hm
      · simp [blkOf] at hb
    refine ⟨hnb, find_none fun i hi hb => ?_⟩
    rcases go.new B ⟨i, hi, hb⟩ with h1 | h1
    · exact hnb h1
    · omega
  have e : Ext G w G2 w1 := by
    refine ⟨?_, fun b hb _ => ?_, go.fr.os, go.fr.tape, go.fr.output, go.fr.size, fun B hB hbo => ?_, go.fr.keeps, go.fr.fz⟩
    · show G.n ≤ h.length + nos ss'
      rw [s.n]; omega
    · rw [s.n] at hb
      exact ⟨if_pos hb, if_pos hb⟩
    · obtain ⟨h1, h2⟩ := hout B hB (fun k hk => by rw [hbo] at hk; simp at hk)
      obtain ⟨a1, a2⟩ := go.fr.blocks B hB h1
      refine ⟨a1, ?_, a2⟩
      show (match (List.range (nos ss')).find? fun i => decide (blkOf (loc1 i) = some B) with
        | some i => some (nuOf h.length src (ssB ss') i)
        | none => match G.bo B with
          | some k => if k ∈ objsOf src then none else some k
          | none => none) = none
      rw [h2, hbo]
  refine ⟨G2, ⟨?_, fun b o hb => ?_, fun B b hb => ?_⟩, e, rfl, hN⟩
  · show h.length + nos ss' = _
    unfold wbH
    simp only [List.length_append, putV_len, kill_len, putO_len, mkH_len]
  · unfold wbH at hb
    by_cases hlt : b < h.length
    · rw [List.getElem?_append_left (by rw [putV_len, kill_len]; exact hlt)] at hb
      rcases putV_get hb with ⟨i, h1, h2, h3⟩ | h1
      · rw [Nat.zero_add] at h3
        rw [← h3]; exact hob i o h1
      · rcases kill_get h1 with rfl | ⟨h2, h3⟩
        · trivial
        · refine (s.objs b o h2).mono e ⟨if_pos hlt, if_pos hlt⟩ fun B hB => ?_
          have hBs := (s.own B b hB).2
          obtain ⟨g1, g2⟩ := hout B hBs (fun k hk => by rw [hB] at hk; simp only [Option.some.injEq] at hk; rw [← hk]; exact h3)
          obtain ⟨a1, a2⟩ := go.fr.blocks B hBs g1
          refine ⟨a1, ?_, a2⟩
          show (match (List.range (nos ss')).find? fun i => decide (blkOf (loc1 i) = some B) with
            | some i => some (nuOf h.length src (ssB ss') i)
            | none => match G.bo B with
              | some k => if k ∈ objsOf src then none else some k
              | none => none) = some b
          rw [g2, hB]
          dsimp only
          rw [if_neg h3]
    · rw [List.getElem?_append_right (by rw [putV_len, kill_len]; omega), putV_len, kill_len] at hb
      rcases putO_get hb with rfl | ⟨h1, h2⟩
      · trivial
      · have hv := isVal_mkH h1
        rw [h2] at hv
        have := hob _ o h1
        rw [nuOf_vec (by rw [hv]; simp)] at this
        rw [show b = h.length + (b - h.length) by omega]
        exact this
  · have hb' : (match (List.range (nos ss')).find? fun i => decide (blkOf (loc1 i) = some B) with
      | some i => some (nuOf h.length src (ssB ss') i)
      | none => match G.bo B with
        | some k => if k ∈ objsOf src then none else some k
        | none => none) = some b := hb
    cases hf : (List.range (nos ss')).find? fun i => decide (blkOf (loc1 i) = some B) with
    | some i =>
      rw [hf] at hb'
      simp only [Option.some.injEq] at hb'
      obtain ⟨h1, h2⟩ := find_some hf
      rw [← hb']
      exact ⟨(hN i (Nat.zero_le _) (by omega)).1, own.lt i B h1 h2⟩
    | none =>
      rw [hf] at hb'
      cases hg : G.bo B with
      | none => rw [hg] at hb'; simp at hb'
      | some k =>
        rw [hg] at hb'
        dsimp only at hb'
        split at hb'
        · simp at hb'
        · simp only [Option.some.injEq] at hb'
          subst hb'
          obtain ⟨h1, h2⟩ := s.own B k hg
          rw [s.n] at h1
          exact ⟨Nat.lt_of_lt_of_le h1 (Nat.le_add_right _ _), Nat.lt_of_lt_of_le h2 go.fr.size⟩

end
end Go.RX

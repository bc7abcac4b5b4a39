/-
  Contracts of functions over data.
-/
import Derived.Test.YtleejiihlldflaaGreatRs
import Derived.Below
namespace Go.RX
open Go.RowKit

@[reducible] def Ar : List Ty → Type
  | [] => Unit
  | t :: ts => t.den × Ar ts

def argsA : (ts : List Ty) → Ar ts → List AV
  | [], _ => []
  | t :: ts, x => ofD t x.1 :: argsA ts x.2

def toArgs (h : List HObj) : (ts : List Ty) → List AV → Option (Ar ts)
  | [], [] => some ()
  | t :: ts, v :: vs => match toD h t v with
    | some x => match toArgs h ts vs with
      | some r => some (x, r)
      | none => none
    | none => none
  | _, _ => none

def tupA (h : List HObj) (ts : List Ty) (v : AV) : Option (Ar ts) :=
  match v with
  | .tup vs => toArgs h ts vs
  | _ => none

def toRes (h : List HObj) (ts : List Ty) (v : AV) : Option (Ar ts) :=
  match ts with
  | [t] => match toD h t v with
    | some x => some (x, ())
    | none => none
  | ts => tupA h ts v

def idsOf (vs : List AV) : List Nat := vs.flatMap fun v => vecIds (cellsOf v)

def idsRes (v : AV) : List Nat :=
  match v with
  | .tup vs => idsOf vs
  | v => vecIds (cellsOf v)

def ArgsDV (fr : Nat → Nat → Prop) (w : World) : (ts : List Ty) → Ar ts → List Value → Prop
  | [], _, vs => vs = []
  | t :: ts, x, vs => ∃ v us, vs = v :: us ∧ DVal fr w t x.1 v ∧ ArgsDV fr w ts x.2 us

def oneOr (vs : List Value) : Value :=
  match vs with
  | [u] => u
  | vs => .tuple vs.toArray

def ResDV (fr : Nat → Nat → Prop) (w : World) (ts : List Ty) (x : Ar ts) (v : Value) : Prop :=
  ∃ vs, ArgsDV fr w ts x vs ∧ v = oneOr vs

theorem ArgsDV.mono {fr fr' : Nat → Nat → Prop} {w w' : World} (hk : Keeps fr w fr' w') : ∀ {ts : List Ty} {x : Ar ts} {vs : List Value}, ArgsDV fr w ts x vs → ArgsDV fr' w' ts x vs
  | [], _, _, h => h
  | _ :: _, _, _, ⟨v, us, h1, h2, h3⟩ => ⟨v, us, h1, h2.mono hk, ArgsDV.mono hk h3⟩

theorem ResDV.mono {fr fr' : Nat → Nat → Prop} {w w' : World} (hk : Keeps fr w fr' w') {ts : List Ty} {x : Ar ts} {v : Value} : ResDV fr w ts x v → ResDV fr' w' ts x v
  | ⟨vs, h1, h2⟩ => ⟨vs, h1.mono hk, h2⟩

theorem argsA_rep {G : Gh} {w : World} : ∀ {ts : List Ty} {x : Ar ts} {vs : List Value}, ArgsDV G.fr w ts x vs → RepL G w (argsA ts x) vs
  | [], _, _, h => by rw [show _ = _ from h]; exact RepL.nil G w
  | _ :: _, _, _, ⟨v, us, h1, h2, h3⟩ => by rw [h1]; exact RepL.cons (ofD_rep h2) (argsA_rep h3)

theorem resV_rep {G : Gh} {w : World} {cs : List AV} {vs : List Value} (h : RepL G w cs vs) : Rep G w (resV cs) (oneOr vs) := by
  match cs, vs, h with
  | [], vs, h => cases h.nil_inv; exact .tup [] #[] rfl fun i c v hc => by simp at hc
  | [c], vs, h =>
    obtain ⟨u, r, rfl, q1, q2⟩ := h.cons_inv
    cases q2.nil_inv; exact q1
  | c1 :: c2 :: cs, vs, h =>
    obtain ⟨u1, r, rfl, q1, q2⟩ := h.cons_inv
    obtain ⟨u2, r, rfl, q3, q4⟩ := q2.cons_inv
    exact .tup _ _ (by simpa using h.1) fun i c v hc hv => h.2 i c v hc (by simpa using hv)

theorem toArgs_rep {G : Gh} {w : World} {h : List HObj} : ∀ {ts : List Ty} {cs : List AV} {vs : List Value} {x : Ar ts}, RepL G w cs vs → (∀ k ∈ idsOf cs, Sealed G w h k) → toArgs h ts cs = some x → ArgsDV G.fr w ts x vs
  | [], cs, vs, x, hr, hs, he => by
    cases cs with
    | nil => exact hr.nil_inv
    | cons c cs => simp [toArgs] at he
  | t :: ts, cs, vs, x, hr, hs, he => by
    cases cs with
    | nil => simp [toArgs] at he
    | cons c cs =>
      obtain ⟨v, us, rfl, h1, h2⟩ := hr.cons_inv
      simp only [toArgs] at he
      split at he
      · rename_i y hy
        split at he
        · rename_i r hrr
          simp only [Option.some.injEq] at he
          subst he
          exact ⟨v, us, rfl, toD_rep h1 (fun k hk => hs k (by simp [idsOf, hk])) hy, toArgs_rep h2 (fun k hk => hs k (by simp only [idsOf, List.flatMap_cons, List.mem_append]; exact .inr hk)) hrr⟩
        · simp at he
      · simp at he

theorem toRes_rep {G : Gh} {w : World} {h : List HObj} {ts : List Ty} {c : AV} {v : Value} {x : Ar ts} (hr : Rep G w c v) (hs : ∀ k ∈ idsRes c, Sealed G w h k)
    (he : toRes h ts c = some x) : ResDV G.fr w ts x v := by
  have tup : ∀ (ts : List Ty) (x : Ar ts), tupA h ts c = some x → ts.length ≠ 1 → ResDV G.fr w ts x v := by
    intro ts x he hl
    obtain ⟨cs, rfl, he⟩ : ∃ cs, c = .tup cs ∧ toArgs h ts cs = some x := by
      cases c <;> simp only [tupA] at he <;> first | exact ⟨_, rfl, he⟩ | (exact absurd he (by simp))
    obtain ⟨us, rfl, hL⟩ : ∃ us : Array Value, v = .tuple us ∧ RepL G w cs us.toList := by
      cases hr with
      | tup _ us hlen hr => exact ⟨us, rfl, by simpa using hlen, fun i c v hc hv => hr i c v hc (by simpa using hv)⟩
    have ha := toArgs_rep hL hs he
    refine ⟨us.toList, ha, ?_⟩
    have hlen2 : ∀ {ts : List Ty} {x : Ar ts} {vs : List Value}, ArgsDV G.fr w ts x vs → vs.length = ts.length := by
      intro ts
      induction ts with
      | nil => intro x vs h; rw [show vs = [] from h]; rfl
      | cons t ts ih => intro x vs h; obtain ⟨v, us, rfl, _, h3⟩ := h; simp [ih h3]
    have hne := hlen2 ha
    unfold oneOr
    split
    · rename_i u hu; rw [hu] at hne; exact absurd hne.symm hl
    · simp
  match ts, x, he with
  | [], x, he => exact tup [] x he (by simp)
  | [t], x, he =>
    simp only [toRes] at he
    split at he
    · rename_i y hy
      simp only [Option.some.injEq] at he
      subst he
      refine ⟨[v], ⟨v, [], rfl, toD_rep hr (fun k hk => hs k ?_) hy, rfl⟩, rfl⟩
      cases c <;> first | exact hk | (simp [cellsOf, vecIds] at hk)
    · simp at he
  | t1 :: t2 :: ts, x, he => exact tup (t1 :: t2 :: ts) x he (by simp)

/-- A function over data: what it comes to. -/
def FnOk (P : Program) (f : FuncId) (As Ts : List Ty) (F : Ar As → Option (Ar Ts)) : Prop :=
  ∀ (fr : Nat → Nat → Prop) (w : World) (x : Ar As) (vals : Array Value) (r : Ar Ts), ArgsDV fr w As x vals.toList → F x = some r →
    Calls P f vals w fun e w' => ∃ v fr', e = .returned v ∧ ResDV fr' w' Ts r v ∧ Below w.heap.size w w' ∧ (∀ a : Addr, w'.frozen? a = w.frozen? a) ∧ ∀ B o, B < w.heap.size → (fr' B o ↔ fr B o)

theorem sim_start (fr : Nat → Nat → Prop) (w : World) : SimH ⟨0, fun _ => undef, fun _ => 0, fun _ => none, fr⟩ [] w :=
  ⟨rfl, fun b o hb => by simp at hb, fun B b hb => by simp at hb⟩

theorem Ext.below {G G' : Gh} {w w' : World} (e : Ext G w G' w') (hb : ∀ B, G.bo B = none) : Below w.heap.size w w' :=
  ⟨e.os, e.tape, e.output, e.size, fun k hk => (e.blocks k hk (hb k)).1⟩

/-- The contract of a function that has been run over any arguments. -/
theorem fn_ok {P : Program} {C : Cfg} (hC : CfgOk P C) {f : FuncId} {fn : Func} (hf : P.funcs[f]? = some fn) {n : Nat} {As Ts : List Ty} {F : Ar As → Option (Ar Ts)}
    (hrun : ∀ x, runF C n f fn (argsA As x) [] (fun v h => toRes h Ts v) = F x) : FnOk P f As Ts F := by
  intro fr w x vals r hx hF
  rw [← hrun x] at hF
  unfold runF at hF
  split at hF
  · rename_i body hb
    rw [run_eq] at hF
    obtain ⟨⟨e, s'⟩, hrun, hF⟩ := Option.bind_eq_some_iff.1 hF
    have hs : SimH _ _ w := sim_start fr w
    have hv := argsA_rep (G := ⟨0, fun _ => undef, fun _ => 0, fun _ => none, fr⟩) hx
    have hsz : (argsA As x).length = vals.size := by simpa using hv.1
    refine calls_of_wp hf hb ?_
    have hs0 : Sim ⟨0, fun _ => undef, fun _ => 0, fun _ => none, fr⟩ { tmps := argsA As x ++ List.replicate (fn.ntmps - (argsA As x).length) .top, heap := [] } { tmps := vals ++ Array.replicate (fn.ntmps - vals.size) undef, defers := [] } w := by
      refine ⟨hs, ?_, rfl⟩
      have : (vals ++ Array.replicate (fn.ntmps - vals.size) undef).toList = vals.toList ++ List.replicate (fn.ntmps - (argsA As x).length) undef := by simp [hsz]
      rw [this]
      refine hv.append ⟨by simp, fun i c v hc hv => ?_⟩
      rw [List.getElem?_replicate] at hc
      split at hc
      · simp only [Option.some.injEq] at hc; subst hc; exact .top _
      · simp at hc
    refine (run_ok hC n f body _ e s' hrun (fun id L b hL hb' => hC.loops f fn id L body b hL hf hb hb') _ _ w _ hs0 fun G' a' w' hs' he' => ?_).1
    have fin : ∀ us, resA C s'.heap s'.tmps fn.results.toList = some us → toRes s'.heap Ts (resV us) = some r → a'.defers = [] ∧ ∃ v, (results fn a'.tmps).run P w' = .ok v w' ∧
        ∃ v' fr', Ending.returned v = .returned v' ∧ ResDV fr' w' Ts r v' ∧ Below w.heap.size w w' ∧ (∀ a : Addr, w'.frozen? a = w.frozen? a) ∧ ∀ B o, B < w.heap.size → (fr' B o ↔ fr B o) := by
      intro us hres hto
      obtain ⟨v, q1, q2⟩ := results_ok hC hs'.h hs'.tmps hres
      obtain ⟨G2, s2, e2, n2, d2⟩ := lockS (idsRes (resV us)) hs'.h
      have hfin := he'.trans e2
      exact ⟨hs'.dfr, v, q1, v, G2.fr, rfl, toRes_rep (q2.mono e2) d2 hto, hfin.below fun _ => rfl, hfin.fz, fun B o hB => (hfin.blocks B hB rfl).2.2 o⟩
    cases e with
    | normal =>
      dsimp only at hF
      split at hF
      · rename_i us hres; exact fin us hres hF
      · simp at hF
    | ret =>
      dsimp only at hF
      split at hF
      · rename_i us hres; exact fin us hres hF
      · simp at hF
    | _ => simp at hF
  · simp at hF

/- THE CONTRACT AS A RUN USES IT -/

theorem unflat_noVec {h h2 : List HObj} : ∀ {t : Ty} {cs : List AV}, vecIds cs = [] → unflat h t cs = unflat h2 t cs ∧ ∀ x r, unflat h t cs = some (x, r) → vecIds r = []
  | .unit, cs, hn => ⟨rfl, fun x r he => by simp [unflat] at he; rw [← he]; exact hn⟩
  | .int _, cs, hn => by
    cases cs with
    | nil => exact ⟨rfl, fun x r he => by simp [unflat] at he⟩
    | cons c cs =>
      cases c <;> simp [unflat, vecIds] at hn ⊢
      exact fun _ => hn
  | .bool, cs, hn => by
    cases cs with
    | nil => exact ⟨rfl, fun x r he => by simp [unflat] at he⟩
    | cons c cs =>
      cases c <;> simp [unflat, vecIds] at hn ⊢
      first | exact hn | (intro x r h1 h2; rw [← h2]; exact hn) | (intro x r h1; rw [← h1]; exact hn)
  | .str, cs, hn => by
    cases cs with
    | nil => exact ⟨rfl, fun x r he => by simp [unflat] at he⟩
    | cons c cs =>
      cases c <;> simp [unflat, vecIds] at hn ⊢
      first | exact hn | (intro x r h1 h2; rw [← h2]; exact hn) | (intro x r h1; rw [← h1]; exact hn)
  | .list t, cs, hn => by
    cases cs with
    | nil => exact ⟨rfl, fun x r he => by simp [unflat] at he⟩
    | cons c cs =>
      cases c <;> simp [unflat, vecIds] at hn ⊢
      · exact fun _ => hn
      · exact hn
  | .one t, cs, hn => unflat_noVec (t := t) hn
  | .pair a b, cs, hn => by
    obtain ⟨h1, h3⟩ := unflat_noVec (h := h) (h2 := h2) (t := a) hn
    simp only [unflat]
    rw [← h1]
    cases ha : unflat h a cs with
    | none => simp
    | some p =>
      obtain ⟨x, r⟩ := p
      dsimp only
      have hr := h3 x r ha
      obtain ⟨k1, k2⟩ := unflat_noVec (h := h) (h2 := h2) (t := b) hr
      rw [← k1]
      refine ⟨rfl, fun y s he => ?_⟩
      cases hb : unflat h b r with
      | none => rw [hb] at he; simp at he
      | some q =>
        obtain ⟨z, s'⟩ := q
        rw [hb] at he
        simp only [Option.some.injEq, Prod.mk.injEq] at he
        rw [← he.2]
        exact k2 z s' hb

theorem toD_noVec {h h2 : List HObj} {t : Ty} {v : AV} (hn : vecIds (cellsOf v) = []) : toD h t v = toD h2 t v := by
  unfold toD
  cases t.isAgg with
  | true =>
    dsimp only [cond_true]
    cases v <;> try rfl
    rename_i cs
    dsimp only
    rw [(unflat_noVec (h := h) (h2 := h2) (t := t) (cs := cs) hn).1]
  | false =>
    dsimp only [cond_false]
    have : vecIds [v] = [] := by
      cases v <;> first | rfl | (exact hn)
    rw [(unflat_noVec (h := h) (h2 := h2) (t := t) this).1]

theorem toArgs_noVec {h h2 : List HObj} : ∀ {ts : List Ty} {vs : List AV}, noVec vs = true → toArgs h ts vs = toArgs h2 ts vs
  | [], [], _ => rfl
  | [], _ :: _, _ => rfl
  | _ :: _, [], _ => rfl
  | t :: ts, v :: vs, hn => by
    simp only [noVec, List.all_cons, Bool.and_eq_true, List.isEmpty_iff] at hn
    simp only [toArgs]
    rw [toD_noVec (h := h) (h2 := h2) hn.1, toArgs_noVec (h := h) (h2 := h2) (ts := ts) hn.2]

theorem idsOf_noVec : ∀ {vs : List AV}, noVec vs = true → idsOf vs = []
  | [], _ => rfl
  | v :: vs, hn => by
    simp only [noVec, List.all_cons, Bool.and_eq_true, List.isEmpty_iff] at hn
    simp only [idsOf, List.flatMap_cons, hn.1, List.nil_append]
    exact idsOf_noVec hn.2

def dataHd (As Ts : List Ty) (F : Ar As → Option (Ar Ts)) : Hd where
  sem vs h := match toArgs h As vs with
    | some x => match F x with
      | some r => some (resV (argsA Ts r), lockAll (idsOf vs) h)
      | none => none
    | none => none
  cps vs h K := match toArgs h As vs with
    | some x => match F x with
      | some r => K (resV (argsA Ts r)) (lockAll (idsOf vs) h)
      | none => none
    | none => none
  ok vs h K := by
    cases toArgs h As vs with
    | none => rfl
    | some x => cases hF : F x <;> simp [hF]
  quiet := true
  qok _ vs h r h' hn he := by
    have hi := idsOf_noVec hn
    split at he
    · rename_i x hx
      split at he
      · rename_i rr hr
        simp only [Option.some.injEq, Prod.mk.injEq] at he
        obtain ⟨rfl, rfl⟩ := he
        exact ⟨by rw [hi]; rfl, fun h2 => by rw [toArgs_noVec (h := h2) (h2 := h) hn, hx, hi]; simp [hr, lockAll]⟩
      · simp at he
    · simp at he

theorem dataHd_ok {P : Program} {f : FuncId} {As Ts : List Ty} {F : Ar As → Option (Ar Ts)} (hF : FnOk P f As Ts F) : HdOk P f (dataHd As Ts F).sem := by
  intro G h w vs vals r h' hs hv he
  simp only [dataHd] at he
  split at he
  · rename_i x hx
    split at he
    · rename_i rr hr
      simp only [Option.some.injEq, Prod.mk.injEq] at he
      obtain ⟨rfl, rfl⟩ := he
      obtain ⟨G1, s1, e1, n1, d1⟩ := lockS (idsOf vs) hs
      have hargs := toArgs_rep (hv.mono e1) d1 hx
      refine (hF G1.fr w x vals rr hargs hr).mono fun e w' hp => ?_
      obtain ⟨v, fr', rfl, h1, h2, h4, h3⟩ := hp
      let G2 : Gh := { G1 with fr := fr' }
      have hk : Keeps G1.fr w fr' w' := fun B o u a b => by
        have hB : B < w.heap.size := by
          rcases Nat.lt_or_ge B w.heap.size with hlt | hge
          · exact hlt
          · simp [World.cell?, Array.getElem?_eq_none hge] at b
        refine ⟨(h3 B o hB).2 a, ?_⟩
        simp only [World.cell?] at b ⊢
        rw [h2.block B hB]; exact b
      have e2 : Ext G1 w G2 w' := ⟨Nat.le_refl _, fun _ _ _ => ⟨rfl, rfl⟩, h2.os, h2.tape, h2.output, h2.size, fun B hB hb => ⟨h2.block B hB, hb, fun o => h3 B o hB⟩, hk, h4⟩
      have s2 : SimH G2 (lockAll (idsOf vs) h) w' := ⟨s1.n, fun b o hb => (s1.objs b o hb).mono e2 ⟨rfl, rfl⟩ fun B hB => ⟨h2.block B (s1.own B b hB).2, hB, fun o => h3 B o (s1.own B b hB).2⟩,
        fun B b hb => ⟨(s1.own B b hb).1, Nat.lt_of_lt_of_le (s1.own B b hb).2 h2.size⟩⟩
      obtain ⟨us, k1, k2⟩ := h1
      refine ⟨v, G2, rfl, ?_, s2, e1.trans e2⟩
      rw [k2]
      exact resV_rep (argsA_rep (G := G2) k1)
    · simp at he
  · simp at he

end Go.RX

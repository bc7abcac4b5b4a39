/-
  The run of code, sound.
-/
import Derived.Test.YtleejiihlldflaaGreatRr
import Derived.LoopN
namespace Go.RX

def blocksIn (id : Nat) : Code → List Code
  | .seq a b => blocksIn id a ++ blocksIn id b
  | .cond _ a b => blocksIn id a ++ blocksIn id b
  | .block i body => bif Nat.beq i id then body :: blocksIn id body else blocksIn id body
  | .loop body => blocksIn id body
  | _ => []

section
variable {P : Program}

/-- A loop comes to what is said of it. -/
def LoopOk (P : Program) (L : LH) (id : Nat) (body : Code) : Prop :=
  ∀ (G : Gh) (s : St) (a : Act) (w : World) (e : Exit) (s' : St) (Q : Exit → Act → World → Prop), Sim G s a w → L.sem s = some (e, s') → Next G w s' (Q e) → (Code.block id body).wp P Q a w

structure CfgOk (P : Program) (C : Cfg) : Prop where
  ty : ∀ t r, C.ty t = some r → TOk P t r
  eqs : ∀ t x, C.eqs t = some x → eqOk P t x = true
  fns : ∀ f H, C.fns f = some H → HdOk P f H.sem ∧ Enters P f
  inl : ∀ f fn, C.inl f = some fn → P.funcs[f]? = some fn ∧ (fn.name == "runtime.NumGoroutine") = false
  loops : ∀ f fn id L c body, C.loops f id = some L → P.funcs[f]? = some fn → fn.body = some c → body ∈ blocksIn id c → LoopOk P L id body
  mixed : P.follows .mixedOrders = true

theorem sim_drawn {G : Gh} {s : St} {a : Act} {w : World} (hs : Sim G s a w) (n : Nat) : Ext G w G { w with drawn := n } ∧ Sim G s a { w with drawn := n } := by
  have e : Ext G w G { w with drawn := n } := ⟨Nat.le_refl _, fun _ _ _ => ⟨rfl, rfl⟩, rfl, rfl, rfl, Nat.le_refl _, fun _ _ h => ⟨rfl, h, fun _ => Iff.rfl⟩, fun _ _ _ h1 h2 => ⟨h1, h2⟩, fun _ => rfl⟩
  exact ⟨e, ⟨⟨hs.h.n, fun b o hb => (hs.h.objs b o hb).mono e ⟨rfl, rfl⟩ fun _ hB => ⟨rfl, hB, fun _ => Iff.rfl⟩, hs.h.own⟩, hs.tmps.mono e, hs.dfr⟩⟩

theorem region_ok {C : Cfg} (hC : CfgOk P C) {inl : Inl} (hI : ∀ f, HdOk P f (inl f)) (hIe : ∀ f vs h r, inl f vs h = some r → Enters P f) {id : Nat} {ops : Array Oper} {draw : Bool} {G : Gh} {s s' : St} {a : Act} {w : World}
    (hs : Sim G s a w) (he : regF C inl ops.toList draw s = some s') {Q : Exit → Act → World → Prop} (hK : Next G w s' (Q .normal)) : (Code.region id ops draw).wp P Q a w := by
  unfold regF at he
  split at he
  · rename_i s1 fs h1
    have hlen : ops.toList.length = ops.size := Array.length_toList
    rw [hlen] at h1
    cases draw with
    | false =>
      simp only [Bool.not_false, Bool.true_or, cond_true, Option.some.injEq] at he
      subst he
      exact wp_region (ops_ok hC.ty hC.eqs hC.fns hI hIe hs h1 hK)
    | true =>
      have hb := (bif_some he).1
      replace he := (bif_some he).2
      simp only [Option.some.injEq] at he
      subst he
      simp only [Bool.not_true, Bool.false_or, Bool.and_eq_true] at hb
      obtain ⟨e, hs'⟩ := sim_drawn hs (w.drawn + 1)
      obtain ⟨G1, e1, k1⟩ := sim_keep hs'.h (ops.toList.filter isAlloc).length
      refine wp_region_any hC.mixed (any_ok hC.ty hC.eqs hC.fns hI hIe hb.1 (l := List.range ops.size) (by simp) List.pairwise_lt_range (fun x hx => by simpa using hx) (by simp)
        (fun k hk => by simp [hk]) (fun k o ho hk => ?_) (hs'.world e1 k1) h1 (okp_of hb.1 hb.2 (ops_fst h1)) (fun G2 a2 w2 hs2 he2 => hK G2 a2 w2 hs2 ((e.trans e1).trans he2)))
      exact absurd (List.mem_range.2 (Array.getElem?_eq_some_iff.1 ho).1) hk
  · simp at he

/-- The inlined call of the run. -/
def inlS (C : Cfg) (n : Nat) : Inl := fun f vs h => match C.inl f with
  | some fn => match fn.body with
    | some body => match runS C n f body { tmps := vs ++ List.replicate (fn.ntmps - vs.length) .top, heap := h } with
      | some (e, s') => match e with
        | .normal | .ret => match resA C s'.heap s'.tmps fn.results.toList with
          | some vs => some (resV vs, s'.heap)
          | none => none
        | _ => none
      | none => none
    | none => none
  | none => none

/-- One result variable, read. -/
def resVal (tv : Array Value) : ResultVar → Sem Value
  | .tmp t => pure (tv.getD t undef)
  | .cell a t => do loadVar t (← asAddr (tv.getD a undef))

theorem res_ok {C : Cfg} (hC : CfgOk P C) {G : Gh} {h : List HObj} {w : World} (s : SimH G h w) {ts : List AV} {tv : Array Value} (ht : RepL G w ts tv.toList) : ∀ {rs : List ResultVar} {vs : List AV}, resA C h ts rs = some vs →
    ∃ us : List Value, (rs.mapM (resVal tv)).run P w = .ok us w ∧ RepL G w vs us
  | [], vs, he => by
    simp only [resA, Option.some.injEq] at he
    subst he
    exact ⟨[], by simp, RepL.nil G w⟩
  | .tmp t :: rs, vs, he => by
    simp only [resA] at he
    split at he
    · rename_i us hu
      simp only [Option.some.injEq] at he
      subst he
      obtain ⟨us', h1, h2⟩ := res_ok hC s ht hu
      refine ⟨tv.getD t undef :: us', by simp only [List.mapM_cons, Sem.run_bind, resVal, Sem.run_pure, Result.andThen_ok, h1], RepL.cons ?_ h2⟩
      have := ht.getD t
      simpa [List.getD_eq_getElem?_getD] using this
    · simp at he
  | .cell a t :: rs, vs, he => by
    simp only [resA] at he
    split at he
    · rename_i o ho
      split at he
      · rename_i us hu
        simp only [Option.some.injEq] at he
        subst he
        obtain ⟨us', h1, h2⟩ := res_ok hC s ht hu
        have hr := ht.getD a
        have e : tv.toList.getD a undef = tv.getD a undef := by simp [List.getD_eq_getElem?_getD]
        rw [e] at hr
        obtain ⟨⟨B, off, u, q1, q2, q3⟩, _⟩ := load_var hC.ty s hr ho
        refine ⟨u :: us', ?_, RepL.cons q3 h2⟩
        simp only [List.mapM_cons, Sem.run_bind, resVal, q1, asAddr, Sem.run_pure, Result.andThen_ok, q2, h1]
      · simp at he
    · simp at he

theorem results_ok {C : Cfg} (hC : CfgOk P C) {G : Gh} {h : List HObj} {w : World} (s : SimH G h w) {ts : List AV} {tv : Array Value} (ht : RepL G w ts tv.toList) {fn : Func} {vs : List AV} (he : resA C h ts fn.results.toList = some vs) :
    ∃ v, (results fn tv).run P w = .ok v w ∧ Rep G w (resV vs) v := by
  obtain ⟨us, h1, h2⟩ := res_ok hC s ht he
  have hm : fn.results.mapM (resVal tv) = (do
      let l ← fn.results.toList.mapM (resVal tv)
      pure l.toArray) := by
    rw [Array.mapM_eq_mapM_toList]
    rfl
  have hr : results fn tv = (do
      let vs ← fn.results.mapM (resVal tv)
      pure (if h : vs.size = 1 then vs[0] else .tuple vs)) := by
    unfold results
    congr 2
  refine ⟨if h : us.toArray.size = 1 then us.toArray[0] else .tuple us.toArray, ?_, ?_⟩
  · rw [hr, hm]
    simp only [Sem.run_bind, h1, Result.andThen_ok, Sem.run_pure]
  · match vs, us, h2 with
    | [v], us, h2 =>
      obtain ⟨u, r, rfl, q1, q2⟩ := h2.cons_inv
      rw [q2.nil_inv]
      exact q1
    | [], us, h2 =>
      rw [h2.nil_inv]
      exact .tup [] #[] rfl fun i c v hc => by simp at hc
    | v1 :: v2 :: vs, us, h2 =>
      obtain ⟨u1, r, rfl, q1, q2⟩ := h2.cons_inv
      obtain ⟨u2, r, rfl, q3, q4⟩ := q2.cons_inv
      have hne : ¬ (u1 :: u2 :: r).toArray.size = 1 := by simp
      rw [dif_neg hne]
      exact .tup _ _ (by simpa using h2.1) fun i c v hc hv => h2.2 i c v hc (by simpa using hv)

theorem run_ok {C : Cfg} (hC : CfgOk P C) : ∀ (n : Nat) (cur : FuncId) (c : Code) (s : St) (e : Exit) (s' : St), runS C n cur c s = some (e, s') →
    (∀ id L body, C.loops cur id = some L → body ∈ blocksIn id c → LoopOk P L id body) →
    ∀ (G : Gh) (a : Act) (w : World) (Q : Exit → Act → World → Prop), Sim G s a w → Next G w s' (Q e) →
      c.wp P Q a w ∧ ∀ body, c = .loop body → Code.rounds P body Q n a w := by
  intro n
  induction n with
  | zero => intro cur c s e s' he; simp [runS] at he
  | succ n ih =>
    have hI : ∀ f, HdOk P f (inlS C n f) := by
      intro f G h w vs vals r h' hs hv he
      unfold inlS at he
      split at he
      · rename_i fn hf
        split at he
        · rename_i body hb
          split at he
          · rename_i e s' hrun
            obtain ⟨hf1, hf2⟩ := hC.inl f fn hf
            refine calls_of_wp hf1 hb ?_
            have hsz : vs.length = vals.size := by simpa using hv.1
            have hs0 : Sim G { tmps := vs ++ List.replicate (fn.ntmps - vs.length) .top, heap := h } { tmps := vals ++ Array.replicate (fn.ntmps - vals.size) undef, defers := [] } w := by
              refine ⟨hs, ?_, rfl⟩
              have : (vals ++ Array.replicate (fn.ntmps - vals.size) undef).toList = vals.toList ++ List.replicate (fn.ntmps - vs.length) undef := by simp [hsz]
              rw [this]
              refine hv.append ⟨by simp, fun i c v hc hv => ?_⟩
              rw [List.getElem?_replicate] at hc
              split at hc
              · simp only [Option.some.injEq] at hc; subst hc; exact .top _
              · simp at hc
            refine (ih f body _ e s' hrun (fun id L b hL hb' => hC.loops f fn id L body b hL hf1 hb hb') G _ w _ hs0 fun G' a' w' hs' he' => ?_).1
            cases e with
            | normal =>
              dsimp only at he
              split at he
              · rename_i us hres
                simp only [Option.some.injEq, Prod.mk.injEq] at he
                obtain ⟨rfl, rfl⟩ := he
                obtain ⟨v, q1, q2⟩ := results_ok hC hs'.h hs'.tmps hres
                exact ⟨hs'.dfr, v, q1, v, G', rfl, q2, hs'.h, he'⟩
              · simp at he
            | ret =>
              dsimp only at he
              split at he
              · rename_i us hres
                simp only [Option.some.injEq, Prod.mk.injEq] at he
                obtain ⟨rfl, rfl⟩ := he
                obtain ⟨v, q1, q2⟩ := results_ok hC hs'.h hs'.tmps hres
                exact ⟨hs'.dfr, v, q1, v, G', rfl, q2, hs'.h, he'⟩
              · simp at he
            | _ => simp at he
          · simp at he
        · simp at he
      · simp at he
    have hIe : ∀ f vs h r, inlS C n f vs h = some r → Enters P f := by
      intro f vs h r he
      unfold inlS at he
      split at he
      · rename_i fn hf
        split at he
        · rename_i body hb
          obtain ⟨hf1, hf2⟩ := hC.inl f fn hf
          exact ⟨fn, hf1, by rw [hb]; rfl, hf2⟩
        · simp at he
      · simp at he
    intro cur c s e s' he hl G a w Q hs hK
    cases c with
    | skip =>
      simp only [runS, Option.some.injEq, Prod.mk.injEq] at he
      obtain ⟨rfl, rfl⟩ := he
      exact ⟨wp_skip (hK G a w hs (Ext.refl G w)), fun body h => by simp at h⟩
    | ret =>
      simp only [runS, Option.some.injEq, Prod.mk.injEq] at he
      obtain ⟨rfl, rfl⟩ := he
      exact ⟨wp_ret (hK G a w hs (Ext.refl G w)), fun body h => by simp at h⟩
    | exit id =>
      simp only [runS, Option.some.injEq, Prod.mk.injEq] at he
      obtain ⟨rfl, rfl⟩ := he
      exact ⟨wp_exit (hK G a w hs (Ext.refl G w)), fun body h => by simp at h⟩
    | seq x y =>
      refine ⟨wp_seq ?_, fun body h => by simp at h⟩
      simp only [runS] at he
      have hlx : ∀ id L body, C.loops cur id = some L → body ∈ blocksIn id x → LoopOk P L id body := fun id L body h1 h2 => hl id L body h1 (by simp [blocksIn, h2])
      have hly : ∀ id L body, C.loops cur id = some L → body ∈ blocksIn id y → LoopOk P L id body := fun id L body h1 h2 => hl id L body h1 (by simp [blocksIn, h2])
      split at he
      · rename_i s1 h1
        exact (ih cur x s .normal s1 h1 hlx G a w _ hs fun G1 a1 w1 hs1 he1 => (ih cur y s1 e s' he hly G1 a1 w1 Q hs1 fun G2 a2 w2 hs2 he2 => hK G2 a2 w2 hs2 (he1.trans he2)).1).1
      · rename_i hne
        refine (ih cur x s e s' he hlx G a w _ hs fun G1 a1 w1 hs1 he1 => ?_).1
        cases e with
        | normal => exact absurd he (hne s')
        | _ => exact hK G1 a1 w1 hs1 he1
    | cond cnd x y =>
      refine ⟨?_, fun body h => by simp at h⟩
      simp only [runS] at he
      split at he
      · rename_i b hb
        have hc := rep_eval hs.tmps cnd
        rw [hb] at hc
        have hcv : a.eval cnd = .bool b := by
          generalize a.eval cnd = v at hc
          cases hc; rfl
        refine wp_cond hcv ?_
        cases b with
        | true => exact (ih cur x s e s' he (fun id L body h1 h2 => hl id L body h1 (by simp [blocksIn, h2])) G a w Q hs hK).1
        | false => exact (ih cur y s e s' he (fun id L body h1 h2 => hl id L body h1 (by simp [blocksIn, h2])) G a w Q hs hK).1
      · simp at he
    | block id body =>
      refine ⟨?_, fun body h => by simp at h⟩
      simp only [runS] at he
      split at he
      · rename_i L hL
        exact hl id L body hL (by simp [blocksIn]) G s a w e s' Q hs he hK
      · rename_i hL
        refine wp_block ?_
        have hlb : ∀ i L b, C.loops cur i = some L → b ∈ blocksIn i body → LoopOk P L i b := fun i L b h1 h2 => hl i L b h1 (by
          simp only [blocksIn]
          cases Nat.beq id i <;> simp [h2])
        split at he
        · rename_i id' s1 h1
          refine (ih cur body s _ s1 h1 hlb G a w _ hs fun G1 a1 w1 hs1 he1 => ?_).1
          show if id' = id then Q .normal a1 w1 else Q (.exit id') a1 w1
          cases hb : Nat.beq id' id with
          | true =>
            rw [hb] at he
            simp only [cond_true, Option.some.injEq, Prod.mk.injEq] at he
            obtain ⟨rfl, rfl⟩ := he
            rw [if_pos (Nat.eq_of_beq_eq_true hb)]
            exact hK G1 a1 w1 hs1 he1
          | false =>
            rw [hb] at he
            simp only [cond_false, Option.some.injEq, Prod.mk.injEq] at he
            obtain ⟨rfl, rfl⟩ := he
            rw [if_neg (Nat.ne_of_beq_eq_false hb)]
            exact hK G1 a1 w1 hs1 he1
        · rename_i hne
          refine (ih cur body s e s' he hlb G a w _ hs fun G1 a1 w1 hs1 he1 => ?_).1
          cases e with
          | exit i => exact absurd he (hne i s')
          | _ => exact hK G1 a1 w1 hs1 he1
    | loop body =>
      have hr : Code.rounds P body Q (n + 1) a w := by
        rw [rounds_succ]
        simp only [runS] at he
        have hlb : ∀ id L b, C.loops cur id = some L → b ∈ blocksIn id body → LoopOk P L id b := fun id L b h1 h2 => hl id L b h1 (by simpa [blocksIn] using h2)
        split at he
        · rename_i s1 h1
          exact (ih cur body s .normal s1 h1 hlb G a w _ hs fun G1 a1 w1 hs1 he1 => (ih cur (.loop body) s1 e s' he hl G1 a1 w1 Q hs1 fun G2 a2 w2 hs2 he2 => hK G2 a2 w2 hs2 (he1.trans he2)).2 body rfl).1
        · rename_i hne
          refine (ih cur body s e s' he hlb G a w _ hs fun G1 a1 w1 hs1 he1 => ?_).1
          cases e with
          | normal => exact absurd he (hne s')
          | _ => exact hK G1 a1 w1 hs1 he1
      exact ⟨wp_loop_rounds (n + 1) hr, fun b hb => by cases hb; exact hr⟩
    | region id ops draw =>
      refine ⟨?_, fun body h => by simp at h⟩
      simp only [runS] at he
      split at he
      · rename_i s1 h1
        simp only [Option.some.injEq, Prod.mk.injEq] at he
        obtain ⟨rfl, rfl⟩ := he
        exact region_ok hC hI hIe hs h1 hK
      · simp at he
    | _ => simp [runS] at he

end
end Go.RX

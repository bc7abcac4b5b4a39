/-
  Contracts of functions that are handed places.
-/
import Derived.Test.YtleejiihlldflaaGreatSd
namespace Go.RX
open Go.RowKit

/-- A function over slots of its arguments: what it comes to, and what is then behind its pointers. -/
def FnS (P : Program) (f : FuncId) (np : Nat) (ss ss1 : List Slot) (Ts : List Ty) (F : Sl ss → Option (Ar Ts × Sl ss1)) : Prop :=
  ∀ (fr : Nat → Nat → Prop) (w : World) (loc : Nat → Value) (x : Sl ss) (vals : Array Value) (r : Ar Ts) (y : Sl ss1), vals.toList.length = np → Own fr w loc ss x vals.toList → F x = some (r, y) →
    Calls P f vals w fun e w' => ∃ v fr' loc', e = .returned v ∧ ResDV fr' w' Ts r v ∧ Own fr' w' loc' ss1 y [] ∧ Goes fr w loc ss fr' w' loc' ss1

def endS (Ts : List Ty) (ss1 : List Slot) (v : AV) (h : List HObj) : Option (Ar Ts × Sl ss1) :=
  match toRes h Ts v with
  | some r => match rdSs h [] some ss1 0 with
    | some (y, src, lk) => bif okSrc src (lk ++ idsRes v) && stay (ssB ss1) src then some (r, y) else none
    | none => none
  | none => none

theorem fnS_of {P : Program} {C : Cfg} (hC : CfgOk P C) {f : FuncId} {fn : Func} (hf : P.funcs[f]? = some fn) {n np : Nat} {ss ss1 : List Slot} {Ts : List Ty} {F : Sl ss → Option (Ar Ts × Sl ss1)} (hbs : leB (ssB ss1) (ssB ss) = true)
    (hrun : ∀ x, runF C n f fn (mkT id ss x 0 (List.replicate np .top)) (mkH id ss x 0) (endS Ts ss1) = F x) : FnS P f np ss ss1 Ts F := by
  intro fr w loc x vals r y hnp own hF
  rw [← hrun x] at hF
  unfold runF at hF
  split at hF
  · rename_i body hb
    rw [run_eq] at hF
    obtain ⟨⟨e, s'⟩, hrun, hF⟩ := Option.bind_eq_some_iff.1 hF
    have hbase : RepL (ghOf fr loc ss) w (List.replicate np .top) vals.toList := ⟨by simpa using hnp.symm, fun i c v hc hv => by
      rw [List.getElem?_replicate] at hc
      split at hc
      · simp only [Option.some.injEq] at hc; subst hc; exact .top v
      · simp at hc⟩
    have hs := own_sim (a := { tmps := vals, defers := [] }) own rfl hbase
    have hv : RepL (ghOf fr loc ss) w (mkT id ss x 0 (List.replicate np .top)) vals.toList := hs.tmps
    have hsz : (mkT id ss x 0 (List.replicate np .top)).length = vals.size := by simpa using hv.1
    refine calls_of_wp hf hb ?_
    have hs0 : Sim (ghOf fr loc ss) { tmps := mkT id ss x 0 (List.replicate np .top) ++ List.replicate (fn.ntmps - (mkT id ss x 0 (List.replicate np .top)).length) .top, heap := mkH id ss x 0 } { tmps := vals ++ Array.replicate (fn.ntmps - vals.size) undef, defers := [] } w := by
      refine ⟨hs.h, ?_, rfl⟩
      have : (vals ++ Array.replicate (fn.ntmps - vals.size) undef).toList = vals.toList ++ List.replicate (fn.ntmps - (mkT id ss x 0 (List.replicate np .top)).length) undef := by simp [hsz]
      rw [this]
      refine hv.append ⟨by simp, fun i c v hc hv => ?_⟩
      rw [List.getElem?_replicate] at hc
      split at hc
      · simp only [Option.some.injEq] at hc; subst hc; exact .top _
      · simp at hc
    refine (run_ok hC n f body _ e s' hrun (fun id L b hL hb' => hC.loops f fn id L body b hL hf hb hb') _ _ w _ hs0 fun G' a' w' hs' he' => ?_).1
    have fin : ∀ us, resA C s'.heap s'.tmps fn.results.toList = some us → endS Ts ss1 (resV us) s'.heap = some (r, y) → a'.defers = [] ∧ ∃ v, (results fn a'.tmps).run P w' = .ok v w' ∧
        ∃ v' fr' loc', Ending.returned v = .returned v' ∧ ResDV fr' w' Ts r v' ∧ Own fr' w' loc' ss1 y [] ∧ Goes fr w loc ss fr' w' loc' ss1 := by
      intro us hres hend
      obtain ⟨v, q1, q2⟩ := results_ok hC hs'.h hs'.tmps hres
      unfold endS at hend
      split at hend
      · rename_i r' hto
        split at hend
        · rename_i y' src lk hrd
          cases hk : okSrc src (lk ++ idsRes (resV us)) && stay (ssB ss1) src with
          | false => rw [hk] at hend; simp at hend
          | true =>
            rw [hk] at hend
            simp only [cond_true, Option.some.injEq, Prod.mk.injEq] at hend
            obtain ⟨rfl, rfl⟩ := hend
            simp only [Bool.and_eq_true] at hk
            obtain ⟨G2, s2, e2, n2, d2⟩ := lockS (lk ++ idsRes (resV us)) hs'.h
            obtain ⟨live, len, own2⟩ := rd_ownL s2 d2 (RepL.nil G2 w') hrd (fun k hk => by simp [hk]) hk.1
            exact ⟨hs'.dfr, v, q1, v, G2.fr, locOf G2 src, rfl, toRes_rep (q2.mono e2) (fun k hk => d2 k (by simp [hk])) hto, own2, goes_core own (he'.trans e2) live hk.2 fun i hi => leB_at hbs hi⟩
        · simp at hend
      · simp at hend
    cases e with
    | normal =>
      dsimp only at hF
      split at hF
      · rename_i us hres; exact fin us hres hF
      · simp at hF
    | ret =>
      dsimp only at hF
      split at hF
      · rename_i us hres; exact fin us hres hF
      · simp at hF
    | _ => simp at hF
  · simp at hF

/-- The contract as a run uses it: it comes to a result where 'dom' says so. -/
def hdS (np : Nat) (ss ss1 : List Slot) (Ts : List Ty) (dom : Sl ss → Bool) (F : Sl ss → Ar Ts × Sl ss1) (hbs : leB (ssB ss1) (ssB ss) = true) : Hd where
  ft := ftS ss ss1
  fok := ftS_ok (np := np) (Ts := Ts) (dom := dom) (F := F) hbs fun _ _ => rfl
  sem vs h := bif Nat.beq vs.length np then match rdSs h vs (fun _ => none) ss 0 with
    | some (x, src, lk) => bif okSrc src lk && dom x then some (resV (argsA Ts (F x).1), wbH (lockAll lk h) src ss1 (F x).2) else none
    | none => none
    else none
  cps vs h K := bif Nat.beq vs.length np then match rdSs h vs (fun _ => none) ss 0 with
    | some (x, src, lk) => bif okSrc src lk then (bif dom x then K (resV (argsA Ts (F x).1)) (wbH (lockAll lk h) src ss1 (F x).2) else none) else none
    | none => none
    else none
  ok vs h K := by
    cases Nat.beq vs.length np with
    | false => rfl
    | true =>
      simp only [cond_true]
      cases rdSs h vs (fun _ => none) ss 0 with
      | none => rfl
      | some p =>
        obtain ⟨x, src, lk⟩ := p
        dsimp only
        cases okSrc src lk <;> cases dom x <;> simp
  quiet := false
  qok h := by simp at h

theorem hdS_ok {P : Program} {f : FuncId} {np : Nat} {ss ss1 : List Slot} {Ts : List Ty} {dom : Sl ss → Bool} {F : Sl ss → Ar Ts × Sl ss1} (hbs : leB (ssB ss1) (ssB ss) = true)
    (hF : FnS P f np ss ss1 Ts fun x => bif dom x then some (F x) else none) : HdOk P f (hdS np ss ss1 Ts dom F hbs).sem := by
  intro G h w vs vals r h' hs hv he
  simp only [hdS] at he
  cases hlen : Nat.beq vs.length np with
  | false => rw [hlen] at he; simp at he
  | true =>
    rw [hlen] at he
    simp only [cond_true] at he
    split at he
    · rename_i x src lk hrd
      cases hok : okSrc src lk && dom x with
      | false => rw [hok] at he; simp at he
      | true =>
        rw [hok] at he
        simp only [cond_true, Option.some.injEq, Prod.mk.injEq] at he
        obtain ⟨rfl, rfl⟩ := he
        simp only [Bool.and_eq_true] at hok
        have hsim : Sim G { tmps := vs, heap := h } { tmps := vals, defers := [] } w := ⟨hs, hv, rfl⟩
        obtain ⟨G1, s1, e1, n1, r1, live, len, own⟩ := rd_own hsim hrd hok.1
        have hnp : vals.toList.length = np := by rw [← hv.1]; exact Nat.eq_of_beq_eq_true hlen
        refine (hF G1.fr w (locOf G1 src) x vals (F x).1 (F x).2 hnp own (by dsimp only; rw [hok.2]; rfl)).mono fun e w' hp => ?_
        obtain ⟨v, fr', loc', rfl, h1, own', go⟩ := hp
        obtain ⟨G2, s2, e2, f2, N2⟩ := put_back s1 live (fun i hi => rdSs_box hrd len (leB_at hbs hi)) go own'
        obtain ⟨us, k1, k2⟩ := h1
        refine ⟨v, G2, rfl, ?_, s2, e1.trans e2⟩
        rw [k2]
        rw [← f2] at k1
        exact resV_rep (argsA_rep (G := G2) k1)
    · simp at he

theorem fnS_tree {P : Program} {C : Cfg} (hC : CfgOk P C) {f : FuncId} {fn : Func} (hf : P.funcs[f]? = some fn) {n np : Nat} {ss ss1 : List Slot} {Ts : List Ty} {R : Type} [Inhabited R] {t : Sl ss → Tr R} {mk : R → Ar Ts × Sl ss1} {dom : Sl ss → Bool}
    (hbs : leB (ssB ss1) (ssB ss) = true) (hrun : ∀ x, runF C n f fn (mkT id ss x 0 (List.replicate np .top)) (mkH id ss x 0) (endS Ts ss1) = (t x).optA mk) (hdom : ∀ x, ((t x).ok = true ∧ dom x = true) ∨ dom x = (t x).dom) :
    FnS P f np ss ss1 Ts (fun x => bif dom x then some (mk (t x).val) else none) := by
  have h := fnS_of hC hf hbs hrun
  have e : (fun x => (t x).optA mk) = fun x => bif dom x then some (mk (t x).val) else none := funext fun x => by
    rw [Tr.optA_dom]
    rcases hdom x with ⟨h1, h2⟩ | h1
    · rw [Tr.dom_ok _ h1, h2]
    · rw [h1]
  rw [e] at h
  exact h

/-- The contract of a function that has been run over some arguments. -/
theorem fn_le {P : Program} {C : Cfg} (hC : CfgOk P C) {f : FuncId} {fn : Func} (hf : P.funcs[f]? = some fn) {n : Nat} {As Ts : List Ty} {F : Ar As → Option (Ar Ts)}
    (hrun : ∀ x r, F x = some r → runF C n f fn (argsA As x) [] (fun v h => toRes h Ts v) = some r) : FnOk P f As Ts F := by
  intro fr w x vals r hx hF
  replace hF := hrun x r hF
  unfold runF at hF
  split at hF
  · rename_i body hb
    rw [run_eq] at hF
    obtain ⟨⟨e, s'⟩, hrun, hF⟩ := Option.bind_eq_some_iff.1 hF
    have hs : SimH _ _ w := sim_start fr w
    have hv := argsA_rep (G := ⟨0, fun _ => undef, fun _ => 0, fun _ => none, fr⟩) hx
    have hsz : (argsA As x).length = vals.size := by simpa using hv.1
    refine calls_of_wp hf hb ?_
    have hs0 : Sim ⟨0, fun _ => undef, fun _ => 0, fun _ => none, fr⟩ { tmps := argsA As x ++ List.replicate (fn.ntmps - (argsA As x).length) .top, heap := [] } { tmps := vals ++ Array.replicate (fn.ntmps - vals.size) undef, defers := [] } w := by
      refine ⟨hs, ?_, rfl⟩
      have : (vals ++ Array.replicate (fn.ntmps - vals.size) undef).toList = vals.toList ++ List.replicate (fn.ntmps - (argsA As x).length) undef := by simp [hsz]
      rw [this]
      refine hv.append ⟨by simp, fun i c v hc hv => ?_⟩
      rw [List.getElem?_replicate] at hc
      split at hc
      · simp only [Option.some.injEq] at hc; subst hc; exact .top _
      · simp at hc
    refine (run_ok hC n f body _ e s' hrun (fun id L b hL hb' => hC.loops f fn id L body b hL hf hb hb') _ _ w _ hs0 fun G' a' w' hs' he' => ?_).1
    have fin : ∀ us, resA C s'.heap s'.tmps fn.results.toList = some us → toRes s'.heap Ts (resV us) = some r → a'.defers = [] ∧ ∃ v, (results fn a'.tmps).run P w' = .ok v w' ∧
        ∃ v' fr', Ending.returned v = .returned v' ∧ ResDV fr' w' Ts r v' ∧ Below w.heap.size w w' ∧ (∀ a : Addr, w'.frozen? a = w.frozen? a) ∧ ∀ B o, B < w.heap.size → (fr' B o ↔ fr B o) := by
      intro us hres hto
      obtain ⟨v, q1, q2⟩ := results_ok hC hs'.h hs'.tmps hres
      obtain ⟨G2, s2, e2, n2, d2⟩ := lockS (idsRes (resV us)) hs'.h
      have hfin := he'.trans e2
      exact ⟨hs'.dfr, v, q1, v, G2.fr, rfl, toRes_rep (q2.mono e2) d2 hto, hfin.below fun _ => rfl, hfin.fz, fun B o hB => (hfin.blocks B hB rfl).2.2 o⟩
    cases e with
    | normal =>
      dsimp only at hF
      split at hF
      · rename_i us hres; exact fin us hres hF
      · simp at hF
    | ret =>
      dsimp only at hF
      split at hF
      · rename_i us hres; exact fin us hres hF
      · simp at hF
    | _ => simp at hF
  · simp at hF

/-- A function, run at one number in the first place. -/
theorem fn_lit {P : Program} {C : Cfg} (hC : CfgOk P C) {f : FuncId} {fn : Func} (hf : P.funcs[f]? = some fn) {n : Nat} {k : IntKind} {As Ts : List Ty} {R : Type} [Inhabited R] {t : Ar As → Tr R} {mk : R → Ar Ts} (v : Int)
    (hrun : ∀ y : Ar As, runF C n f fn (argsA (.int k :: As) (v, y)) [] (fun v h => toRes h Ts v) = (t y).optA mk) (hok : ∀ y, (t y).ok = true) : FnOk P f (.int k :: As) Ts (fun x => if x.1 = v then some (mk (t x.2).val) else none) := by
  refine fn_le hC hf (n := n) fun x r hr => ?_
  obtain ⟨x1, x2⟩ := x
  dsimp only at hr
  split at hr
  · rename_i e
    subst e
    rw [hrun x2, Tr.optA_val mk _ (hok x2)]
    exact hr
  · simp at hr

/-- Two contracts of one function. -/
theorem fn_or {P : Program} {f : FuncId} {As Ts : List Ty} {F F1 F2 : Ar As → Option (Ar Ts)} (h1 : FnOk P f As Ts F1) (h2 : FnOk P f As Ts F2) (h : ∀ x r, F x = some r → F1 x = some r ∨ F2 x = some r) : FnOk P f As Ts F :=
  fun fr w x vals r hx hF => (h x r hF).elim (h1 fr w x vals r hx) (h2 fr w x vals r hx)

end Go.RX

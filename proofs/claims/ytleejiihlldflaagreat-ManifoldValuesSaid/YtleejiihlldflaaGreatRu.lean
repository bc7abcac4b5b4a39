/-
  Trees of results; configurations out of contracts.
-/
import Derived.Test.YtleejiihlldflaaGreatRt
namespace Go.RX
open Go.RowKit

inductive Tr (R : Type) where
  | leaf (r : R) | br (c : Bool) (a b : Tr R) | fail

def Tr.may {A R : Type} (o : Option A) (k : A → Tr R) : Tr R :=
  match o with
  | some a => k a
  | none => .fail

def Tr.optA {R S : Type} (mk : R → S) : Tr R → Option S
  | .leaf r => some (mk r)
  | .br c a b => bif c then a.optA mk else b.optA mk
  | .fail => none

def Tr.ok {R : Type} : Tr R → Bool
  | .leaf _ => true
  | .br _ a b => a.ok && b.ok
  | .fail => false

def Tr.val {R : Type} [Inhabited R] : Tr R → R
  | .leaf r => r
  | .br c a b => bif c then a.val else b.val
  | .fail => default

theorem Tr.optA_val {R S : Type} [Inhabited R] (mk : R → S) : ∀ t : Tr R, t.ok = true → t.optA mk = some (mk t.val)
  | .leaf r, _ => rfl
  | .br c a b, h => by
    simp only [Tr.ok, Bool.and_eq_true] at h
    have h1 := Tr.optA_val mk a h.1
    have h2 := Tr.optA_val mk b h.2
    cases c
    · simpa [Tr.optA, Tr.val] using h2
    · simpa [Tr.optA, Tr.val] using h1
  | .fail, h => by simp [Tr.ok] at h

/-- Whether a tree comes to a result. -/
def Tr.dom {R : Type} : Tr R → Bool
  | .leaf _ => true
  | .br c a b => bif a.ok && b.ok then true else (bif c then a.dom else b.dom)
  | .fail => false

theorem Tr.dom_ok {R : Type} : ∀ t : Tr R, t.ok = true → t.dom = true
  | .leaf _, _ => rfl
  | .br c a b, h => by
    have h' : (a.ok && b.ok) = true := h
    simp [Tr.dom, h']
  | .fail, h => by simp [Tr.ok] at h

theorem Tr.optA_dom {R S : Type} [Inhabited R] (mk : R → S) : ∀ t : Tr R, t.optA mk = bif t.dom then some (mk t.val) else none
  | .leaf r => rfl
  | .br c a b => by
    cases h : (a.ok && b.ok) with
    | true =>
      have h' : (Tr.br c a b).ok = true := h
      rw [Tr.optA_val mk _ h', Tr.dom_ok _ h']
      rfl
    | false =>
      have h1 := Tr.optA_dom mk a
      have h2 := Tr.optA_dom mk b
      simp only [Tr.optA, Tr.dom, h, cond_false, Tr.val]
      cases c
      · simpa using h2
      · simpa using h1
  | .fail => rfl

def guardHd (As Ts : List Ty) (dom : Ar As → Bool) (g : Ar As → Ar Ts) : Hd where
  sem := (dataHd As Ts fun x => bif dom x then some (g x) else none).sem
  cps vs h K := match toArgs h As vs with
    | some x => bif dom x then K (resV (argsA Ts (g x))) (lockAll (idsOf vs) h) else none
    | none => none
  ok vs h K := by
    simp only [dataHd]
    cases toArgs h As vs with
    | none => rfl
    | some x => dsimp only; cases hd : dom x <;> simp
  quiet := true
  qok := (dataHd As Ts fun x => bif dom x then some (g x) else none).qok

def FnsOk (P : Program) (l : List (Nat × Hd)) : Prop := ∀ f H, look l f = some H → HdOk P f H.sem ∧ Enters P f

theorem fns_nil (P : Program) : FnsOk P [] := fun f H h => by simp [look] at h

theorem fns_cons {P : Program} {f : FuncId} {H : Hd} {l : List (Nat × Hd)} (h : HdOk P f H.sem ∧ Enters P f) (hl : FnsOk P l) : FnsOk P ((f, H) :: l) := by
  intro g H' hh
  simp only [look] at hh
  cases hb : Nat.beq f g with
  | true =>
    rw [hb] at hh
    simp only [cond_true, Option.some.injEq] at hh
    subst hh
    rw [← Nat.eq_of_beq_eq_true hb]
    exact h
  | false => rw [hb] at hh; exact hl g H' hh

def mkC (tys : List (Nat × TRow)) (eqs : List (Nat × (Bool × List TK))) (fns : List (Nat × Hd)) (inl : List (Nat × Func)) (loops : FuncId → Nat → Option LH) : Cfg :=
  { ty := look tys, eqs := look eqs, fns := look fns, inl := look inl, loops := loops }

/-- Functions that a run goes into. -/
def InlOk (P : Program) (l : List (Nat × Func)) : Prop := ∀ f fn, look l f = some fn → P.funcs[f]? = some fn ∧ (fn.name == "runtime.NumGoroutine") = false

theorem inl_nil (P : Program) : InlOk P [] := fun f H h => by simp [look] at h
theorem inl_cons {P : Program} {f : FuncId} {fn : Func} {l : List (Nat × Func)} (h : P.funcs[f]? = some fn) (hn : (fn.name == "runtime.NumGoroutine") = false) (hl : InlOk P l) : InlOk P ((f, fn) :: l) := by
  intro g H' hh
  simp only [look] at hh
  cases hb : Nat.beq f g with
  | true =>
    rw [hb] at hh
    simp only [cond_true, Option.some.injEq] at hh
    subst hh
    rw [← Nat.eq_of_beq_eq_true hb]
    exact ⟨h, hn⟩
  | false => rw [hb] at hh; exact hl g H' hh

theorem mkC_ok {P : Program} {tys : List (Nat × TRow)} {eqs : List (Nat × (Bool × List TK))} {fns : List (Nat × Hd)} {inl : List (Nat × Func)} {loops : FuncId → Nat → Option LH} (ht : tableOk P tys = true) (he : eqsOk P eqs = true)
    (hf : FnsOk P fns) (hi : InlOk P inl)
    (hl : ∀ f fn id L c body, loops f id = some L → P.funcs[f]? = some fn → fn.body = some c → body ∈ blocksIn id c → LoopOk P L id body) (hm : P.follows .mixedOrders = true) : CfgOk P (mkC tys eqs fns inl loops) :=
  ⟨fun t r h => tableOk_ok ht t r h, fun t x h => eqsOk_ok he t x h, hf, hi, hl, hm⟩

def noLoops : FuncId → Nat → Option LH := fun _ _ => none
theorem noLoops_ok {P : Program} : ∀ f fn id L c body, noLoops f id = some L → P.funcs[f]? = some fn → fn.body = some c → body ∈ blocksIn id c → LoopOk P L id body := fun f fn id L c body h => by simp [noLoops] at h

theorem fn_tot {P : Program} {C : Cfg} (hC : CfgOk P C) {f : FuncId} {fn : Func} (hf : P.funcs[f]? = some fn) {n : Nat} {As Ts : List Ty} {R : Type} [Inhabited R] {t : Ar As → Tr R} {mk : R → Ar Ts}
    (hrun : ∀ x, runF C n f fn (argsA As x) [] (fun v h => toRes h Ts v) = (t x).optA mk) (hok : ∀ x, (t x).ok = true) : FnOk P f As Ts (fun x => some (mk (t x).val)) := by
  have h := fn_ok hC hf hrun
  have e : (fun x => (t x).optA mk) = fun x => some (mk (t x).val) := funext fun x => Tr.optA_val mk _ (hok x)
  rw [e] at h
  exact h

theorem fn_part {P : Program} {C : Cfg} (hC : CfgOk P C) {f : FuncId} {fn : Func} (hf : P.funcs[f]? = some fn) {n : Nat} {As Ts : List Ty} {R : Type} [Inhabited R] {t : Ar As → Tr R} {mk : R → Ar Ts}
    (hrun : ∀ x, runF C n f fn (argsA As x) [] (fun v h => toRes h Ts v) = (t x).optA mk) : FnOk P f As Ts (fun x => bif (t x).dom then some (mk (t x).val) else none) := by
  have h := fn_ok hC hf hrun
  have e : (fun x => (t x).optA mk) = fun x => bif (t x).dom then some (mk (t x).val) else none := funext fun x => Tr.optA_dom mk _
  rw [e] at h
  exact h

theorem guard_ok {P : Program} {f : FuncId} {fn : Func} {As Ts : List Ty} {dom : Ar As → Bool} {g : Ar As → Ar Ts} (hF : FnOk P f As Ts (fun x => bif dom x then some (g x) else none)) (hf : P.funcs[f]? = some fn)
    (hb : fn.body.isNone = false) (hn : (fn.name == "runtime.NumGoroutine") = false) :
    HdOk P f (guardHd As Ts dom g).sem ∧ Enters P f := ⟨dataHd_ok hF, fn, hf, hb, hn⟩

theorem data_ok {P : Program} {f : FuncId} {fn : Func} {As Ts : List Ty} {F : Ar As → Option (Ar Ts)} (hF : FnOk P f As Ts F) (hf : P.funcs[f]? = some fn) (hb : fn.body.isNone = false) (hn : (fn.name == "runtime.NumGoroutine") = false) :
    HdOk P f (dataHd As Ts F).sem ∧ Enters P f := ⟨dataHd_ok hF, fn, hf, hb, hn⟩

/- THE END: a law that answers one bool. -/

theorem fn_bool {P : Program} {f : FuncId} {As : List Ty} {F : Ar As → Bool} (h : FnOk P f As [.bool] (fun x => some (F x, ()))) {w : World} {x : Ar As} {vals : Array Value} (hx : ArgsDV (fun _ _ => False) w As x vals.toList)
    (ht : F x = true) : Calls P f vals w fun e w' => e = .returned (.bool true) ∧ Below w.heap.size w w' ∧ ∀ a : Addr, w'.frozen? a = w.frozen? a := by
  refine (h (fun _ _ => False) w x vals _ hx rfl).mono fun e w' hp => ?_
  obtain ⟨v, fr', rfl, ⟨us, ⟨u, us', rfl, h1, h2⟩, rfl⟩, h3, h4, _⟩ := hp
  obtain rfl : us' = [] := h2
  obtain h1 : [u] = [Value.bool (F x)] := h1
  simp only [List.cons.injEq, and_true] at h1
  subst h1
  rw [ht]
  exact ⟨rfl, h3, h4⟩

theorem args_nil {fr : Nat → Nat → Prop} {w : World} : ArgsDV fr w [] () [] := rfl
theorem args_int {fr : Nat → Nat → Prop} {w : World} {k : IntKind} {n : Int} {ts : List Ty} {x : Ar ts} {vs : List Value} (h : ArgsDV fr w ts x vs) : ArgsDV fr w (.int k :: ts) (n, x) (.int k n :: vs) := ⟨_, _, rfl, rfl, h⟩
theorem args_bool {fr : Nat → Nat → Prop} {w : World} {b : Bool} {ts : List Ty} {x : Ar ts} {vs : List Value} (h : ArgsDV fr w ts x vs) : ArgsDV fr w (.bool :: ts) (b, x) (.bool b :: vs) := ⟨_, _, rfl, rfl, h⟩

end Go.RX

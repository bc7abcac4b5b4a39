/-
  Loops, put into configurations.
-/
import Derived.Test.YtleejiihlldflaaGreatSb
namespace Go.RX
open Go.RowKit

def loopBody (id : Nat) (c : Code) : Code :=
  match blocksIn id c with
  | .loop b :: _ => b
  | _ => .skip

theorem blocksIn_sub {id i : Nat} {b x : Code} (hx : x ∈ blocksIn i b) : ∀ {c : Code}, Code.loop b ∈ blocksIn id c → x ∈ blocksIn i c
  | .seq p q, h => by
    simp only [blocksIn, List.mem_append] at h ⊢
    exact h.elim (fun h => .inl (blocksIn_sub hx h)) (fun h => .inr (blocksIn_sub hx h))
  | .cond _ p q, h => by
    simp only [blocksIn, List.mem_append] at h ⊢
    exact h.elim (fun h => .inl (blocksIn_sub hx h)) (fun h => .inr (blocksIn_sub hx h))
  | .block k body, h => by
    simp only [blocksIn] at h ⊢
    have key : Code.loop b ∈ blocksIn id body ∨ body = .loop b := by
      cases hk : Nat.beq k id with
      | true => rw [hk] at h; simp only [cond_true, List.mem_cons] at h; exact h.elim (fun e => .inr e.symm) .inl
      | false => rw [hk] at h; exact .inl h
    have hin : x ∈ blocksIn i body := by
      rcases key with h | rfl
      · exact blocksIn_sub hx h
      · exact hx
    cases Nat.beq k i with
    | true => exact List.mem_cons_of_mem _ hin
    | false => exact hin
  | .loop body, h => by
    simp only [blocksIn] at h ⊢
    exact blocksIn_sub hx h
  | .skip, h => by simp [blocksIn] at h
  | .ret, h => by simp [blocksIn] at h
  | .exit _, h => by simp [blocksIn] at h
  | .region _ _ _, h => by simp [blocksIn] at h
  | .goto _, h => by simp [blocksIn] at h
  | .rangeFunc _ _ _ _, h => by simp [blocksIn] at h
  | .scope _, h => by simp [blocksIn] at h
  | .label _, h => by simp [blocksIn] at h
  | .refuse _, h => by simp [blocksIn] at h

def LoopsOk (P : Program) (l : FuncId → Nat → Option LH) : Prop :=
  ∀ f fn id L c body, l f id = some L → P.funcs[f]? = some fn → fn.body = some c → body ∈ blocksIn id c → LoopOk P L id body

def lpOne (f id : Nat) (L : LH) (rest : FuncId → Nat → Option LH) : FuncId → Nat → Option LH :=
  fun g i => bif Nat.beq f g && Nat.beq id i then some L else rest g i

theorem lpOne_ok {P : Program} {f : FuncId} {fn : Func} {id : Nat} {L : LH} {b : Code} {rest : FuncId → Nat → Option LH} (hf : P.funcs[f]? = some fn) (hb : blocksIn id (fn.body.getD .skip) = [.loop b]) (hL : LoopOk P L id (.loop b)) (hr : LoopsOk P rest) :
    LoopsOk P (lpOne f id L rest) := by
  intro g gn i L' c body hl hg hc hm
  unfold lpOne at hl
  cases hk : Nat.beq f g && Nat.beq id i with
  | false => rw [hk] at hl; exact hr g gn i L' c body hl hg hc hm
  | true =>
    rw [hk] at hl
    simp only [cond_true, Option.some.injEq] at hl
    subst hl
    simp only [Bool.and_eq_true, Nat.beq_eq] at hk
    obtain ⟨rfl, rfl⟩ := hk
    rw [hf] at hg
    simp only [Option.some.injEq] at hg
    subst hg
    rw [hc] at hb
    simp only [Option.getD_some] at hb
    rw [hb] at hm
    simp only [List.mem_singleton] at hm
    rw [hm]; exact hL

theorem Tr.optA_mk {R S : Type} (mk : R → S) : ∀ t : Tr R, t.optA mk = match t.optA id with
    | some r => some (mk r)
    | none => none
  | .leaf r => rfl
  | .br c a b => by
    simp only [Tr.optA]
    cases c
    · exact Tr.optA_mk mk b
    · exact Tr.optA_mk mk a
  | .fail => rfl

section
variable {P : Program} {C : Cfg}

theorem turns_of {n : Nat} {cur : FuncId} {b : Code} {ss : List Slot} {os : List (Exit × List Slot)} {nt : Nat} {kp : List Nat} {fx : List (Nat × FT)} {t : Sl ss → Tr (Sl ss ⊕ Outs os)}
    (h : ∀ (x : Sl ss) (vs : Nat → Value), run C n cur b (mkSt ss x (baseT nt kp fx vs)) (endK ss os nt kp) = (t x).optA fun r => (r, kp.map (keptA fx vs))) : Turns C n cur b ss os nt kp fx fun x => (t x).optA id := by
  intro x vs
  rw [h x vs, Tr.optA_mk]
  dsimp only
  cases (t x).optA id <;> rfl

theorem loop_in (hC : CfgOk P C) {D : LoopD} {id : Nat} {n : Nat} {cur : FuncId} {fn : Func} {b : Code} (hf : P.funcs[cur]? = some fn) (hb : blocksIn id (fn.body.getD .skip) = [.loop b]) (ht : Turns C n cur b D.ss D.os D.nt D.kp D.fx D.step) (hw : fxWf D.ss D.kp D.fx = true)
    (hos : (D.os.all fun o => leB (ssB o.2) (ssB D.ss)) = true) (hne : (D.os.all fun o => match o.1 with
      | .normal => false
      | _ => true) = true) : LoopOk P (loopLH D id) id (.loop b) := by
  refine loop_ok hC ht hw (fun i L body h1 h2 => ?_) hos fun e ss' hm he => ?_
  · cases hbd : fn.body with
    | none => rw [hbd] at hb; simp [blocksIn] at hb
    | some c =>
      rw [hbd] at hb
      exact hC.loops cur fn i L c body h1 hf hbd (blocksIn_sub h2 (by rw [show blocksIn id c = _ from hb]; simp))
  · have := List.all_eq_true.1 hne _ hm
    rw [he] at this
    simp at this

end

/-- Enough rounds for any loop of the program. -/
def rounds : Nat := 9223372036854775807

/-- A loop by its step. -/
def mkLoop (ss : List Slot) (os : List (Exit × List Slot)) (nt : Nat) (kp : List Nat) (fx : List (Nat × FT)) (step : Sl ss → Option (Sl ss ⊕ Outs os)) (dom : Sl ss → Bool) (val : Sl ss → Outs os)
    (hv : ∀ x, loopN step rounds x = bif dom x then some (val x) else none) : LoopD := ⟨ss, os, nt, kp, fx, step, fun _ => rounds, dom, val, hv⟩

theorem loop_hv {X Y : Type} [Inhabited Y] (step : X → Option (X ⊕ Y)) (x : X) : loopN step rounds x = bif (loopN step rounds x).isSome then some ((loopN step rounds x).getD default) else none := by
  cases loopN step rounds x <;> rfl

/- ROUNDS -/

theorem loopN_mono {X Y : Type} {step : X → Option (X ⊕ Y)} : ∀ {n m : Nat} {x : X} {y : Y}, n ≤ m → loopN step n x = some y → loopN step m x = some y
  | 0, _, _, _, _, h => by simp [loopN] at h
  | n + 1, 0, _, _, hm, _ => by omega
  | n + 1, m + 1, x, y, hm, h => by
    simp only [loopN] at h ⊢
    cases hs : step x with
    | none => rw [hs] at h; simp at h
    | some r =>
      rw [hs] at h
      cases r with
      | inl x' => exact loopN_mono (by omega) h
      | inr y' => exact h

end Go.RX

/-
  The run in continuation style is the run.
-/
import Derived.Test.YtleejiihlldflaaGreatRb
namespace Go.RX

theorem set_self (l : List AV) (t : Nat) (v : AV) (h : l.getD t .top = v) (hv : v ≠ .top) : l.set t v = l := by
  rw [List.getD_eq_getElem?_getD] at h
  cases e : l[t]? with
  | none => rw [e] at h; exact absurd h.symm hv
  | some u =>
    rw [e] at h
    simp only [Option.getD_some] at h
    subst h
    obtain ⟨ht, he⟩ := List.getElem?_eq_some_iff.1 e
    rw [← he]
    exact List.set_getElem_self ht

theorem know_self (s : St) (x : Operand) (b : Bool) (h : evalA s.tmps x = .bool b) : s.know x b = s := by
  cases x with
  | tmp t =>
    simp only [St.know]
    rw [set_self s.tmps t (.bool b) h (by simp)]
  | _ => rfl

section
variable (C : Cfg) {R : Type}

theorem selI_eq (n : Int) (F : Int → Option R) : ∀ (l j : Nat), (¬ ((j : Int) ≤ n ∧ n < (j : Int) + l) → F n = none) → selI n j l F = F n
  | 0, j, h => by
    rw [selI, h (by omega)]
  | l + 1, j, h => by
    rw [selI]
    by_cases e : n = (j : Int)
    · subst e; simp
    · rw [decide_eq_false e, cond_false]
      exact selI_eq n F l (j + 1) fun hn => h (by omega)

theorem arr_out {t : TypeId} {x : AV} {len : Nat} (hl : arrLen C t x = some len) {k : IntKind} {n : Int} (hn : ¬ ((0 : Int) ≤ n ∧ n < len)) (o : Oper) (s : St) (K : St → Foot → Option R) : outK o s (indexA C t x (.int k n) s.heap) K = none := by
  have hg : (decide (0 ≤ n) && decide (n < (len : Int))) = false := by
    rw [← Bool.not_eq_true, Bool.and_eq_true, decide_eq_true_eq, decide_eq_true_eq]; exact hn
  unfold arrLen at hl
  unfold indexA outK
  split at hl
  all_goals first
    | (simp at hl; done)
    | skip
  all_goals
    split at hl
    · rename_i ht
      simp only [Option.some.injEq] at hl
      subst hl
      simp only []
      split <;> first | rfl | skip
      rename_i out ho
      split at ho
      · simp only [Option.some.injEq] at ho
        subst ho
        simp only [hg, cond_false]
      · simp at ho
    · simp at hl

theorem agg_out {t : TypeId} {x : AV} {len : Nat} (hl : aggLen C t x = some len) {k : IntKind} {n : Int} (hn : ¬ (0 ≤ n ∧ n < (len : Int))) (o : Oper) (s : St) (K : St → Foot → Option R) :
    outK o s (indexV C t x (.int k n) s.heap) K = none := by
  have hg : (decide (0 ≤ n) && decide (n < (len : Int))) = false := by
    rw [← Bool.not_eq_true, Bool.and_eq_true, decide_eq_true_eq, decide_eq_true_eq]; exact hn
  unfold aggLen at hl
  split at hl
  · rename_i cs
    split at hl
    · rename_i len' e _ _ _ _ ht
      split at hl
      · rename_i r hr
        obtain ⟨k', sz, by', z, dt⟩ := r
        dsimp only at hl
        unfold indexV
        simp only [ht, hr]
        unfold outK
        cases k' <;> simp only [Option.some.injEq, reduceCtorEq] at hl <;> subst hl <;> dsimp only [isAggK, cond_true, cond_false]
        all_goals first
          | (cases Nat.beq cs.length (len' * sz) with
            | false => rfl
            | true => simp only [cond_true, hg, cond_false])
          | (cases Nat.beq sz 1 && Nat.beq cs.length len' with
            | false => rfl
            | true => simp only [cond_true, hg, cond_false])
      · simp at hl
    · simp at hl
  · simp at hl

theorem outK_eq (o : Oper) (s : St) (out : Option Out) (K : St → Foot → Option R) : outK o s out K = (outF o s out).bind fun p => K p.1 p.2 := by
  cases out with
  | none => rfl
  | some out => unfold outK outF; dsimp only; cases out.g <;> rfl

theorem execK_eq (iK : InlK R) (iF : Inl) (hi : ∀ f vs h K, iK f vs h K = (iF f vs h).bind fun p => K p.1 p.2) (sl : Option Nat) (o : Oper) (s : St) (K : St → Foot → Option R) :
    execK C iK sl o s K = (execF C iF sl o s).bind fun p => K p.1 p.2 := by
  unfold execK execF
  split
  · rename_i c a b hop
    rw [hop]
    dsimp only
    split
    · rename_i v hv
      cases v with
      | true => simp only [cond_true, know_self s c true hv, Option.bind_some]
      | false => simp only [cond_false, know_self s c false hv, Option.bind_some]
    · rfl
  · rename_i f args tys hop
    rw [hop]
    dsimp only
    split
    · rename_i f vs _
      cases hH : C.fns f with
      | some H =>
        dsimp only
        rw [H.ok]
        cases H.sem vs s.heap with
        | none => rfl
        | some p => rfl
      | none =>
        dsimp only
        rw [hi]
        cases iF f vs s.heap with
        | none => rfl
        | some p => rfl
    · rfl
  · rename_i t x i hop
    have hA : aopS C sl (evalA s.tmps) (.indexAddr t x i) s.heap = indexA C t (evalA s.tmps x) (evalA s.tmps i) s.heap := by
      cases sl <;> rfl
    rw [hop]
    dsimp only
    rw [hA, ← outK_eq]
    split
    · rename_i len k n hl hi
      rw [hi, selI_eq]
      intro hn
      exact arr_out C hl (by simpa using hn) o s K
    · rfl
  · rename_i t x i hop
    have hA : aopS C sl (evalA s.tmps) (.index t x i) s.heap = indexV C t (evalA s.tmps x) (evalA s.tmps i) s.heap := by
      cases sl <;> rfl
    rw [hop]
    dsimp only
    rw [hA, ← outK_eq]
    split
    · rename_i len k n hl hi
      rw [hi, selI_eq]
      intro hn
      exact agg_out C hl (by simpa using hn) o s K
    · rfl
  · rename_i h1 h2 h3 h4
    rw [outK_eq]
    split <;> first
      | (rename_i hop; exact (h1 _ _ _ hop).elim)
      | (rename_i hop; exact (h2 _ _ _ hop).elim)
      | rfl

theorem stepK_eq (iK : InlK R) (iF : Inl) (hi : ∀ f vs h K, iK f vs h K = (iF f vs h).bind fun p => K p.1 p.2) (base : Option Nat) (all : List Oper) (i : Nat) (s : St) (K : St → Foot → Option R) :
    stepK C iK base all i s K = (stepF C iF base all i s).bind fun p => K p.1 p.2 := by
  unfold stepK stepF
  cases all[i]? with
  | none => rfl
  | some o =>
    dsimp only
    unfold Oper.want
    cases o.guard with
    | none => dsimp only; exact execK_eq C iK iF hi (slotOf base all i) o s K
    | some p =>
      obtain ⟨j, want⟩ := p
      dsimp only
      cases all[j]? with
      | none => rfl
      | some oj =>
        dsimp only
        cases oj.dst with
        | none => rfl
        | some t =>
          dsimp only
          split
          · rename_i v hv
            have hv' : evalA s.tmps (.tmp t) = .bool v := hv
            cases v <;> cases want <;> simp only [cond_true, cond_false, know_self s (.tmp t) _ hv'] <;>
              first
                | exact execK_eq C iK iF hi (slotOf base all i) o s K
                | rfl
          · rfl
          · rfl
          · rfl

theorem opsK_eq (iK : InlK R) (iF : Inl) (hi : ∀ f vs h K, iK f vs h K = (iF f vs h).bind fun p => K p.1 p.2) (base : Option Nat) (all : List Oper) :
    ∀ (l : List Nat) (s : St) (fs : List (Nat × Foot)) (K : St → List (Nat × Foot) → Option R),
      opsK C iK base all l s fs K = (opsF C iF base all l s).bind fun p => K p.1 (fs ++ p.2)
  | [], s, fs, K => by simp [opsK, opsF]
  | i :: l, s, fs, K => by
    unfold opsK opsF
    rw [stepK_eq C iK iF hi]
    cases stepF C iF base all i s with
    | none => rfl
    | some p =>
      simp only [Option.bind_some]
      rw [opsK_eq iK iF hi base all l]
      cases opsF C iF base all l p.1 with
      | none => rfl
      | some q => simp

theorem regK_eq (iK : InlK R) (iF : Inl) (hi : ∀ f vs h K, iK f vs h K = (iF f vs h).bind fun p => K p.1 p.2) (ops : List Oper) (draw : Bool) (s : St) (K : St → Option R) :
    regK C iK ops draw s K = (regF C iF ops draw s).bind K := by
  unfold regK regF
  rw [opsK_eq C iK iF hi]
  cases opsF C iF (baseOf draw s) ops (List.range ops.length) (s.kept draw ops) with
  | none => rfl
  | some p =>
    simp only [Option.bind_some, List.nil_append]
    cases (!draw || (statOk ops (befL ops []) && feetOk (befL ops []) p.2)) <;> rfl

theorem run_eq : ∀ (n : Nat) (cur : FuncId) (c : Code) (R : Type) (s : St) (K : Exit → St → Option R),
    run C n cur c s K = (runS C n cur c s).bind fun p => K p.1 p.2
  | 0, _, _, _, _, _ => rfl
  | n + 1, cur, c, R, s, K => by
    have ih := run_eq n
    unfold run runS
    cases c with
    | skip => rfl
    | ret => rfl
    | exit id => rfl
    | label l => rfl
    | goto l => rfl
    | refuse w => rfl
    | scope b => rfl
    | rangeFunc f p a b => rfl
    | seq a b =>
      dsimp only
      rw [ih]
      cases runS C n cur a s with
      | none => rfl
      | some p =>
        obtain ⟨e, s'⟩ := p
        cases e <;> simp only [Option.bind_some]
        rw [ih]
    | cond c a b =>
      dsimp only
      split
      · rename_i v hv
        cases v with
        | true => simp only [cond_true, know_self s c true hv]; rw [ih]
        | false => simp only [cond_false, know_self s c false hv]; rw [ih]
      · rfl
    | block id body =>
      dsimp only
      cases C.loops cur id with
      | some L => dsimp only; rw [L.ok]
      | none =>
        dsimp only
        rw [ih]
        cases runS C n cur body s with
        | none => rfl
        | some p =>
          obtain ⟨e, s'⟩ := p
          cases e <;> simp only [Option.bind_some]
          rename_i id'
          cases Nat.beq id' id <;> rfl
    | loop body =>
      dsimp only
      rw [ih]
      cases runS C n cur body s with
      | none => rfl
      | some p =>
        obtain ⟨e, s'⟩ := p
        cases e <;> simp only [Option.bind_some]
        rw [ih]
    | region id ops draw =>
      dsimp only
      rw [regK_eq C _ (fun f vs h => match C.inl f with
        | some fn => match fn.body with
          | some body => match runS C n f body { tmps := vs ++ List.replicate (fn.ntmps - vs.length) .top, heap := h } with
            | some (e, s') => match e with
              | .normal | .ret => match resA C s'.heap s'.tmps fn.results.toList with
                | some vs => some (resV vs, s'.heap)
                | none => none
              | _ => none
            | none => none
          | none => none
        | none => none)]
      · cases regF C _ ops.toList draw s <;> rfl
      · intro f vs h K0
        cases C.inl f with
        | none => rfl
        | some fn =>
          dsimp only
          cases fn.body with
          | none => rfl
          | some body =>
            dsimp only
            rw [ih]
            cases runS C n f body { tmps := vs ++ List.replicate (fn.ntmps - vs.length) .top, heap := h } with
            | none => rfl
            | some p =>
              obtain ⟨e, s'⟩ := p
              cases e <;> simp only [Option.bind_some] <;> first | rfl | skip
              all_goals
                generalize resA C s'.heap s'.tmps fn.results.toList = r
                cases r <;> rfl

end
end Go.RX

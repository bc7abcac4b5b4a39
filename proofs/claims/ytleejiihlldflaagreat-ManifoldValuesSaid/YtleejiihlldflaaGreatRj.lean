/-
  The operations, third part: arithmetic, comparison, min and max, lengths, building.
-/
import Derived.Test.YtleejiihlldflaaGreatRi
namespace Go.RX

section
variable {P : Program} {G : Gh} {w : World} {h : List HObj}

theorem eqGuard_off {op : BinOp} {t : TypeId} {x y : Operand} {a b : Value} (hop : op ≠ .eql ∧ op ≠ .neq) : (eqGuard op t x y a b).run P w = .ok () w := by
  cases op <;> simp_all [eqGuard]

theorem eqGuard_int {op : BinOp} {t : TypeId} {x y : Operand} {k k' : IntKind} {a b : Int} : (eqGuard op t x y (.int k a) (.int k' b)).run P w = .ok () w := by
  cases op <;> simp [eqGuard]

theorem eqGuard_str {op : BinOp} {t : TypeId} {x y : Operand} {a b : ByteArray} : (eqGuard op t x y (.string a) (.string b)).run P w = .ok () w := by
  cases op <;> simp [eqGuard]

theorem eqGuard_agg {op : BinOp} {t : TypeId} {x y : Operand} {a b : Array Value} (he : P.eqGuardType P.depth t = false) : (eqGuard op t x y (.agg a) (.agg b)).run P w = .ok () w := by
  cases op <;> simp [eqGuard, he]

theorem eqGuard_bool {op : BinOp} {t : TypeId} {x y : Operand} {a b : Bool} : (eqGuard op t x y (.bool a) (.bool b)).run P w = .ok () w := by
  cases op <;> simp [eqGuard]

theorem cmpI_ok {op : BinOp} {a b : Int} {c : Bool} (h : cmpI op a b = some c) (hop : op ≠ .eql ∧ op ≠ .neq) (k : IntKind) (t : TypeId) : (binOp op t (.int k a) (.int k b)).run P w = .ok (.bool c) w := by
  cases op <;> simp [cmpI] at h <;> simp_all [binOp, Op.intCmp]

theorem eq_other {t : TypeId} {a b : Value} (h1 : ∀ k x k' y, ¬ (a = .int k x ∧ b = .int k' y)) (h2 : ∀ x y, ¬ (a = .string x ∧ b = .string y))
    (h3 : (∃ x, a = .agg x) ∨ (∃ x, a = .bool x)) (h4 : (∃ x, b = .agg x) ∨ (∃ x, b = .bool x)) (c : Bool) (he : (Op.equal t a b).run P w = .ok c w) :
    (binOp .eql t a b).run P w = .ok (.bool c) w ∧ (binOp .neq t a b).run P w = .ok (.bool (!c)) w := by
  rcases h3 with ⟨x, rfl⟩ | ⟨x, rfl⟩ <;> rcases h4 with ⟨y, rfl⟩ | ⟨y, rfl⟩ <;> simp [binOp, he]

theorem eqVals_form {ks : List TK} {ag : Bool} {x y : AV} {b : Bool} (he : eqVals ks ag x y = some b) :
    (∃ cs ds, x = .agg cs ∧ y = .agg ds) ∨ (∃ k m n, x = .int k m ∧ y = .int k n) ∨ (∃ m n, x = .bool m ∧ y = .bool n) ∨ (∃ m n, x = .str m ∧ y = .str n) := by
  cases ag with
  | true => cases x <;> cases y <;> simp [eqVals] at he; exact .inl ⟨_, _, rfl, rfl⟩
  | false =>
    have he' : eqCells ks [x] [y] = some b := by cases x <;> cases y <;> exact he
    cases ks with
    | nil => simp [eqCells] at he'
    | cons k ks =>
      cases k <;> cases x <;> cases y <;> simp [eqCells] at he'
      · exact .inr (.inl ⟨_, _, _, by rw [he'.1.1], by rw [he'.1.2]⟩)
      · exact .inr (.inr (.inl ⟨_, _, rfl, rfl⟩))
      · exact .inr (.inr (.inr ⟨_, _, rfl, rfl⟩))

theorem bin_ok {C : Cfg} (hE : ∀ t x, C.eqs t = some x → eqOk P t x = true) (s : SimH G h w) {op : BinOp} {t : TypeId} {x y : AV} {vx vy : Value} (ox oy : Operand) (hx : Rep G w x vx) (hy : Rep G w y vy) {out : Out}
    (ho : binA C op t x y h = some out) (hg : out.g = true) : OpOk P G w (do eqGuard op t ox oy vx vy; binOp op t vx vy) out.v out.h ∧ out.h = h := by
  have eqs : ∀ {ag : Bool} {ks : List TK} {c : Bool}, C.eqs t = some (ag, ks) → eqVals ks ag x y = some c → (∀ k m n, ¬ (x = .int k m ∧ y = .int k n)) → (∀ m n, ¬ (x = .str m ∧ y = .str n)) →
      (Sem.run P (do eqGuard .eql t ox oy vx vy; binOp .eql t vx vy) w = .ok (.bool c) w) ∧ (Sem.run P (do eqGuard .neq t ox oy vx vy; binOp .neq t vx vy) w = .ok (.bool (!c)) w) := by
    intro ag ks c h1 h2 h3 h4
    obtain ⟨e1, e2⟩ := equal_ok (hE t _ h1) hx hy h2
    rcases eqVals_form h2 with ⟨cs, ds, rfl, rfl⟩ | ⟨k, m, n, rfl, rfl⟩ | ⟨m, n, rfl, rfl⟩ | ⟨m, n, rfl, rfl⟩
    · cases hx; cases hy
      obtain ⟨r1, r2⟩ := eq_other (P := P) (w := w) (t := t) (a := .agg _) (b := .agg _) (by simp) (by simp) (.inl ⟨_, rfl⟩) (.inl ⟨_, rfl⟩) c e1
      simp only [Sem.run_bind, eqGuard_agg e2, Result.andThen_ok]
      exact ⟨r1, r2⟩
    · exact absurd ⟨rfl, rfl⟩ (h3 k m n)
    · cases hx; cases hy
      obtain ⟨r1, r2⟩ := eq_other (P := P) (w := w) (t := t) (a := .bool m) (b := .bool n) (by simp) (by simp) (.inr ⟨_, rfl⟩) (.inr ⟨_, rfl⟩) c e1
      simp only [Sem.run_bind, eqGuard_bool, Result.andThen_ok]
      exact ⟨r1, r2⟩
    · exact absurd ⟨rfl, rfl⟩ (h4 m n)
  unfold binA at ho
  split at ho
  · split at ho
    · simp only [Option.some.injEq] at ho; subst ho
      cases hx; cases hy
      have hb : (0 : Int) ≤ _ := of_decide_eq_true hg
      refine ⟨opOk_pure (u := .int _ _) ?_ (.int _ _) s, rfl⟩
      simp only [Sem.run_bind, eqGuard_int, Result.andThen_ok, binOp, Op.shift]
      rw [if_neg (by omega)]; rfl
    · simp at ho
  · split at ho
    · simp only [Option.some.injEq] at ho; subst ho
      cases hx; cases hy
      have hb : (0 : Int) ≤ _ := of_decide_eq_true hg
      refine ⟨opOk_pure (u := .int _ _) ?_ (.int _ _) s, rfl⟩
      simp only [Sem.run_bind, eqGuard_int, Result.andThen_ok, binOp, Op.shift]
      rw [if_neg (by omega)]; rfl
    · simp at ho
  · split at ho
    · rename_i k a k' b
      split at ho
      · rename_i hk
        simp only [Option.some.injEq] at ho; subst ho
        cases hx; cases hy
        subst hk
        refine ⟨opOk_pure (u := .bool _) ?_ (.bool _) s, rfl⟩
        simp only [Sem.run_bind, eqGuard_int, Result.andThen_ok]
        simp only [binOp, Op.intCmp, ne_eq, not_true_eq_false, if_false]
        rfl
      · simp at ho
    · simp only [Option.some.injEq] at ho; subst ho
      cases hx; cases hy
      refine ⟨opOk_pure (u := .bool _) ?_ (.bool _) s, rfl⟩
      simp only [Sem.run_bind, eqGuard_str, Result.andThen_ok]
      simp [binOp, Op.stringOp]
    · rename_i hn1 hn2
      split at ho
      · rename_i ag ks hq
        split at ho
        · rename_i c hc
          simp only [Option.some.injEq] at ho; subst ho
          exact ⟨opOk_pure (u := .bool c) (eqs hq hc (fun k m n e => hn1 k m k n e.1 e.2) (fun m n e => hn2 m n e.1 e.2)).1 (.bool _) s, rfl⟩
        · simp at ho
      · simp at ho
  · split at ho
    · rename_i k a k' b
      split at ho
      · rename_i hk
        simp only [Option.some.injEq] at ho; subst ho
        cases hx; cases hy
        subst hk
        refine ⟨opOk_pure (u := .bool _) ?_ (.bool _) s, rfl⟩
        simp only [Sem.run_bind, eqGuard_int, Result.andThen_ok]
        simp only [binOp, Op.intCmp, ne_eq, not_true_eq_false, if_false]
        rfl
      · simp at ho
    · simp only [Option.some.injEq] at ho; subst ho
      cases hx; cases hy
      refine ⟨opOk_pure (u := .bool _) ?_ (.bool _) s, rfl⟩
      simp only [Sem.run_bind, eqGuard_str, Result.andThen_ok]
      simp [binOp, Op.stringOp]
    · rename_i hn1 hn2
      split at ho
      · rename_i ag ks hq
        split at ho
        · rename_i c hc
          simp only [Option.some.injEq] at ho; subst ho
          exact ⟨opOk_pure (u := .bool (!c)) (eqs hq hc (fun k m n e => hn1 k m k n e.1 e.2) (fun m n e => hn2 m n e.1 e.2)).2 (.bool _) s, rfl⟩
        · simp at ho
      · simp at ho
  · rename_i h1 h2 h3 h4
    split at ho
    · rename_i k a k' b
      split at ho
      · rename_i hk
        subst hk
        cases hx; cases hy
        split at ho
        all_goals first
          | (simp only [Option.some.injEq] at ho; subst ho
             refine ⟨opOk_pure (u := .int _ _) ?_ (.int _ _) s, rfl⟩
             simp only [Sem.run_bind, eqGuard_int, Result.andThen_ok]
             first
               | (simp [binOp, Op.intArith]; done)
               | (simp [binOp, Op.intBits, bitI]; done)
               | (have hb : ¬ b = 0 := by simpa using hg
                  simp [binOp, Op.intDiv, hb]; done))
          | skip
        rename_i op' _ _ _ _ _ _ _ _ _
        split at ho
        · rename_i c hc
          simp only [Option.some.injEq] at ho; subst ho
          refine ⟨opOk_pure (u := .bool c) ?_ (.bool _) s, rfl⟩
          simp only [Sem.run_bind, eqGuard_int, Result.andThen_ok]
          exact cmpI_ok hc ⟨h3, h4⟩ _ _
        · simp at ho
      · simp at ho
    · simp at ho

end
end Go.RX

/-
  One operation of a region, in a frame.
-/
import Derived.Test.YtleejiihlldflaaGreatRo
namespace Go.RX

section
variable {P : Program}

/-- A call comes to what is said of it. -/
def HdOk (P : Program) (f : FuncId) (sem : List AV → List HObj → Option (AV × List HObj)) : Prop :=
  ∀ (G : Gh) (h : List HObj) (w : World) (vs : List AV) (vals : Array Value) (r : AV) (h' : List HObj), SimH G h w → RepL G w vs vals.toList → sem vs h = some (r, h') →
    Calls P f vals w fun e w' => ∃ v G', e = .returned v ∧ Rep G' w' r v ∧ SimH G' h' w' ∧ Ext G w G' w'

/-- A function with a body that a call enters. -/
def Enters (P : Program) (f : FuncId) : Prop := ∃ fn, P.funcs[f]? = some fn ∧ fn.body.isNone = false ∧ (fn.name == "runtime.NumGoroutine") = false

theorem Sim.put {G : Gh} {s : St} {a : Act} {w : World} (h : Sim G s a w) (d : Option Tmp) {c : AV} {v : Value} (hr : Rep G w c v) : Sim G (s.put d c) (a.put d v) w := by
  cases d with
  | none => exact h
  | some t =>
    refine ⟨h.h, ?_, h.dfr⟩
    have := h.tmps.set hr t
    simpa [St.put, Act.put] using this

theorem Sim.world {G G' : Gh} {s : St} {a : Act} {w w' : World} {h' : List HObj} (h : Sim G s a w) (e : Ext G w G' w') (hs : SimH G' h' w') : Sim G' { s with heap := h' } a w' :=
  ⟨hs, h.tmps.mono e, h.dfr⟩

/-- After an operation: what follows holds in every state that the abstract machine's next state stands for. -/
def Next (G : Gh) (w : World) (s' : St) (K : Act → World → Prop) : Prop := ∀ G' a' w', Sim G' s' a' w' → Ext G w G' w' → K a' w'

theorem exec_ok {C : Cfg} (hC : ∀ t r, C.ty t = some r → TOk P t r) (hE : ∀ t x, C.eqs t = some x → eqOk P t x = true) (hF : ∀ f H, C.fns f = some H → HdOk P f H.sem ∧ Enters P f)
    {inl : Inl} (hI : ∀ f, HdOk P f (inl f) ) (hIe : ∀ f vs h r, inl f vs h = some r → Enters P f) {G : Gh} {s : St} {a : Act} {w : World} (hs : Sim G s a w) {sl : Option Nat} {o : Oper} {s' : St} {ft : Foot}
    (he : execF C inl sl o s = some (s', ft)) {K : Act → World → Prop} {Q : Exit → Act → World → Prop} (hK : Next G w s' K) : o.wp P a w K Q := by
  have hρ : ∀ x, Rep G w (evalA s.tmps x) (a.eval x) := rep_eval hs.tmps
  -- calls of functions
  have hcall : ∀ {f : Operand} {args : Array Operand} {tys : Array TypeId} {g : FuncId} {vs : List AV} {sem : List AV → List HObj → Option (AV × List HObj)} {v : AV} {h' : List HObj},
      o.op = .call { callee := .value f, args, argTypes := tys } → fnOf (evalA s.tmps f) (args.toList.map (evalA s.tmps)) = some (g, vs) → HdOk P g sem → Enters P g → sem vs s.heap = some (v, h') →
      s' = { s with heap := h' : St }.put o.dst v → o.wp P a w K Q := by
    intro f args tys g vs sem v h' hop hfn hh hen hsem hs'
    obtain ⟨fn, hf1, hf2, hf3⟩ := hen
    have hx := hρ f
    unfold fnOf at hfn
    split at hfn
    · rename_i g' first caps hf
      simp only [Option.some.injEq, Prod.mk.injEq] at hfn
      obtain ⟨rfl, rfl⟩ := hfn
      rw [hf] at hx
      generalize hfv : a.eval f = fv at hx
      cases hx
      rename_i va vb hla hra hlb hrb
      have hmap := repL_map hρ args.toList
      have hvals : RepL G w (first ++ args.toList.map (evalA s.tmps) ++ caps) (va ++ args.map a.eval ++ vb).toList := by
        have h1 : RepL G w first va.toList := ⟨by simpa using hla, fun i c v hc hv => hra i c v hc (by simpa using hv)⟩
        have h2 : RepL G w caps vb.toList := ⟨by simpa using hlb, fun i c v hc hv => hrb i c v hc (by simpa using hv)⟩
        have := (h1.append hmap).append h2
        simpa using this
      have hC := hh G s.heap w _ (va ++ args.map a.eval ++ vb) v h' hs.h hvals hsem
      have hrun : (execOp a.eval o).run P w = .ok (.enter g' (va ++ args.map a.eval ++ vb)) w := by
        have n3 : fn.name ≠ "runtime.NumGoroutine" := by simpa using hf3
        have n2 : fn.body ≠ none := by intro e; rw [e] at hf2; simp at hf2
        simp [execOp, hop, resolve, hfv, Deferred.ofValue, invoke, callFunc, hf1, n2, n3]
      unfold Oper.wp
      rw [hrun, Oper.upon_enter]
      refine hC.mono fun e w' hp => ?_
      obtain ⟨u, G', rfl, h1, h2, h3⟩ := hp
      subst hs'
      exact hK G' _ w' ((hs.world h3 h2).put o.dst h1) h3
    · simp at hfn
  unfold execF at he
  split at he
  · rename_i c x y hop
    split at he
    · rename_i b hb
      simp only [Option.some.injEq, Prod.mk.injEq] at he
      obtain ⟨rfl, _⟩ := he
      have hc := hρ c
      rw [hb] at hc
      generalize hcv : a.eval c = cv at hc
      cases hc
      have hrun : (execOp a.eval o).run P w = .ok (.value (if b then a.eval x else a.eval y)) w := by
        simp [execOp, hop, hcv, asBool]
      unfold Oper.wp
      rw [hrun, Oper.upon_value]
      refine hK G _ w (hs.put o.dst ?_) (Ext.refl G w)
      cases b with
      | true => exact hρ x
      | false => exact hρ y
    · simp at he
  · rename_i f args tys hop
    split at he
    · rename_i g vs hfn
      split at he
      · rename_i H hH
        split at he
        · rename_i v h' hsem
          simp only [Option.some.injEq, Prod.mk.injEq] at he
          exact hcall hop hfn (hF g H hH).1 (hF g H hH).2 hsem he.1.symm
        · simp at he
      · split at he
        · rename_i v h' hsem
          simp only [Option.some.injEq, Prod.mk.injEq] at he
          exact hcall hop hfn (hI g) (hIe g vs s.heap _ hsem) hsem he.1.symm
        · simp at he
    · simp at he
  · unfold outF at he
    split at he
    · rename_i out ho
      cases hg : out.g with
      | false => rw [hg] at he; simp at he
      | true =>
        rw [hg] at he
        simp only [cond_true, Option.some.injEq, Prod.mk.injEq] at he
        obtain ⟨rfl, _⟩ := he
        obtain ⟨u, w', G', h1, h2, h3, h4⟩ := aopS_ok hC hE hs.h hρ ho hg
        unfold Oper.wp
        rcases h1 with h1 | ⟨h1, rfl⟩
        · rw [h1, Oper.upon_value]
          exact hK G' _ w' ((hs.world h4 h3).put o.dst h2) h4
        · rw [h1, Oper.upon_skip]
          exact hK G' _ w' ((hs.world h4 h3).put o.dst h2) h4
    · simp at he

/-- Whether an operation is wanted. -/
theorem want_ok {G : Gh} {s : St} {a : Act} {w : World} (hs : Sim G s a w) {all : Array Oper} {o : Oper} {b : Bool} (h : Oper.want all.toList s.tmps o = some b) : Region.wanted o (yielded all a.tmps) = b := by
  unfold Oper.want at h
  unfold Region.wanted
  split at h
  · rename_i hgd
    simp only [Option.some.injEq] at h
    rw [hgd]; exact h
  · rename_i j want hgd
    rw [hgd]
    split at h
    · rename_i oj hj
      split at h
      · rename_i t ht
        split at h
        · rename_i v hv
          simp only [Option.some.injEq] at h
          have hj' : all[j]? = some oj := by simpa using hj
          have hr := hs.tmps.getD t
          rw [hv] at hr
          have hlt : t < a.tmps.size := by
            rcases Nat.lt_or_ge t a.tmps.size with h' | h'
            · exact h'
            · have : s.tmps.length ≤ t := by rw [hs.tmps.1]; simpa using h'
              rw [List.getD_eq_getElem?_getD, List.getElem?_eq_none this] at hv
              simp at hv
          have e : a.tmps.toList.getD t undef = a.tmps[t] := by simp [List.getD_eq_getElem?_getD, hlt]
          rw [e] at hr
          have hy : yielded all a.tmps j = some v := by
            unfold yielded
            simp only [hj', Option.bind_some, ht, Array.getElem?_eq_getElem hlt]
            generalize a.tmps[t] = u at hr
            cases hr
            rfl
          simp only [hy]
          rw [← h]
          cases v <;> cases want <;> rfl
        · simp at h
        · rename_i v hnb hv
          simp only [Option.some.injEq] at h
          have hj' : all[j]? = some oj := by simpa using hj
          have hr := hs.tmps.getD t
          rw [hv] at hr
          have hlt : t < a.tmps.size := by
            rcases Nat.lt_or_ge t a.tmps.size with h' | h'
            · exact h'
            · have : s.tmps.length ≤ t := by rw [hs.tmps.1]; simpa using h'
              rw [List.getD_eq_getElem?_getD, List.getElem?_eq_none this] at hv
              simp at hv
          have e : a.tmps.toList.getD t undef = a.tmps[t] := by simp [List.getD_eq_getElem?_getD, hlt]
          rw [e] at hr
          have hy : yielded all a.tmps j = none := by
            unfold yielded
            simp only [hj', Option.bind_some, ht, Array.getElem?_eq_getElem hlt]
            generalize a.tmps[t] = u at hr
            cases hr
            split
            · rename_i q; simp only [Option.some.injEq] at q; exact (hnb _ q).elim
            · rfl
          simp only [hy]
          rw [← h]
          cases want <;> rfl
        · simp at h
      · simp at h
    · simp at h

theorem step_ok {C : Cfg} (hC : ∀ t r, C.ty t = some r → TOk P t r) (hE : ∀ t x, C.eqs t = some x → eqOk P t x = true) (hF : ∀ f H, C.fns f = some H → HdOk P f H.sem ∧ Enters P f)
    {inl : Inl} (hI : ∀ f, HdOk P f (inl f)) (hIe : ∀ f vs h r, inl f vs h = some r → Enters P f) {G : Gh} {s : St} {a : Act} {w : World} (hs : Sim G s a w) {base : Option Nat} {all : Array Oper} {i : Nat} {s' : St} {ft : Foot}
    (he : stepF C inl base all.toList i s = some (s', ft)) {K : Act → World → Prop} {Q : Exit → Act → World → Prop} (hK : Next G w s' K) : wpOp P all Q i K a w := by
  unfold stepF at he
  unfold wpOp
  have hi : all.toList[i]? = all[i]? := by simp
  rw [hi] at he
  split at he
  · rename_i hn
    rw [hn]
    simp only [Option.some.injEq, Prod.mk.injEq] at he
    obtain ⟨rfl, _⟩ := he
    exact hK G a w hs (Ext.refl G w)
  · rename_i o ho
    rw [ho]
    dsimp only
    split at he
    · rename_i hw
      rw [want_ok hs hw, if_pos rfl]
      exact .inl (exec_ok hC hE hF hI hIe hs he hK)
    · rename_i hw
      rw [want_ok hs hw, if_neg (by simp)]
      simp only [Option.some.injEq, Prod.mk.injEq] at he
      obtain ⟨rfl, _⟩ := he
      exact hK G _ w (hs.put o.dst (.opq _)) (Ext.refl G w)
    · simp at he

theorem ops_ok {C : Cfg} (hC : ∀ t r, C.ty t = some r → TOk P t r) (hE : ∀ t x, C.eqs t = some x → eqOk P t x = true) (hF : ∀ f H, C.fns f = some H → HdOk P f H.sem ∧ Enters P f)
    {inl : Inl} (hI : ∀ f, HdOk P f (inl f)) (hIe : ∀ f vs h r, inl f vs h = some r → Enters P f) {base : Option Nat} {all : Array Oper} {Q : Exit → Act → World → Prop} : ∀ {l : List Nat} {G : Gh} {s : St} {a : Act} {w : World} {s' : St} {fs : List (Nat × Foot)},
    Sim G s a w → opsF C inl base all.toList l s = some (s', fs) → Next G w s' (fun a w => Q .normal a w) → wpOps P all Q l a w
  | [], G, s, a, w, s', fs, hs, he, hK => by
    simp only [opsF, Option.some.injEq, Prod.mk.injEq] at he
    obtain ⟨rfl, _⟩ := he
    exact hK G a w hs (Ext.refl G w)
  | i :: l, G, s, a, w, s', fs, hs, he, hK => by
    simp only [opsF] at he
    split at he
    · rename_i s1 f1 h1
      split at he
      · rename_i s2 fs2 h2
        simp only [Option.some.injEq, Prod.mk.injEq] at he
        obtain ⟨rfl, _⟩ := he
        rw [wpOps_cons]
        refine step_ok hC hE hF hI hIe hs h1 fun G' a' w' hs' he' => ?_
        exact ops_ok hC hE hF hI hIe hs' h2 fun G2 a2 w2 hs2 he2 => hK G2 a2 w2 hs2 (he'.trans he2)
      · simp at he
    · simp at he

end
end Go.RX

/-
  An operation, whole.
-/
import Derived.Test.YtleejiihlldflaaGreatRn
namespace Go.RX

section
variable {P : Program} {G : Gh} {w : World} {h : List HObj}

def NextOk (P : Program) (G : Gh) (w : World) (m : Sem Next) (v : AV) (h : List HObj) : Prop :=
  ∃ u w' G', (m.run P w = .ok (.value u) w' ∨ (m.run P w = .ok .skip w' ∧ u = undef)) ∧ Rep G' w' v u ∧ SimH G' h w' ∧ Ext G w G' w'

theorem next_of {m : Sem Value} {v : AV} {h' : List HObj} (ho : OpOk P G w m v h') : NextOk P G w (do pure (.value (← m))) v h' := by
  obtain ⟨u, w', G', h1, h2, h3, h4⟩ := ho
  exact ⟨u, w', G', .inl (by simp [h1]), h2, h3, h4⟩

theorem optR_map {ρA : Operand → AV} {ρ : Operand → Value} (hρ : ∀ x, Rep G w (ρA x) (ρ x)) (o : Option Operand) : OptR G w (o.map ρA) (o.map ρ) := by
  cases o with
  | none => trivial
  | some x => exact hρ x

theorem repL_map {ρA : Operand → AV} {ρ : Operand → Value} (hρ : ∀ x, Rep G w (ρA x) (ρ x)) : ∀ l : List Operand, RepL G w (l.map ρA) (l.map ρ)
  | [] => RepL.nil G w
  | x :: l => RepL.cons (hρ x) (repL_map hρ l)

theorem parts_map {ρA : Operand → AV} {ρ : Operand → Value} (hρ : ∀ x, Rep G w (ρA x) (ρ x)) : ∀ l : List (Nat × Operand), (∀ p ∈ l, boxable (ρA p.2) = true) →
    PartsR G w ((l.map fun p => (p.1, ρA p.2)).map fun p => (p.1, cellsOf p.2)) (l.map fun p => (p.1, ρ p.2))
  | [], _ => trivial
  | p :: l, hb => ⟨rfl, rep_cells (hρ p.2) (hb p (by simp)), parts_map hρ l fun q hq => hb q (by simp [hq])⟩

theorem ints_rep {k : IntKind} : ∀ {cs : List AV} {vs : List Value} {ns : List Int}, RepL G w cs vs → intsOf k cs = some ns → vs = ns.map (Value.int k)
  | [], vs, ns, hr, he => by
    simp only [intsOf, Option.some.injEq] at he
    subst he
    exact hr.nil_inv
  | c :: cs, vs, ns, hr, he => by
    obtain ⟨v, us, rfl, h1, h2⟩ := hr.cons_inv
    cases c <;> simp only [intsOf] at he <;> try (simp at he; done)
    split at he
    · rename_i hk
      subst hk
      split at he
      · rename_i ms hm
        simp only [Option.some.injEq] at he
        subst he
        cases h1
        rw [ints_rep h2 hm]
        rfl
      · simp at he
    · simp at he

theorem index_val_ok {C : Cfg} (hC : ∀ t r, C.ty t = some r → TOk P t r) (s : SimH G h w) {t : TypeId} {a i : AV} {v vi : Value} (ha : Rep G w a v) (hi : Rep G w i vi) {out : Out}
    (ho : indexV C t a i h = some out) (hg : out.g = true) : OpOk P G w (Instr.index t v vi) out.v out.h := by
  unfold indexV at ho
  split at ho
  · rename_i cs ik n
    cases hi
    cases ha
    rename_i vs hl hr
    have hL : RepL G w cs vs.toList := ⟨by simpa using hl, fun i c v hc hv => hr i c v hc (by simpa using hv)⟩
    split at ho
    · rename_i len e _ _ _ _ ht
      split at ho
      · rename_i r hre
        have hu := und_arr (hC t _ ht) rfl
        have hro := hC e r hre
        split at ho
        · rename_i k hk
          split at ho
          · rename_i ns hns
            cases hb : (Nat.beq r.size 1 && Nat.beq ns.length len) with
            | false => rw [hb] at ho; simp at ho
            | true =>
              rw [hb] at ho
              simp only [cond_true, Option.some.injEq] at ho
              simp only [Bool.and_eq_true, Nat.beq_eq] at hb
              subst ho
              simp only [Bool.and_eq_true, decide_eq_true_eq] at hg
              have hvs := ints_rep hL hns
              have hn : n.toNat < ns.length := by omega
              refine opOk_pure (u := .int k (ns.getD n.toNat 0)) ?_ (.int _ _) s
              have hag : (isAgg e).run P w = .ok false w := by rw [run_isAgg hro, hk]; rfl
              have hget : vs[n.toNat]? = some (.int k (ns.getD n.toNat 0)) := by
                rw [← Array.getElem?_toList, hvs, List.getElem?_map, List.getElem?_eq_getElem hn, List.getD_eq_getElem?_getD, List.getElem?_eq_getElem hn]
                rfl
              simp only [Instr.index, asIntOf, Sem.run_bind, Sem.run_pure, Result.andThen_ok, run_underlying hu, hg.1, hg.2, and_self, if_true, run_sizeOf' hro, part, hag, hb.1, Nat.mul_one, hget]
              rfl
          · simp at ho
        · rename_i k hk
          cases hka : isAggK r.k with
          | false =>
            rw [hka] at ho
            simp only [cond_false] at ho
            cases hb : (Nat.beq r.size 1 && Nat.beq cs.length len) with
            | false => rw [hb] at ho; simp at ho
            | true =>
              rw [hb] at ho
              simp only [cond_true, Option.some.injEq] at ho
              simp only [Bool.and_eq_true, Nat.beq_eq] at hb
              subst ho
              simp only [Bool.and_eq_true, decide_eq_true_eq] at hg
              have hn : n.toNat < vs.size := by rw [← hl, hb.2]; omega
              refine opOk_pure (u := vs[n.toNat]) ?_ ?_ s
              · have hag : (isAgg e).run P w = .ok false w := by rw [run_isAgg hro, hka]
                have hget : vs[n.toNat]? = some vs[n.toNat] := Array.getElem?_eq_getElem hn
                simp only [Instr.index, asIntOf, Sem.run_bind, Sem.run_pure, Result.andThen_ok, run_underlying hu, hg.1, hg.2, and_self, if_true, run_sizeOf' hro, part, hag, hb.1, Nat.mul_one, hget]
                rfl
              · have hnc : n.toNat < cs.length := by rw [hl]; exact hn
                rw [List.getD_eq_getElem?_getD, List.getElem?_eq_getElem hnc]
                exact hr n.toNat _ _ (List.getElem?_eq_getElem hnc) (Array.getElem?_eq_getElem hn)
          | true =>
            rw [hka] at ho
            simp only [cond_true] at ho
            cases hbb : Nat.beq cs.length (len * r.size) with
            | false => rw [hbb] at ho; simp at ho
            | true =>
            have hb : isAggK r.k = true ∧ cs.length = len * r.size := ⟨hka, Nat.eq_of_beq_eq_true hbb⟩
            rw [hbb] at ho
            simp only [cond_true, Option.some.injEq] at ho
            subst ho
            have hrep := (hL.drop (n.toNat * r.size)).take r.size
            refine opOk_pure (u := .agg ((vs.toList.drop (n.toNat * r.size)).take r.size).toArray) ?_ ?_ s
            · simp only [Bool.and_eq_true, decide_eq_true_eq] at hg
              have hag : (isAgg e).run P w = .ok true w := by rw [run_isAgg hro, hb.1]
              simp only [Instr.index, asIntOf, Sem.run_bind, Sem.run_pure, Result.andThen_ok, run_underlying hu, hg.1, hg.2, and_self, if_true, run_sizeOf' hro, part, hag]
              congr 2
              apply Array.ext'
              simp
            · exact .agg _ _ (by simpa using hrep.1) fun i c v hc hv => hrep.2 i c v hc (by simpa using hv)
      · simp at ho
    · simp at ho
  · rename_i sb ik n
    cases hi
    cases ha
    split at ho
    · rename_i _ _ _ _ ht
      simp only [Option.some.injEq] at ho
      subst ho
      simp only [Bool.and_eq_true, decide_eq_true_eq] at hg
      have hu := und_str (hC t _ ht) rfl
      refine opOk_pure (u := .int .u8 (byteAt sb n)) ?_ (.int _ _) s
      have hn : n.toNat < sb.size := by omega
      have hget : sb[n.toNat]? = some (sb.data.toList.getD n.toNat 0) := by
        have hn' : n.toNat < sb.data.size := hn
        rw [List.getD_eq_getElem?_getD, Array.getElem?_toList, Array.getElem?_eq_getElem hn', getElem?_pos sb n.toNat hn]
        rfl
      simp only [Instr.index, asIntOf, Sem.run_bind, Sem.run_pure, Result.andThen_ok, run_underlying hu, hg.1, if_true, hget]
      rfl
    · simp at ho
  · simp at ho

theorem aop_ok {C : Cfg} (hC : ∀ t r, C.ty t = some r → TOk P t r) (hE : ∀ t x, C.eqs t = some x → eqOk P t x = true) (s : SimH G h w) {ρA : Operand → AV} {ρ : Operand → Value}
    (hρ : ∀ x, Rep G w (ρA x) (ρ x)) {o : Oper} {out : Out} (ho : aop C ρA o.op h = some out) (hg : out.g = true) : NextOk P G w (execOp ρ o) out.v out.h := by
  unfold execOp
  cases hop : o.op <;> rw [hop] at ho <;> simp only [aop] at ho ⊢ <;> try (simp at ho; done)
  case move x =>
    simp only [Option.some.injEq] at ho; subst ho
    exact ⟨_, w, G, .inl (by simp), hρ x, s, Ext.refl G w⟩
  case assign x =>
    simp only [Option.some.injEq] at ho; subst ho
    exact ⟨_, w, G, .inl (by simp), hρ x, s, Ext.refl G w⟩
  case alloc t =>
    split at ho
    · rename_i r hr
      simp only [Option.some.injEq] at ho; subst ho
      exact next_of (alloc_ok (hC t r hr) s _)
    · simp at ho
  case box t x =>
    cases hb : boxable (ρA x) with
    | false => rw [hb] at ho; simp at ho
    | true =>
      rw [hb] at ho
      simp only [cond_true, Option.some.injEq] at ho; subst ho
      exact next_of (box_ok (hρ x) hb s)
  case build t parts =>
    cases hb : parts.toList.all (fun p => boxable (ρA p.2)) with
    | false => rw [hb] at ho; simp at ho
    | true =>
      rw [hb] at ho
      simp only [cond_true] at ho
      simp only [List.all_eq_true] at hb
      obtain ⟨h1, h2, _⟩ := build_ok hC s (vs := parts.map fun p => (p.1, ρ p.2)) (by simpa using parts_map hρ parts.toList hb) ho
      exact next_of h1
  case buildSlice t len parts =>
    cases hb : parts.toList.all (fun p => boxable (ρA p.2)) with
    | false => rw [hb] at ho; simp at ho
    | true =>
      rw [hb] at ho
      simp only [cond_true] at ho
      simp only [List.all_eq_true] at hb
      obtain ⟨h1, _⟩ := buildSlice_ok hC s (vs := parts.map fun p => (p.1, ρ p.2)) (by simpa using parts_map hρ parts.toList hb) ho
      exact next_of h1
  case load t a => exact next_of (load_ok hC s (hρ a) ho).1
  case store t a v =>
    obtain ⟨w', G', h1, h2, h3⟩ := store_ok hC s (hρ a) (hρ v) ho
    have hv : out.v = .top := by
      unfold storeA at ho
      split at ho
      · cases hg : (Nat.beq (cellsOf (ρA v)).length _ && (cellsOf (ρA v)).all atomA) with
        | false => rw [hg] at ho; simp at ho
        | true =>
          rw [hg] at ho
          simp only [cond_true] at ho
          split at ho
          · simp only [Option.some.injEq] at ho; subst ho; rfl
          · simp at ho
      · simp at ho
    exact ⟨undef, w', G', .inr ⟨by simp [h1], rfl⟩, by rw [hv]; exact .top _, h2, h3⟩
  case nilCheck x =>
    have hx := hρ x
    split at ho
    all_goals first
      | (simp at ho; done)
      | skip
    all_goals
      rename_i he
      simp only [Option.some.injEq] at ho; subst ho
      rw [he] at hx
      generalize ρ x = v at hx
      cases hx
    · refine ⟨_, w, G, ?_, .ptr _ _ _ ‹_› ‹_›, s, Ext.refl G w⟩
      exact .inl (by simp)
    · refine ⟨_, w, G, ?_, .eptr _ _ _ _ _ _ ‹_› ‹_›, s, Ext.refl G w⟩
      exact .inl (by simp)
    · refine ⟨_, w, G, ?_, .vptr _ _ _ _ _ _ ‹_› ‹_› ‹_›, s, Ext.refl G w⟩
      exact .inl (by simp)
    · refine ⟨_, w, G, ?_, .fn _ _ _ _ _ ‹_› ‹_› ‹_› ‹_›, s, Ext.refl G w⟩
      exact .inl (by simp)
  case binOp op t x y yt =>
    obtain ⟨h1, _⟩ := bin_ok hE s x y (hρ x) (hρ y) ho hg
    exact next_of h1
  case unOp op t x =>
    have hx := hρ x
    generalize ρA x = c at *
    generalize ρ x = v at *
    unfold unA at ho
    split at ho
    · simp only [Option.some.injEq] at ho; subst ho
      cases hx
      exact next_of (opOk_pure (u := .int _ _) (by simp [Op.unary, Op.intArith]) (.int _ _) s)
    · simp only [Option.some.injEq] at ho; subst ho
      cases hx
      exact next_of (opOk_pure (u := .bool _) (by simp [Op.unary]) (.bool _) s)
    · simp at ho
  case convert src dst x =>
    have hx := hρ x
    split at ho
    · rename_i hs hd hv
      simp only [Option.some.injEq] at ho; subst ho
      rw [hv] at hx
      generalize ρ x = v at hx
      cases hx
      obtain ⟨d, hu, _⟩ := und_of (hC src _ hs)
      refine next_of (opOk_pure (u := .int _ _) ?_ (.int _ _) s)
      simp only [convert, Sem.run_bind, run_underlying hu, run_underlying (und_int (hC dst _ hd) rfl), Result.andThen_ok]
      cases d <;> rfl
    · simp at ho
  case makeFunc fn first caps =>
    cases fn <;> simp only [makeFuncA] at ho <;> try (simp at ho; done)
    rename_i f
    simp only [Option.some.injEq] at ho; subst ho
    have h1 := repL_map hρ first.toList
    have h2 := repL_map hρ caps.toList
    refine next_of (opOk_pure (u := .func (.func f) (first.map ρ) (caps.map ρ)) (by simp [Instr.makeFunc]) ?_ s)
    exact .fn f _ _ _ _ (by simp) (by simp) (fun i c v hc hv => h1.2 i c v hc (by simpa using hv)) (fun i c v hc hv => h2.2 i c v hc (by simpa using hv))
  case makeSlice t n m => exact next_of (makeSlice_ok hC s (hρ n) (hρ m) ho hg)
  case slice t x lo hi mx =>
    cases mx with
    | none => exact next_of (slice_ok hC s (hρ x) (optR_map hρ lo) (optR_map hρ hi) ho hg)
    | some m => simp [sliceMA] at ho
  case fieldAddr t x f => exact next_of (field_ok hC s (hρ x) ho).1
  case indexAddr t x i => exact next_of (index_ok hC s (hρ x) (hρ i) ho hg).1
  case index t x i => exact next_of (index_val_ok hC s (hρ x) (hρ i) ho hg)
  case extract x i =>
    have hx := hρ x
    split at ho
    · rename_i vs he
      split at ho
      · rename_i v hv
        simp only [Option.some.injEq] at ho; subst ho
        rw [he] at hx
        generalize ρ x = u at hx
        cases hx
        rename_i us hl hr
        have hi : i < us.size := by rw [← hl]; exact (List.getElem?_eq_some_iff.1 hv).1
        exact next_of (opOk_pure (u := us[i]) (by simp [Instr.extract, hi]) (hr i v _ hv (by simp [hi])) s)
      · simp at ho
    · simp at ho
  case call c =>
    obtain ⟨callee, args, argTypes⟩ := c
    cases callee <;> (try dsimp only at ho) <;> try (simp at ho; done)
    rename_i b
    have hm := repL_map hρ args.toList
    have pull : ∀ {m : Sem Value} {v : AV} {h' : List HObj}, builtin b argTypes o.type (args.map fun | .const _ => true | _ => false) (args.map ρ) = (do pure (.value (← m))) → OpOk P G w m v h' →
        NextOk P G w (do let d ← resolve ρ { callee := .builtin b, args, argTypes } o.type; invoke d.target d.args) v h' := by
      intro m v h' he hok
      obtain ⟨u, w', G', h1, h2⟩ := next_of hok
      rw [← he] at h1
      refine ⟨u, w', G', ?_, h2⟩
      simp only [resolve, invoke, Sem.run_bind, Sem.run_pure, Result.andThen_ok]
      exact h1
    have hargs : (args.map ρ) = (args.toList.map ρ).toArray := by apply Array.ext'; simp
    have htys : argTypes = argTypes.toList.toArray := by apply Array.ext'; simp
    generalize args.toList.map ρA = vs at *
    generalize args.toList.map ρ = vals at *
    unfold builtinA at ho
    split at ho
    · split at ho
      · rename_i x t ht
        obtain ⟨v, us, rfl, h1, h2⟩ := hm.cons_inv
        rw [h2.nil_inv] at hargs
        rw [ht] at htys
        obtain ⟨q, _⟩ := len_ok (ty := o.type) hC s h1 ho
        exact pull (m := Builtin.len_ argTypes o.type (args.map ρ)) rfl (by rw [hargs, htys]; exact q)
      · simp at ho
    · split at ho
      · rename_i x xs
        split at ho
        · rename_i v hv
          simp only [Option.some.injEq] at ho; subst ho
          obtain ⟨y, us, rfl, h1, h2⟩ := hm.cons_inv
          obtain ⟨u, hu, hr⟩ := min_ok (P := P) h1 h2 hv
          refine pull (m := Builtin.min_ argTypes o.type (args.map ρ)) rfl (opOk_pure (u := u) ?_ hr s)
          rw [hargs]
          simpa [Builtin.min_] using hu
        · simp at ho
      · simp at ho
    · split at ho
      · rename_i x xs
        split at ho
        · rename_i v hv
          simp only [Option.some.injEq] at ho; subst ho
          obtain ⟨y, us, rfl, h1, h2⟩ := hm.cons_inv
          obtain ⟨u, hu, hr⟩ := max_ok (P := P) h1 h2 hv
          refine pull (m := Builtin.max_ argTypes o.type (args.map ρ)) rfl (opOk_pure (u := u) ?_ hr s)
          rw [hargs]
          simpa [Builtin.max_] using hu
        · simp at ho
      · simp at ho
    · split at ho
      · rename_i x y t t' ht
        cases hb : Nat.beq t t' with
        | false => rw [hb] at ho; simp at ho
        | true =>
          rw [hb] at ho
          simp only [cond_true] at ho
          have ht' := Nat.eq_of_beq_eq_true hb
          subst ht'
          obtain ⟨v1, us, rfl, h1, h2⟩ := hm.cons_inv
          obtain ⟨v2, us, rfl, h3, h4⟩ := h2.cons_inv
          rw [h4.nil_inv] at hargs
          rw [ht] at htys
          have q := append_ok (ty := o.type) hC s h1 h3 ho hg
          exact pull (m := Builtin.append_ argTypes o.type (args.map ρ)) rfl (by rw [hargs, htys]; exact q)
      · simp at ho
    · simp at ho

theorem aopS_ok {C : Cfg} (hC : ∀ t r, C.ty t = some r → TOk P t r) (hE : ∀ t x, C.eqs t = some x → eqOk P t x = true) (s : SimH G h w) {ρA : Operand → AV} {ρ : Operand → Value}
    (hρ : ∀ x, Rep G w (ρA x) (ρ x)) {sl : Option Nat} {o : Oper} {out : Out} (ho : aopS C sl ρA o.op h = some out) (hg : out.g = true) : NextOk P G w (execOp ρ o) out.v out.h := by
  unfold aopS at ho
  split at ho
  · rename_i b t hop
    split at ho
    · rename_i r hr
      split at ho
      · rename_i hb
        simp only [Option.some.injEq] at ho
        subst ho
        have ht := hC t r hr
        obtain ⟨z, hz1, hz2⟩ := run_zero' ht w
        obtain ⟨G', e, s', hr'⟩ := sim_slot s hb z.cells t (r.z.map ofAtom) (by rw [hz2]; exact repL_atoms G w _)
        unfold execOp
        rw [hop]
        have hrun : ∀ old, (Instr.alloc t true old).run P w = .ok (.pointer (some ⟨w.heap.size, 0, none⟩)) (w.alloc (.cells z.cells t)) := by
          intro old
          simp only [Instr.alloc, Sem.run_bind, hz1, Result.andThen_ok]
          simp [newVar, newRow]
        exact ⟨_, _, G', .inl (by simp [hrun]), hr', s', e⟩
      · simp at ho
    · simp at ho
  · exact aop_ok hC hE s hρ ho hg

end
end Go.RX

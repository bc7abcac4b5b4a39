/-
  Orders, second part: a region whose order is drawn.
-/
import Derived.Test.YtleejiihlldflaaGreatRq
namespace Go.RX

section
variable {C : Cfg} {inl : Inl} {all : List Oper}

theorem put_heap (s : St) (d : Option Tmp) (v : AV) : (s.put d v).heap = s.heap := by cases d <;> rfl

theorem put_getD {s : St} {d : Option Tmp} {v : AV} {t : Nat} (h : ∀ e, d = some e → e ≠ t) : (s.put d v).tmps.getD t .top = s.tmps.getD t .top := by
  cases d with
  | none => rfl
  | some e => simp [St.put, List.getD_eq_getElem?_getD, List.getElem?_set_ne (h e rfl)]

/-- What an operation looks at among the slots. -/
def Agree (all : List Oper) (o : Oper) (s s2 : St) : Prop := ∀ t ∈ o.looksAt all.toArray, s2.tmps.getD t .top = s.tmps.getD t .top

theorem Agree.eval {o : Oper} {s s2 : St} (h : Agree all o s s2) : ∀ x ∈ o.op.operands, evalA s2.tmps x = evalA s.tmps x := by
  intro x hx
  cases x with
  | tmp t => exact h t (List.mem_append_left _ (List.mem_filterMap.2 ⟨.tmp t, by simpa using hx, rfl⟩))
  | _ => rfl

/-- What an operation does, and where it does the same. -/
structure Shape (f : St → Option (St × Foot)) (d : Option Tmp) (A : St → St → Prop) (s s' : St) (ft : Foot) (v : AV) (h' : List HObj) : Prop where
  eq : s' = { s with heap := h' : St }.put d v
  wr : ∀ b, b ∉ ft.wr → h'[b]? = s.heap[b]?
  len : ft.eff = false → h'.length = s.heap.length
  far : ∀ s2, A s s2 → (ft.eff = true → s2.heap.length = s.heap.length) → (∀ b ∈ ft.rd ++ ft.wr, s2.heap[b]? = s.heap[b]?) →
    ∃ h2', f s2 = some ({ s2 with heap := h2' : St }.put d v, ft) ∧ (ft.eff = false → h2'.length = s2.heap.length) ∧ (∀ b ∈ ft.wr, h2'[b]? = h'[b]?) ∧ ∀ b, b ∉ ft.wr → h2'[b]? = s2.heap[b]?

theorem all_wr {h h' : List HObj} {b : Nat} (hb : b ∉ (allFoot h h').wr) : h'[b]? = h[b]? := by
  simp only [allFoot, List.mem_range] at hb
  rw [List.getElem?_eq_none (by omega), List.getElem?_eq_none (by omega)]

theorem heap_eq {h h2 h' : List HObj} (hr : ∀ b ∈ (allFoot h h').rd ++ (allFoot h h').wr, h2[b]? = h[b]?) (hl : h2.length = h.length) : h2 = h := by
  apply List.ext_getElem?
  intro b
  rcases Nat.lt_or_ge b h.length with hlt | hge
  · exact hr b (by simp only [allFoot, List.nil_append, List.mem_range]; omega)
  · rw [List.getElem?_eq_none (by omega), List.getElem?_eq_none hge]

/-- A shape out of one run that hangs on the heap whole. -/
theorem shape_all {f : St → Option (St × Foot)} {d : Option Tmp} {A : St → St → Prop} {s : St} {v : AV} {h' : List HObj}
    (key : ∀ s2, A s s2 → s2.heap = s.heap → f s2 = some ({ s2 with heap := h' : St }.put d v, allFoot s.heap h')) :
    Shape f d A s ({ s with heap := h' : St }.put d v) (allFoot s.heap h') v h' :=
  ⟨rfl, fun _ hb => all_wr hb, fun h => by simp [allFoot] at h, fun s2 hA hl hr => by
    have he := heap_eq hr (hl rfl)
    exact ⟨h', key s2 hA he, fun h => by simp [allFoot] at h, fun _ _ => rfl, fun b hb => by rw [he]; exact all_wr hb⟩⟩

theorem shape_none {f : St → Option (St × Foot)} {d : Option Tmp} {A : St → St → Prop} {s : St} {v : AV} (key : ∀ s2, A s s2 → f s2 = some (s2.put d v, {})) : Shape f d A s (s.put d v) {} v s.heap :=
  ⟨rfl, fun _ _ => rfl, fun _ => rfl, fun s2 hA _ _ => ⟨s2.heap, key s2 hA, fun _ => rfl, fun b hb => by simp at hb, fun _ _ => rfl⟩⟩

theorem exec_shape {sl : Option Nat} {o : Oper} {s s' : St} {ft : Foot} (he : execF C inl sl o s = some (s', ft)) :
    ∃ v h', Shape (execF C inl sl o) o.dst (fun s s2 => ∀ x ∈ o.op.operands, evalA s2.tmps x = evalA s.tmps x) s s' ft v h' := by
  obtain ⟨dst, op, type, pos, after, guard⟩ := o
  unfold execF at he
  dsimp only at he ⊢
  split at he
  · rename_i c x y
    split at he
    · rename_i b hb
      simp only [Option.some.injEq, Prod.mk.injEq] at he
      obtain ⟨rfl, rfl⟩ := he
      refine ⟨_, s.heap, shape_none fun s2 hA => ?_⟩
      simp only [Op.operands, Array.mem_def, List.mem_cons, List.not_mem_nil, or_false, forall_eq_or_imp, forall_eq] at hA
      unfold execF
      simp only [hA.1, hA.2.1, hA.2.2, hb]
    · simp at he
  · rename_i f args tys
    have args_eq : ∀ s2 : St, (∀ x' ∈ (Op.call ⟨.value f, args, tys⟩).operands, evalA s2.tmps x' = evalA s.tmps x') →
        evalA s2.tmps f = evalA s.tmps f ∧ args.toList.map (evalA s2.tmps) = args.toList.map (evalA s.tmps) := by
      intro s2 hA
      refine ⟨hA f (by simp [Op.operands, Call.operands]), List.map_congr_left fun x hx => hA x ?_⟩
      simp only [Op.operands, Call.operands, Array.mem_append]
      exact .inr (by simpa using hx)
    split at he
    · rename_i g vs hfn
      split at he
      · rename_i H hH
        split at he
        · rename_i v h' hsem
          simp only [Option.some.injEq, Prod.mk.injEq] at he
          obtain ⟨rfl, rfl⟩ := he
          cases hq : quietCall H vs with
          | true =>
            simp only [quietCall, Bool.and_eq_true] at hq
            obtain ⟨q1, q2⟩ := H.qok hq.1 vs s.heap v h' hq.2 hsem
            subst q1
            have hft : callFoot H vs s.heap s.heap = {} := by simp [callFoot, quietCall, hq.1, hq.2]
            rw [hft]
            refine ⟨v, s.heap, shape_none fun s2 hA => ?_⟩
            obtain ⟨a1, a2⟩ := args_eq s2 hA
            unfold execF
            simp only [a1, a2, hfn, hH, q2 s2.heap]
            simp [callFoot, quietCall, hq.1, hq.2]
          | false =>
            cases hf : H.ft vs s.heap with
            | none =>
              have hft : callFoot H vs s.heap h' = allFoot s.heap h' := by simp [callFoot, hq, hf]
              rw [hft]
              refine ⟨v, h', shape_all fun s2 hA hh => ?_⟩
              obtain ⟨a1, a2⟩ := args_eq s2 hA
              unfold execF
              simp only [a1, a2, hfn, hH, hh, hsem, hft]
            | some ff =>
              obtain ⟨f1, f2, f3⟩ := H.fok vs s.heap ff v h' hf hsem
              have hft : callFoot H vs s.heap h' = ff := by simp [callFoot, hq, hf]
              rw [hft]
              refine ⟨v, h', rfl, f2, fun hn => by rw [f1] at hn; simp at hn, fun s2 hA hl hr => ?_⟩
              obtain ⟨h2', g1, g2, g3, g4⟩ := f3 s2.heap (hl f1) hr
              obtain ⟨a1, a2⟩ := args_eq s2 hA
              refine ⟨h2', ?_, fun hn => by rw [f1] at hn; simp at hn, g3, g4⟩
              have hft2 : callFoot H vs s2.heap h2' = ff := by simp [callFoot, hq, g2]
              unfold execF
              simp only [a1, a2, hfn, hH, g1, hft2]
        · simp at he
      · rename_i hH
        split at he
        · rename_i v h' hsem
          simp only [Option.some.injEq, Prod.mk.injEq] at he
          obtain ⟨rfl, rfl⟩ := he
          refine ⟨v, h', shape_all fun s2 hA hh => ?_⟩
          obtain ⟨a1, a2⟩ := args_eq s2 hA
          unfold execF
          simp only [a1, a2, hfn, hH, hh, hsem]
        · simp at he
    · simp at he
  · rename_i hn1 hn2
    unfold outF at he
    split at he
    · rename_i out ho
      have hg := (bif_some he).1
      replace he := (bif_some he).2
      simp only [Option.some.injEq, Prod.mk.injEq] at he
      obtain ⟨rfl, rfl⟩ := he
      obtain ⟨l1, l2, l3, l4⟩ := loc_aopS (C := C) sl (evalA s.tmps) op s.heap out ho
      have key : ∀ s2 : St, ∀ out2, (∀ x' ∈ op.operands, evalA s2.tmps x' = evalA s.tmps x') → aopS C sl (evalA s.tmps) op s2.heap = some out2 → out2.g = true →
          execF C inl sl ⟨dst, op, type, pos, after, guard⟩ s2 = some ({ s2 with heap := out2.h : St }.put dst out2.v, outFoot out2 s2.heap) := by
        intro s2 out2 hA h2 hg2
        rw [← aopS_congr hA] at h2
        unfold execF
        cases op <;> first
          | exact absurd rfl (hn1 _ _ _)
          | (dsimp only; rw [h2]; simp only [outF, hg2, cond_true]; done)
          | skip
        rename_i c
        obtain ⟨callee, args, tys⟩ := c
        cases callee <;> first
          | exact absurd rfl (hn2 _ _ _)
          | (dsimp only; rw [h2]; simp only [outF, hg2, cond_true]; done)
      refine ⟨out.v, out.h, rfl, l1, l2, fun s2 hA hl hr => ?_⟩
      obtain ⟨h2', m1, m2, m3, m4, m5⟩ := l4 s2.heap hl (fun b hb => hr b (by
        simp only [outFoot, List.mem_append] at hb ⊢
        rcases hb with hb | hb
        · exact .inl hb
        · exact .inr (.inl hb)))
      have hk := key s2 _ hA m1 hg
      refine ⟨h2', ?_, m2, m4, m5⟩
      rw [hk]
      congr 2
      unfold outFoot
      cases hef : out.eff with
      | false => simp
      | true => rw [hl hef, m3 hef]
    · simp at he

theorem want_congr {o : Oper} {s s2 : St} (h : Agree all o s s2) : Oper.want all s2.tmps o = Oper.want all s.tmps o := by
  unfold Oper.want
  split
  · rfl
  · rename_i j want hg
    cases hj : all[j]? with
    | none => rfl
    | some oj =>
      dsimp only
      cases ht : oj.dst with
      | none => rfl
      | some t =>
        dsimp only
        rw [h t]
        simp only [Oper.looksAt, hg, List.mem_append]
        refine .inr ?_
        simp [hj, ht]

theorem step_shape {base : Option Nat} {i : Nat} {o : Oper} (hi : all[i]? = some o) {s s' : St} {ft : Foot} (he : stepF C inl base all i s = some (s', ft)) :
    ∃ v h', Shape (stepF C inl base all i) o.dst (Agree all o) s s' ft v h' := by
  unfold stepF at he
  rw [hi] at he
  dsimp only at he
  split at he
  · rename_i hw
    obtain ⟨v, h', h1⟩ := exec_shape he
    have key : ∀ s2, Agree all o s s2 → stepF C inl base all i s2 = execF C inl (slotOf base all i) o s2 := by
      intro s2 hA
      unfold stepF
      simp only [hi, want_congr hA, hw]
    exact ⟨v, h', h1.eq, h1.wr, h1.len, fun s2 hA hl hr => by rw [key s2 hA]; exact h1.far s2 hA.eval hl hr⟩
  · rename_i hw
    simp only [Option.some.injEq, Prod.mk.injEq] at he
    obtain ⟨rfl, rfl⟩ := he
    refine ⟨.opq undef, s.heap, shape_none fun s2 hA => ?_⟩
    unfold stepF
    simp only [hi, want_congr hA, hw]
  · simp at he

theorem not_meets {xs ys : List Nat} (h : meets xs ys = false) {b : Nat} (hx : b ∈ xs) : b ∉ ys := by
  intro hy
  have : meets xs ys = true := by
    simp only [meets, List.any_eq_true]
    exact ⟨b, hx, b, hy, by simp⟩
  rw [this] at h; simp at h
theorem not_meets' {xs ys : List Nat} (h : meets xs ys = false) {b : Nat} (hy : b ∈ ys) : b ∉ xs := fun hx => not_meets h hx hy

theorem swap {base : Option Nat} {i j : Nat} {oi oj : Oper} (hi : all[i]? = some oi) (hj : all[j]? = some oj) (hap : oi.apart all.toArray oj = true) {s s1 s2 : St} {fi fj : Foot} (h1 : stepF C inl base all i s = some (s1, fi))
    (h2 : stepF C inl base all j s1 = some (s2, fj)) (hc : clash fi fj = false) : ∃ s1', stepF C inl base all j s = some (s1', fj) ∧ stepF C inl base all i s1' = some (s2, fi) := by
  obtain ⟨p1, p2, p3⟩ := Oper.apart_spec hap
  obtain ⟨vi, hhi, si⟩ := step_shape hi h1
  obtain ⟨vj, hhj, sj⟩ := step_shape hj h2
  simp only [clash, Bool.or_eq_false_iff, Bool.and_eq_false_iff] at hc
  obtain ⟨⟨⟨c1, c2⟩, c3⟩, c4⟩ := hc
  have hs1h : s1.heap = hhi := by rw [si.eq, put_heap]
  have hAj : Agree all oj s1 s := fun t ht => by
    rw [si.eq]
    exact (put_getD (s := { s with heap := hhi }) fun e he h => p1 e he (h ▸ ht)).symm
  have hAi : ∀ (h' : List HObj) (v : AV), Agree all oi s ({ s with heap := h' : St }.put oj.dst v) := fun h' v t ht =>
    put_getD (s := { s with heap := h' }) fun e he h => p3 e he (h ▸ ht)
  -- the second one first
  obtain ⟨hj', m1, m2, m3, m4⟩ := sj.far s hAj (fun hej => by
      have hei : fi.eff = false := by rcases c1 with c1 | c1; exact c1; rw [hej] at c1; simp at c1
      rw [hs1h, si.len hei]) (fun b hb => by
    rw [hs1h]
    refine (si.wr b ?_).symm
    rcases List.mem_append.1 hb with hb | hb
    · exact not_meets' c3 hb
    · exact not_meets' c4 hb)
  refine ⟨_, m1, ?_⟩
  obtain ⟨hi', n1, n2, n3, n4⟩ := si.far ({ s with heap := hj' : St }.put oj.dst vj) (hAi hj' vj) (fun hei => by
      have hej : fj.eff = false := by rcases c1 with c1 | c1; rw [hei] at c1; simp at c1; exact c1
      rw [put_heap]; exact m2 hej) (fun b hb => by
    rw [put_heap]
    refine m4 b ?_
    rcases List.mem_append.1 hb with hb | hb
    · exact not_meets c2 hb
    · exact not_meets c4 hb)
  rw [n1, sj.eq, si.eq]
  have hheap : hi' = hhj := by
    apply List.ext_getElem?
    intro b
    by_cases hbi : b ∈ fi.wr
    · rw [n3 b hbi, sj.wr b (not_meets c4 hbi), hs1h]
    · rw [n4 b hbi, put_heap]
      by_cases hbj : b ∈ fj.wr
      · exact m3 b hbj
      · rw [m4 b hbj, sj.wr b hbj, hs1h, si.wr b hbi]
  subst hheap
  have hy : ∀ h1 d v, ({ ({ s with heap := h1 : St }.put d v) with heap := hi' : St }) = ({ s with heap := hi' : St }.put d v) := by intro h1 d v; cases d <;> rfl
  rw [hy, hy]
  congr 2
  cases hd : oi.dst with
  | none => cases oj.dst <;> rfl
  | some d =>
    cases hd2 : oj.dst with
    | none => rfl
    | some d2 =>
      have hne : d ≠ d2 := fun e => p2 d hd (by rw [hd2, e])
      simp only [St.put]
      rw [List.set_comm _ _ hne]

/-- Two operations stand in the order of the edges, or are apart. -/
def Okp (bs : List Nat) (all : List Oper) (p q : Nat × Foot) : Prop :=
  ordd bs p.1 q.1 = true ∨ (clash p.2 q.2 = false ∧ ∀ oi oj, all[p.1]? = some oi → all[q.1]? = some oj → oi.apart all.toArray oj = true)

theorem bubble {base : Option Nat} {bs : List Nat} {i : Nat} : ∀ {l1 l2 : List Nat} {s s' : St} {fs : List (Nat × Foot)}, (∀ x ∈ l1, ordd bs x i = false) → (∀ x ∈ l1 ++ i :: l2, x < all.length) →
    opsF C inl base all (l1 ++ i :: l2) s = some (s', fs) → fs.Pairwise (Okp bs all) →
    ∃ s1 f fs', stepF C inl base all i s = some (s1, f) ∧ opsF C inl base all (l1 ++ l2) s1 = some (s', fs') ∧ fs'.Sublist fs ∧ (i, f) ∈ fs
  | [], l2, s, s', fs, _, _, he, _ => by
    simp only [List.nil_append, opsF] at he ⊢
    split at he
    · rename_i s1 f h1
      split at he
      · rename_i s2 fs2 h2
        simp only [Option.some.injEq, Prod.mk.injEq] at he
        obtain ⟨rfl, rfl⟩ := he
        exact ⟨s1, f, fs2, h1, h2, List.sublist_cons_self _ _, List.mem_cons_self⟩
      · simp at he
    · simp at he
  | x :: l1, l2, s, s', fs, hx, hl, he, hp => by
    simp only [List.cons_append, opsF] at he ⊢
    split at he
    · rename_i sx fx h1
      split at he
      · rename_i s2 fs2 h2
        simp only [Option.some.injEq, Prod.mk.injEq] at he
        obtain ⟨rfl, rfl⟩ := he
        obtain ⟨s1, f, fs', q1, q2, q3, q4⟩ := bubble (l1 := l1) (fun y hy => hx y (by simp [hy])) (fun y hy => hl y (by simp only [List.cons_append, List.mem_cons]; exact .inr hy)) h2 (List.pairwise_cons.1 hp).2
        have hok := (List.pairwise_cons.1 hp).1 (i, f) q4
        rcases hok with hok | ⟨k1, k2⟩
        · rw [hx x (by simp)] at hok; simp at hok
        have hxl : x < all.length := hl x (by simp)
        have hil : i < all.length := hl i (by simp)
        obtain ⟨sx', r1, r2⟩ := swap (List.getElem?_eq_getElem hxl) (List.getElem?_eq_getElem hil) (k2 _ _ (List.getElem?_eq_getElem hxl) (List.getElem?_eq_getElem hil)) h1 q1 k1
        exact ⟨sx', f, (x, fx) :: fs', r1, by rw [r2]; dsimp only; rw [q2], q3.cons_cons _, by simp [q4]⟩
      · simp at he
    · simp at he

theorem ops_fst {base : Option Nat} : ∀ {l : List Nat} {s s' : St} {fs : List (Nat × Foot)}, opsF C inl base all l s = some (s', fs) → fs.map (·.1) = l
  | [], s, s', fs, he => by simp only [opsF, Option.some.injEq, Prod.mk.injEq] at he; simp [← he.2]
  | i :: l, s, s', fs, he => by
    simp only [opsF] at he
    split at he
    · split at he
      · rename_i s2 fs2 h2
        simp only [Option.some.injEq, Prod.mk.injEq] at he
        rw [← he.2]
        simp [ops_fst h2]
      · simp at he
    · simp at he

theorem befL_pre : ∀ (l : List Oper) (acc : List Nat) (k : Nat), k < acc.length → (befL l acc).getD k 0 = acc.getD k 0
  | [], _, _, _ => rfl
  | o :: l, acc, k, hk => by
    simp only [befL]
    rw [befL_pre l _ k (by simp; omega)]
    simp [List.getD_eq_getElem?_getD, List.getElem?_append_left hk]

theorem fold_bit (acc : List Nat) (x : Nat) : ∀ (es : List Edge) (s : Nat), (es.foldl (fun s e => bif Region.binds .any e then s ||| 2 ^ e.on ||| acc.getD e.on 0 else s) s).testBit x = true →
    s.testBit x = true ∨ ∃ e ∈ es, Region.binds .any e = true ∧ (x = e.on ∨ (acc.getD e.on 0).testBit x = true)
  | [], s, h => .inl h
  | e :: es, s, h => by
    simp only [List.foldl_cons] at h
    rcases fold_bit acc x es _ h with h | ⟨e', he', h1⟩
    · cases hb : Region.binds .any e with
      | false => rw [hb] at h; exact .inl h
      | true =>
        rw [hb] at h
        simp only [cond_true, Nat.testBit_or, Bool.or_eq_true, Nat.testBit_two_pow, decide_eq_true_eq] at h
        rcases h with (h | h) | h
        · exact .inl h
        · exact .inr ⟨e, by simp, hb, .inl h.symm⟩
        · exact .inr ⟨e, by simp, hb, .inr h⟩
    · exact .inr ⟨e', by simp [he'], h1⟩

theorem bef_bit : ∀ (l : List Oper) (acc : List Nat) (j x : Nat), acc.length ≤ j → ((befL l acc).getD j 0).testBit x = true →
    ∃ o, l[j - acc.length]? = some o ∧ ∃ e ∈ o.after.toList, Region.binds .any e = true ∧ (x = e.on ∨ ((befL l acc).getD e.on 0).testBit x = true)
  | [], acc, j, x, hj, h => by
    simp only [befL, List.getD_eq_getElem?_getD, List.getElem?_eq_none hj] at h
    simp at h
  | o :: l, acc, j, x, hj, h => by
    simp only [befL] at h ⊢
    by_cases e : j = acc.length
    · subst e
      rw [befL_pre l _ _ (by simp)] at h
      simp only [List.getD_eq_getElem?_getD, List.getElem?_append_right (Nat.le_refl _), Nat.sub_self, List.getElem?_cons_zero, Option.getD_some] at h
      simp only [← List.getD_eq_getElem?_getD] at h
      rcases fold_bit acc x o.after.toList 0 h with h | ⟨e, he, hb, h⟩
      · simp at h
      · refine ⟨o, by simp, e, he, hb, h.imp id fun h => ?_⟩
        have hlt : e.on < acc.length := by
          rcases Nat.lt_or_ge e.on acc.length with h' | h'
          · exact h'
          · rw [List.getD_eq_getElem?_getD, List.getElem?_eq_none h'] at h; simp at h
        rw [befL_pre l _ _ (by simp; omega)]
        simpa [List.getD_eq_getElem?_getD, List.getElem?_append_left hlt] using h
    · obtain ⟨o', h1, h2⟩ := bef_bit l _ j x (by simp; omega) h
      refine ⟨o', ?_, h2⟩
      rw [← h1]
      have : j - acc.length = (j - (acc.length + 1)) + 1 := by omega
      rw [this]
      simp

theorem ordd_edge {x i : Nat} (h : ordd (befL all []) x i = true) : ∃ o, all[i]? = some o ∧ ∃ e ∈ o.after.toList, Region.binds .any e = true ∧ (x = e.on ∨ ordd (befL all []) x e.on = true) := by
  have := bef_bit all [] i x (Nat.zero_le _) h
  simpa [ordd] using this

theorem feet_pair {bs : List Nat} : ∀ {fs : List (Nat × Foot)}, feetOk bs fs = true → fs.Pairwise fun p q => ordd bs p.1 q.1 = true ∨ clash p.2 q.2 = false
  | [], _ => List.Pairwise.nil
  | (i, f) :: l, h => by
    simp only [feetOk, Bool.and_eq_true, List.all_eq_true, Bool.or_eq_true, Bool.not_eq_true'] at h
    exact List.pairwise_cons.2 ⟨h.1, feet_pair h.2⟩

theorem stat_spec {bs : List Nat} (h : statOk all bs = true) : (∀ j o, all[j]? = some o → ∀ e ∈ o.after.toList, Region.binds .any e = true → e.on < j) ∧
    ∀ i j oi oj, all[i]? = some oi → all[j]? = some oj → i < j → ordd bs i j = true ∨ oi.apart all.toArray oj = true := by
  simp only [statOk, Bool.and_eq_true, List.all_eq_true, Prod.forall, List.mem_zipIdx_iff_getElem?, Bool.or_eq_true, Bool.not_eq_true'] at h
  obtain ⟨h1, h2⟩ := h
  refine ⟨fun j o ho e he hb => ?_, fun i j oi oj hi hj hlt => ?_⟩
  · rcases h1 o j ho e he with q | q
    · rw [hb] at q; simp at q
    · exact Nat.le_of_ble_eq_true q
  · rcases h2 oj j hj oi i hi with (q | q) | q
    · exfalso
      rw [← Bool.not_eq_true] at q
      exact q (Nat.ble_eq_true_of_le hlt)
    · exact .inl q
    · exact .inr q

theorem okp_of {fs : List (Nat × Foot)} {n : Nat} (hs : statOk all (befL all []) = true) (hf : feetOk (befL all []) fs = true) (hn : fs.map (·.1) = List.range n) : fs.Pairwise (Okp (befL all []) all) := by
  have h1 := feet_pair hf
  have h2 : (fs.map (·.1)).Pairwise (· < ·) := by rw [hn]; exact List.pairwise_lt_range
  rw [List.pairwise_map] at h2
  refine (h1.and h2).imp fun {p q} h => ?_
  obtain ⟨h, hlt⟩ := h
  rcases h with h | h
  · exact .inl h
  · rcases Classical.em (ordd (befL all []) p.1 q.1 = true) with ho | ho
    · exact .inl ho
    · exact .inr ⟨h, fun oi oj hi hj => ((stat_spec hs).2 p.1 q.1 oi oj hi hj hlt).resolve_left ho⟩

variable {P : Program}

theorem any_ok (hC : ∀ t r, C.ty t = some r → TOk P t r) (hE : ∀ t x, C.eqs t = some x → eqOk P t x = true) (hF : ∀ f H, C.fns f = some H → HdOk P f H.sem ∧ Enters P f)
    (hI : ∀ f, HdOk P f (inl f)) (hIe : ∀ f vs h r, inl f vs h = some r → Enters P f) {base : Option Nat} {ops : Array Oper} {Q : Exit → Act → World → Prop} (hst : statOk ops.toList (befL ops.toList []) = true) :
    ∀ {fuel : Nat} {l : List Nat} {listed : Array Bool} {G : Gh} {s : St} {a : Act} {w : World} {s' : St} {fs : List (Nat × Foot)}, fuel = l.length → l.Pairwise (· < ·) → (∀ x ∈ l, x < ops.size) →
      listed.size = ops.size → (∀ k, k < ops.size → (listed.getD k true = false ↔ k ∈ l)) →
      (∀ k o, ops[k]? = some o → k ∉ l → ∀ e ∈ o.after.toList, Region.binds .any e = true → e.on ∉ l) →
      Sim G s a w → opsF C inl base ops.toList l s = some (s', fs) → fs.Pairwise (Okp (befL ops.toList []) ops.toList) → Next G w s' (fun a w => Q .normal a w) → wpAny P .any ops Q fuel listed a w
  | fuel, l, listed, G, s, a, w, s', fs, hfu, hso, hlt, hsz, hli, hcl, hs, he, hp, hK => by
    obtain ⟨b1, b2⟩ := stat_spec hst
    have hget : ∀ k : Nat, ops.toList[k]? = ops[k]? := fun k => by simp
    have listedT : ∀ k, k < ops.size → k ∉ l → listed.getD k false = true := fun k hk hn => by
      have := fun h => hn ((hli k hk).1 h)
      have hk' : k < listed.size := by omega
      simp only [Array.getD_eq_getD_getElem?, Array.getElem?_eq_getElem hk', Option.getD_some] at this ⊢
      simpa using this
    cases l with
    | nil =>
      simp only [opsF, Option.some.injEq, Prod.mk.injEq] at he
      obtain ⟨rfl, _⟩ := he
      subst hfu
      refine ⟨?_, hK G a w hs (Ext.refl G w)⟩
      rw [List.eq_nil_iff_forall_not_mem]
      intro i hi
      obtain ⟨h1, o, ho, _⟩ := mem_ready.1 hi
      have := (hli i (Array.getElem?_eq_some_iff.1 ho).1).1 h1
      simp at this
    | cons x l =>
      subst hfu
      have hx : x < ops.size := hlt x (by simp)
      refine ⟨fun hr => ?_, fun i hi => ?_⟩
      · exfalso
        have hxr : x ∈ Region.ready .any ops listed := by
          refine mem_ready.2 ⟨(hli x hx).2 (by simp), ops[x], by simp [hx], fun e he hb => ?_⟩
          have hlt' := b1 x ops[x] (by simp [hx]) e (by simpa using he) hb
          refine listedT e.on (by omega) fun hm => ?_
          rcases List.mem_cons.1 hm with h' | h'
          · omega
          · have := (List.pairwise_cons.1 hso).1 e.on h'; omega
        rw [hr] at hxr; simp at hxr
      · obtain ⟨h1, o, ho, hall⟩ := mem_ready.1 hi
        have hil : i < ops.size := (Array.getElem?_eq_some_iff.1 ho).1
        have him := (hli i hil).1 h1
        have nolist : ∀ k, k < ops.size → listed.getD k false = true → k ∉ x :: l := fun k hk ht hm => by
          have := (hli k hk).2 hm
          have hk' : k < listed.size := by omega
          simp only [Array.getD_eq_getD_getElem?, Array.getElem?_eq_getElem hk', Option.getD_some] at this ht
          rw [this] at ht; simp at ht
        -- what stands before a listed operation is listed
        have chain : ∀ n k y, k ≤ n → k < ops.size → k ∉ x :: l → ordd (befL ops.toList []) y k = true → y ∉ x :: l := by
          intro n
          induction n with
          | zero =>
            intro k y hk0 hk hkn ho
            obtain ⟨o', ho', e, he, hb, hy⟩ := ordd_edge ho
            have := b1 k o' ho' e he hb
            omega
          | succ n ih =>
            intro k y hk0 hk hkn ho
            obtain ⟨o', ho', e, he, hb, hy⟩ := ordd_edge ho
            have hlt' := b1 k o' ho' e he hb
            have hen := hcl k o' (by rw [← hget]; exact ho') hkn e he hb
            rcases hy with rfl | hy
            · exact hen
            · exact ih e.on y (by omega) (by omega) hen hy
        have free : ∀ y ∈ x :: l, ordd (befL ops.toList []) y i = false := by
          intro y hy
          rw [← Bool.not_eq_true]
          intro ho2
          obtain ⟨o', ho', e, he, hb, hy'⟩ := ordd_edge ho2
          rw [hget, ho] at ho'
          simp only [Option.some.injEq] at ho'
          subst ho'
          have hlt' := b1 i o (by rw [hget]; exact ho) e he hb
          have hen := nolist e.on (by omega) (hall e (by simpa using he) hb)
          rcases hy' with rfl | hy'
          · exact hen hy
          · exact chain e.on e.on y (Nat.le_refl _) (by omega) hen hy' hy
        obtain ⟨l1, l2, hl⟩ := List.append_of_mem him
        rw [hl] at he
        obtain ⟨s1, f, fs', q1, q2, q3, q4⟩ := bubble (bs := befL ops.toList []) (fun y hy => free y (by rw [hl]; simp [hy])) (fun y hy => by rw [← hl] at hy; simpa using hlt y hy) he hp
        have hsub : (l1 ++ l2).Sublist (x :: l) := by rw [hl]; exact List.Sublist.append (List.Sublist.refl _) (List.sublist_cons_self _ _)
        have hnd : i ∉ l1 ++ l2 := by
          have hso' := hso
          rw [hl] at hso'
          intro hm
          rcases List.mem_append.1 hm with hm | hm
          · have := (List.pairwise_append.1 hso').2.2 i hm i (by simp); omega
          · have := (List.pairwise_cons.1 (List.pairwise_append.1 hso').2.1).1 i hm; omega
        have hmem : ∀ k, k ∈ l1 ++ l2 ↔ k ∈ x :: l ∧ k ≠ i := by
          intro k
          rw [hl]
          simp only [List.mem_append, List.mem_cons]
          constructor
          · intro hk
            refine ⟨?_, fun e => hnd (by rw [← e]; simpa using hk)⟩
            rcases hk with hk | hk
            · exact .inl hk
            · exact .inr (.inr hk)
          · rintro ⟨hk | hk | hk, hne⟩
            · exact .inl hk
            · exact absurd hk hne
            · exact .inr hk
        refine step_ok hC hE hF hI hIe hs q1 fun G' a' w' hs' he' => ?_
        refine any_ok hC hE hF hI hIe hst (l := l1 ++ l2) ?_ (hso.sublist hsub) (fun y hy => hlt y (hsub.subset hy)) (by simpa using hsz) (fun k hk => ?_) (fun k o' ho' hkn e he2 hb => ?_) hs' q2 (hp.sublist q3)
          (fun G2 a2 w2 hs2 he2 => hK G2 a2 w2 hs2 (he'.trans he2))
        · have := congrArg List.length hl
          simp at this ⊢
          omega
        · by_cases e : i = k
          · subst e
            have hi' : i < listed.size := by omega
            simp only [hmem, ne_eq, not_true_eq_false, and_false, iff_false]
            simp [hi']
          · rw [getD_set_ne true e, hmem, hli k hk]
            exact ⟨fun h => ⟨h, fun e' => e e'.symm⟩, fun h => h.1⟩
        · rw [hmem] at hkn ⊢
          intro hm
          by_cases e' : k = i
          · subst e'
            rw [ho] at ho'
            simp only [Option.some.injEq] at ho'
            subst ho'
            have hlt' := b1 k o (by rw [hget]; exact ho) e he2 hb
            exact nolist e.on (by omega) (hall e (by simpa using he2) hb) hm.1
          · exact hcl k o' ho' (fun hk => hkn ⟨hk, e'⟩) e he2 hb hm.1

end
end Go.RX

/-
  The operations, fifth part: slices; lengths; small ones.
-/
import Derived.Test.YtleejiihlldflaaGreatRk
namespace Go.RX

section
variable {P : Program} {G : Gh} {w : World} {h : List HObj}

def OptR (G : Gh) (w : World) : Option AV → Option Value → Prop
  | none, none => True
  | some a, some v => Rep G w a v
  | _, _ => False

theorem run_bound (k : IntKind) (i : Int) (y : Nat) (code : BoundsCode) (h0 : 0 ≤ i) (h1 : i ≤ y) : (Instr.sliceBound (.int k i) y code).run P w = .ok i.toNat w := by
  simp [Instr.sliceBound, asIntOf, h0, h1]

theorem run_bounds {lo hi : Option AV} {vl vh : Option Value} (hl : OptR G w lo vl) (hh : OptR G w hi vh) {len cap : Nat} {l u : Int} (bl : bnd lo 0 = some l) (bu : bnd hi len = some u)
    (h0 : 0 ≤ l) (h1 : l ≤ u) (h2 : u ≤ len) (h3 : len ≤ cap) (b : Bool) : (Instr.sliceBounds b len cap vl vh none).run P w = .ok (l.toNat, u.toNat, cap) w := by
  have hu : ((match vh, (none : Option Value) with
    | some v, some _ => Instr.sliceBound v cap .slice3B
    | some v, none => Instr.sliceBound v cap (if b then .sliceAcap else .sliceAlen)
    | none, none => pure len
    | none, some _ => stuck "Slice: max without high") : Sem Nat).run P w = .ok u.toNat w := by
    cases hi with
    | none => cases vh with
      | none => simp only [bnd, Option.some.injEq] at bu; subst bu; rfl
      | some v => exact hh.elim
    | some a => cases vh with
      | none => exact hh.elim
      | some v =>
        cases a <;> simp [bnd] at bu
        subst bu
        cases hh
        exact run_bound _ _ _ _ (by omega) (by omega)
  have hlo : ((match vl with
    | some v => Instr.sliceBound v u.toNat (if (none : Option Value).isSome then .slice3C else .sliceB)
    | none => pure 0) : Sem Nat).run P w = .ok l.toNat w := by
    cases lo with
    | none => cases vl with
      | none => simp only [bnd, Option.some.injEq] at bl; subst bl; rfl
      | some v => exact hl.elim
    | some a => cases vl with
      | none => exact hl.elim
      | some v =>
        cases a <;> simp [bnd] at bl
        subst bl
        cases hl
        exact run_bound _ _ _ _ h0 (by omega)
  unfold Instr.sliceBounds
  simp only [Sem.run_bind, Sem.run_pure, Result.andThen_ok]
  cases vh with
  | none =>
    simp only [Sem.run_pure, Result.ok.injEq, and_true] at hu
    cases vl with
    | none => simp only [Sem.run_pure, Result.ok.injEq, and_true] at hlo; simp [hu, hlo]
    | some v => simp only [Sem.run_bind, Sem.run_pure, Result.andThen_ok, hu, hlo]
  | some x =>
    cases vl with
    | none => simp only [Sem.run_pure, Result.ok.injEq, and_true] at hlo; simp [hu, hlo]
    | some v => simp only [Sem.run_bind, Sem.run_pure, Result.andThen_ok, hu, hlo]

theorem sub_SL {α : Type} {fr : Nat → Nat → Prop} {Q : α → List Value → Prop} {wd : Nat} {xs : List α} {a : Option Addr} (h : SL fr w Q wd xs a) (l u : Nat) :
    SL fr w Q wd ((xs.take u).drop l) (a.map (·.add (l * wd))) := by
  rcases h with h | ⟨B, o, rfl, hx⟩
  · subst h; exact .inl (by simp)
  · refine .inr ⟨B, o + l * wd, by simp [add_lit], fun i x hi => ?_⟩
    rw [List.getElem?_drop, List.getElem?_take] at hi
    split at hi
    · obtain ⟨us, h1, h2, h3⟩ := hx (l + i) x hi
      refine ⟨us, h1, h2, fun j v hj => ?_⟩
      have := h3 j v hj
      have e : o + (l + i) * wd + j = o + l * wd + i * wd + j := by rw [Nat.add_mul]; omega
      rw [e] at this
      exact this
    · simp at hi

theorem slice_data {T : Ty} {xs : List T.den} {a : Option Addr} {cap : Nat} {l u : Nat} (hl : l ≤ u) (hu : u ≤ xs.length) (hc : xs.length ≤ cap) (h : SL G.fr w (fun x us => DV G.fr w T x us) T.width xs a) :
    Rep G w (.lst T ((xs.take u).drop l)) (.slice (if cap = l then a else a.map (·.add (l * T.width))) (u - l) (cap - l)) := by
  have hlen : ((xs.take u).drop l).length = u - l := by simp [Nat.min_eq_left hu]
  rw [← hlen]
  refine .lst T _ _ _ (by rw [hlen]; omega) ?_
  split
  · have : u - l = 0 := by omega
    exact .inl (List.eq_nil_of_length_eq_zero (by omega))
  · exact sub_SL h l u

theorem run_sliceAt_slice {t e : TypeId} {r : TRow} (hu : P.underlying t = some (.slice e)) (hr : TOk P e r) (a : Option Addr) (len cap l u : Nat) (vl vh : Option Value)
    (hb : (Instr.sliceBounds true len cap vl vh none).run P w = .ok (l, u, cap) w) :
    (Instr.sliceAt t (.slice a len cap) vl vh none).run P w = .ok (.slice (if cap = l then a else a.map (·.add (l * r.size))) (u - l) (cap - l)) w := by
  simp only [Instr.sliceAt, Sem.run_bind, run_underlying hu, Result.andThen_ok, Instr.slice, hb, run_sizeOf' hr, Sem.run_pure]

theorem slice_ok {C : Cfg} (hC : ∀ t r, C.ty t = some r → TOk P t r) (s : SimH G h w) {t : TypeId} {x : AV} {v : Value} (hx : Rep G w x v) {lo hi : Option AV} {vl vh : Option Value}
    (hl : OptR G w lo vl) (hh : OptR G w hi vh) {out : Out} (ho : sliceA C t x lo hi h = some out) (hg : out.g = true) : OpOk P G w (Instr.sliceAt t v vl vh none) out.v out.h := by
  unfold sliceA at ho
  split at ho
  · rename_i _ _ _ _ ht
    have hu := und_str (hC t _ ht) rfl
    split at ho
    · rename_i st
      split at ho
      · rename_i l u hbl hbu
        simp only [Option.some.injEq] at ho; subst ho
        simp only [Bool.and_eq_true, decide_eq_true_eq] at hg
        cases hx
        refine opOk_pure (u := .string _) ?_ (.str _) s
        simp only [Instr.sliceAt, Sem.run_bind, run_underlying hu, Result.andThen_ok, Instr.slice, run_bounds hl hh hbl hbu hg.1.1 hg.1.2 hg.2 (Nat.le_refl _) false, Sem.run_pure,
          Option.isSome_none, Bool.false_eq_true, if_false]
      · simp at ho
    · simp at ho
  · rename_i e _ _ _ _ ht
    have hu := und_slice (hC t _ ht) rfl
    split at ho
    · rename_i r hr
      split at ho
      · rename_i T xs
        split at ho
        · rename_i l u hbl hbu
          cases hsz : Nat.beq r.size T.width with
          | false => rw [hsz] at ho; simp at ho
          | true =>
            rw [hsz] at ho
            simp only [cond_true, Option.some.injEq] at ho; subst ho
            simp only [Bool.and_eq_true, decide_eq_true_eq] at hg
            cases hx
            rename_i a cap hcp hsl
            have hrun := run_sliceAt_slice hu (hC e r hr) a xs.length cap l.toNat u.toNat vl vh (run_bounds (P := P) hl hh hbl hbu hg.1.1 hg.1.2 hg.2 hcp true)
            rw [Nat.eq_of_beq_eq_true hsz] at hrun
            exact opOk_pure hrun (slice_data (by omega) (by omega) hcp hsl) s
        · simp at ho
      · rename_i k
        split at ho
        · rename_i e' T xs lk hk
          split at ho
          · rename_i l u hbl hbu
            cases hsz : Nat.beq r.size T.width with
            | false => rw [hsz] at ho; simp at ho
            | true =>
              rw [hsz] at ho
              simp only [cond_true, Option.some.injEq] at ho; subst ho
              simp only [Bool.and_eq_true, decide_eq_true_eq] at hg
              obtain ⟨G1, s1, e1, n1, d1⟩ := lock1 s k
              obtain ⟨a, cap, q1, q2, q3⟩ := d1 e' T xs lk hk
              have hx1 := hx.mono e1
              cases hx1
              have hrun := run_sliceAt_slice hu (hC e r hr) a xs.length cap l.toNat u.toNat vl vh (run_bounds (P := P) hl hh hbl hbu hg.1.1 hg.1.2 hg.2 q2 true)
              rw [Nat.eq_of_beq_eq_true hsz] at hrun
              rw [q1]
              exact ⟨_, _, G1, hrun, slice_data (by omega) (by omega) q2 q3, s1, e1⟩
          · simp at ho
        · simp at ho
      · simp at ho
    · simp at ho
  · rename_i n e _ _ _ _ ht
    have hu := und_arr (hC t _ ht) rfl
    split at ho
    · rename_i r hr
      split at ho
      · rename_i b off
        split at ho
        · rename_i cs hcs
          cases hb : (Nat.beq r.size r.dt.width && Nat.beq (vecIds cs).length 0 && Nat.ble 1 (n * r.size)) with
          | false => rw [hb] at ho; simp at ho
          | true =>
            rw [hb] at ho
            simp only [cond_true] at ho
            split at ho
            · rename_i xs hxs
              simp only [Option.some.injEq] at ho; subst ho
              simp only [Bool.and_eq_true, Nat.beq_eq] at hb
              obtain ⟨⟨hb1, hb2⟩, hb3⟩ := hb
              have hb3 := Nat.le_of_ble_eq_true hb3
              have hv0 : vecIds cs = [] := List.eq_nil_of_length_eq_zero hb2
              obtain rfl : vl = none := by cases vl with
                | none => rfl
                | some v => exact hl.elim
              obtain rfl : vh = none := by cases vh with
                | none => rfl
                | some v => exact hh.elim
              unfold rd at hcs
              split at hcs
              · rename_i b' off' heq
                obtain ⟨rfl, rfl⟩ : b = b' ∧ off = off' := by simpa using heq
                split at hcs
                · rename_i cells lk hbh
                  cases hle : Nat.ble (off + n * r.size) cells.length with
                  | false => rw [hle] at hcs; simp at hcs
                  | true =>
                    rw [hle] at hcs
                    simp only [cond_true, Option.some.injEq] at hcs
                    have hle' := Nat.le_of_ble_eq_true hle
                    obtain ⟨G1, s1, e1, n1, _⟩ := lock1 s b
                    have hlk : (lockAt b h)[b]? = some (.val cells true) := by rw [lockAt_get, if_pos rfl, hbh]
                    obtain ⟨B, T, vs, q1, q2, q3, q4, q5⟩ := s1.objs b _ hlk
                    have hx1 := hx.mono e1
                    cases hx1
                    rename_i B' hbn hl'
                    rw [q1] at hl'
                    simp only [Value.pointer.injEq, Option.some.injEq, Addr.mk.injEq, and_true] at hl'
                    subst hl'
                    have hlen : cells.length = vs.size := by simpa using q4.1
                    have hrep : RepL G1 w cs ((vs.toList.drop off).take (n * r.size)) := by rw [← hcs]; exact (q4.drop off).take _
                    obtain ⟨x1, x2, x3⟩ := unrows_rep hrep (fun k hk => by rw [hv0] at hk; simp at hk) hxs
                    have hne : n ≠ 0 := by intro e; subst e; simp at hb3
                    refine ⟨_, _, G1, ?_, .lst r.dt xs (some ⟨B, off, none⟩) n (by omega) (.inr ⟨B, off, rfl, fun i x hi => ⟨_, x3 i x hi, (x3 i x hi).len, fun j u hj => ?_⟩⟩), s1, e1⟩
                    · rw [x1]
                      simp only [Instr.sliceAt, Sem.run_bind, run_underlying hu, Result.andThen_ok, Instr.sureAddr, Instr.sliceBounds, Sem.run_pure, run_sizeOf' (hC e r hr)]
                      rw [if_neg hne]
                      simp [Addr.add]
                    · have hi' : i < n := by rw [← x1]; exact (List.getElem?_eq_some_iff.1 hi).1
                      have hjl : j < r.dt.width := by
                        have := (List.getElem?_eq_some_iff.1 hj).1
                        simp at this; omega
                      have hb : i * r.dt.width + j < n * r.size := by
                        rw [hb1]
                        have : (i + 1) * r.dt.width ≤ n * r.dt.width := Nat.mul_le_mul_right _ hi'
                        rw [Nat.add_mul] at this
                        omega
                      rw [List.getElem?_take, if_pos hjl, List.getElem?_drop, List.getElem?_take, if_pos hb, List.getElem?_drop] at hj
                      refine ⟨(q5 _ (by omega)).2 rfl, ?_⟩
                      simp only [World.cell?, q2]
                      rw [show off + i * r.dt.width + j = off + (i * r.dt.width + j) by omega]
                      simpa using hj
                · simp at hcs
              all_goals first | contradiction | (simp at hcs; done) | simp_all
            · simp at ho
        · simp at ho
      · simp at ho
    · simp at ho
  · simp at ho

theorem makeSlice_ok {C : Cfg} (hC : ∀ t r, C.ty t = some r → TOk P t r) (s : SimH G h w) {t : TypeId} {x y : AV} {vx vy : Value} (hx : Rep G w x vx) (hy : Rep G w y vy) {out : Out}
    (ho : makeSliceA C t x y h = some out) (hg : out.g = true) : OpOk P G w (Instr.makeSlice t vx vy) out.v out.h := by
  unfold makeSliceA at ho
  split at ho
  · rename_i e _ _ _ _ _ a _ c ht
    have hu := und_slice (hC t _ ht) rfl
    split at ho
    · rename_i r hr
      have hte := hC e r hr
      cases hb : (Nat.beq r.size r.dt.width && Nat.ble 1 r.size && Nat.ble r.bytes 16384) with
      | false => rw [hb] at ho; simp at ho
      | true =>
        rw [hb] at ho
        simp only [cond_true, Option.some.injEq] at ho; subst ho
        simp only [Bool.and_eq_true, Nat.beq_eq, decide_eq_true_eq] at hb hg
        obtain ⟨⟨hb1, hb2⟩, hb3⟩ := hb
        have hb2 := Nat.le_of_ble_eq_true hb2
        have hb3 := Nat.le_of_ble_eq_true hb3
        obtain ⟨⟨g1, g2⟩, g3⟩ := hg
        cases hx; cases hy
        obtain ⟨i, d, z, hi, hd, h1, h2, h3, h4, h5⟩ := hte.ex
        have hzz : z.cells.toList = zval r.dt := by rw [h4]; exact hte.zd hb1
        have hzs : z.cells.size = r.size := by
          have := congrArg List.length h4
          rw [hte.zl] at this
          simpa using this
        have hby : (i.bytes : Int) * c ≤ 281474976710656 := by
          have ha : (i.bytes : Int) ≤ 16384 := by rw [h2]; omega
          have hb : (i.bytes : Int) * c ≤ 16384 * c := Int.mul_le_mul_of_nonneg_right ha (by omega)
          omega
        have hrun := fun kl kc => run_make (P := P) w t e i z hu hi h3 kl kc a c g1 g2 hby (by omega)
        have hrows := rows_zero z.cells c.toNat
        rw [hzs, hzz] at hrows
        have hnv := new_vec s e r.dt (List.replicate a.toNat r.dt.dflt) (madeCells z.cells (c.toNat * i.size)) c.toNat (by omega) (by rw [size_madeCells, h1, hb1]) (by simp; omega) (by unfold maxLen; omega) (by
          intro j x hj
          have hj' : j < a.toNat := by have := (List.getElem?_eq_some_iff.1 hj).1; simpa using this
          rw [List.getElem?_replicate, if_pos hj'] at hj
          simp only [Option.some.injEq] at hj
          subst hj
          have hz := zval_DV G.fr w r.dt
          have : ((madeCells z.cells (c.toNat * i.size)).toList.drop (j * r.dt.width)).take r.dt.width = zval r.dt := by
            have hm : (madeCells z.cells (c.toNat * i.size)).toList = (List.replicate c.toNat (zval r.dt)).flatten := by
              rw [← hrows, madeCells, h1, hzs]
            rw [hm]
            have hw := hz.len
            have key : ∀ (j n : Nat), j < n → ((List.replicate n (zval r.dt)).flatten.drop (j * r.dt.width)).take r.dt.width = zval r.dt := by
              intro j
              induction j with
              | zero =>
                intro n hn
                obtain ⟨n, rfl⟩ : ∃ m, n = m + 1 := ⟨n - 1, by omega⟩
                simp [List.replicate_succ, ← hw]
              | succ j ih =>
                intro n hn
                obtain ⟨n, rfl⟩ : ∃ m, n = m + 1 := ⟨n - 1, by omega⟩
                rw [List.replicate_succ, List.flatten_cons, Nat.add_mul, Nat.one_mul, Nat.add_comm, ← List.drop_drop]
                have e : (zval r.dt ++ (List.replicate n (zval r.dt)).flatten).drop r.dt.width = (List.replicate n (zval r.dt)).flatten := by rw [← hw]; simp
                rw [e]
                exact ih n (by omega)
            exact key j c.toNat (by omega)
          rw [this]; exact hz) false
        obtain ⟨a1, a2, a3⟩ := hnv
        rw [List.length_replicate] at a3 a2 a1
        exact ⟨_, _, _, hrun _ _, a3, a2, a1⟩
    · simp at ho
  · simp at ho

theorem len_ok {C : Cfg} (hC : ∀ t r, C.ty t = some r → TOk P t r) (s : SimH G h w) {t ty : TypeId} {x : AV} {v : Value} (hx : Rep G w x v) {out : Out} (ho : lenA C t x h = some out) :
    OpOk P G w (Builtin.len_ #[t] ty #[v]) out.v out.h ∧ out.h = h ∧ out.g = true := by
  unfold lenA at ho
  split at ho
  · split at ho
    · rename_i ht
      simp only [Option.some.injEq] at ho; subst ho
      cases hx
      exact ⟨opOk_pure (u := .int .i64 _) (by simp [Builtin.len_, run_underlying (und_str (hC t _ ht) rfl), goInt]) (.int _ _) s, rfl, rfl⟩
    · simp at ho
  · split at ho
    · rename_i ht
      simp only [Option.some.injEq] at ho; subst ho
      cases hx
      exact ⟨opOk_pure (u := .int .i64 _) (by simp [Builtin.len_, run_underlying (und_slice (hC t _ ht) rfl), goInt]) (.int _ _) s, rfl, rfl⟩
    · simp at ho
  · split at ho
    · rename_i ht
      simp only [Option.some.injEq] at ho; subst ho
      cases hx
      exact ⟨opOk_pure (u := .int .i64 0) (by simp [Builtin.len_, run_underlying (und_slice (hC t _ ht) rfl), goInt]) (.int _ _) s, rfl, rfl⟩
    · simp at ho
  · rename_i k
    split at ho
    · rename_i ht
      split at ho
      · rename_i e T xs lk hk
        simp only [Option.some.injEq] at ho; subst ho
        obtain ⟨q0, q1, us, q2, q3, q4⟩ := s.objs k _ hk
        cases hx
        rcases q2.2 with ⟨r1, r2⟩ | ⟨g, cap, cur, r1, _⟩
        · rw [r1]
          exact ⟨opOk_pure (u := .int .i64 0) (by simp [Builtin.len_, run_underlying (und_slice (hC t _ ht) rfl), goInt]) (by rw [r2]; exact .int _ _) s, rfl, rfl⟩
        · rw [r1]
          exact ⟨opOk_pure (u := .int .i64 xs.length) (by simp [Builtin.len_, run_underlying (und_slice (hC t _ ht) rfl), goInt]) (.int _ _) s, rfl, rfl⟩
      · simp at ho
    · simp at ho
  · split at ho
    · rename_i ht
      simp only [Option.some.injEq] at ho; subst ho
      exact ⟨opOk_pure (u := .int .i64 _) (by simp [Builtin.len_, run_underlying (und_arr (hC t _ ht) rfl), goInt]) (.int _ _) s, rfl, rfl⟩
    · simp at ho

theorem min_ok : ∀ {xs : List AV} {x y : AV} {vx : Value} {vs : List Value}, Rep G w x vx → RepL G w xs vs → minA x xs = some y → ∃ u, (vs.foldlM Builtin.min2 vx).run P w = .ok u w ∧ Rep G w y u
  | [], x, y, vx, vs, hx, hs, hm => by
    rw [hs.nil_inv]
    simp only [minA, Option.some.injEq] at hm
    subst hm
    exact ⟨vx, by simp, hx⟩
  | z :: xs, x, y, vx, vs, hx, hs, hm => by
    obtain ⟨v, us, rfl, h1, h2⟩ := hs.cons_inv
    cases x <;> cases z <;> simp only [minA] at hm <;> try (simp at hm; done)
    split at hm
    · cases hx; cases h1
      obtain ⟨u, hu, hr⟩ := min_ok (.int _ _) h2 hm
      exact ⟨u, by simpa [Builtin.min2] using hu, hr⟩
    · simp at hm

theorem max_ok : ∀ {xs : List AV} {x y : AV} {vx : Value} {vs : List Value}, Rep G w x vx → RepL G w xs vs → maxA x xs = some y → ∃ u, (vs.foldlM Builtin.max2 vx).run P w = .ok u w ∧ Rep G w y u
  | [], x, y, vx, vs, hx, hs, hm => by
    rw [hs.nil_inv]
    simp only [maxA, Option.some.injEq] at hm
    subst hm
    exact ⟨vx, by simp, hx⟩
  | z :: xs, x, y, vx, vs, hx, hs, hm => by
    obtain ⟨v, us, rfl, h1, h2⟩ := hs.cons_inv
    cases x <;> cases z <;> simp only [maxA] at hm <;> try (simp at hm; done)
    split at hm
    · cases hx; cases h1
      obtain ⟨u, hu, hr⟩ := max_ok (.int _ _) h2 hm
      exact ⟨u, by simpa [Builtin.max2] using hu, hr⟩
    · simp at hm

end
end Go.RX

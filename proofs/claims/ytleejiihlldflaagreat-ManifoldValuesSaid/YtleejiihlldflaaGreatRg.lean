/-
  The operations: what the abstract machine says of them holds.
-/
import Derived.Test.YtleejiihlldflaaGreatRf
namespace Go.RX

/-- An operation yields what the abstract machine says. -/
def OpOk (P : Program) (G : Gh) (w : World) (m : Sem Value) (v : AV) (h : List HObj) : Prop :=
  ∃ u w' G', m.run P w = .ok u w' ∧ Rep G' w' v u ∧ SimH G' h w' ∧ Ext G w G' w'

theorem opOk_pure {P : Program} {G : Gh} {w : World} {m : Sem Value} {v : AV} {h : List HObj} {u : Value} (hm : m.run P w = .ok u w) (hr : Rep G w v u) (s : SimH G h w) : OpOk P G w m v h :=
  ⟨u, w, G, hm, hr, s, Ext.refl G w⟩

section
variable {P : Program} {G : Gh} {w : World} {h : List HObj}

theorem isAggK_of {k : TK} {d : TypeDesc} (hk : kOk P k d = true) : (match d with | .struct _ | .array _ _ => true | _ => false) = isAggK k := by
  cases k <;> cases d <;> first | rfl | exact absurd (show false = true from hk) (by simp)

theorem run_isAgg {t : TypeId} {r : TRow} (ht : TOk P t r) (w : World) : (isAgg t).run P w = .ok (isAggK r.k) w := by
  obtain ⟨i, d, z, hi, hd, h1, h2, h3, h4, h5⟩ := ht.ex
  rw [← isAggK_of h5]
  simp only [isAgg, Sem.run_bind, run_underlying hd, Result.andThen_ok]
  cases d <;> rfl

theorem run_sizeOf' {t : TypeId} {r : TRow} (ht : TOk P t r) (w : World) : (sizeOf t).run P w = .ok r.size w := by
  obtain ⟨i, d, z, hi, hd, h1, h2, h3, h4, h5⟩ := ht.ex
  rw [run_sizeOf w hi]
  simp [Program.cellsOf, hi, h1]

theorem run_zero' {t : TypeId} {r : TRow} (ht : TOk P t r) (w : World) : ∃ z, (zeroValue t).run P w = .ok z w ∧ z.cells.toList = r.z := by
  obtain ⟨i, d, z, hi, hd, h1, h2, h3, h4, h5⟩ := ht.ex
  refine ⟨z, ?_, h4⟩
  simp [zeroValue, run_typeInfo w hi, h3]

theorem alloc_ok {t : TypeId} {r : TRow} (ht : TOk P t r) (s : SimH G h w) (old : Value) :
    OpOk P G w (Instr.alloc t true old) (.ptr h.length 0) (h ++ [.val (r.z.map ofAtom) false]) := by
  obtain ⟨z, hz, hz2⟩ := run_zero' ht w
  obtain ⟨e, s', rp⟩ := new_val s z.cells t (r.z.map ofAtom) (by rw [hz2]; exact repL_atoms G w _)
  refine ⟨_, _, _, ?_, rp, s', e⟩
  simp only [Instr.alloc, Sem.run_bind, hz, Result.andThen_ok]
  simp [newVar, newRow]

theorem box_ok {t : TypeId} {c : AV} {v : Value} (hr : Rep G w c v) (hb : boxable c = true) (s : SimH G h w) :
    OpOk P G w (Instr.box t v) (.ptr h.length 0) (h ++ [.val (cellsOf c) false]) := by
  obtain ⟨e, s', rp⟩ := new_val s v.cells t (cellsOf c) (rep_cells hr hb)
  refine ⟨_, _, _, ?_, rp, s', e⟩
  simp [Instr.box, newVar, newRow]

theorem loadVar_agg {t : TypeId} {r : TRow} (ht : TOk P t r) (hk : isAggK r.k = true) {B o : Nat} {us : List Value} (hl : us.length = r.size) (hc : ∀ j u, us[j]? = some u → w.cell? ⟨B, o + j, none⟩ = some u) :
    (loadVar t ⟨B, o, none⟩).run P w = .ok (.agg us.toArray) w := by
  simp only [loadVar, Sem.run_bind, run_isAgg ht, Result.andThen_ok, hk, if_true, run_sizeOf' ht]
  rw [← hl, run_loadCells_list w ⟨B, o, none⟩ us (fun j v hj => by rw [add_lit]; exact hc j v hj)]
  rfl

theorem loadVar_atom {t : TypeId} {r : TRow} (ht : TOk P t r) (hk : isAggK r.k = false) {B o : Nat} {x : Value} (hc : w.cell? ⟨B, o, none⟩ = some x) :
    (loadVar t ⟨B, o, none⟩).run P w = .ok x w := by
  simp only [loadVar, Sem.run_bind, run_isAgg ht, Result.andThen_ok, hk, Bool.false_eq_true, if_false]
  simp [run_load, hc]

theorem load_var {C : Cfg} (hC : ∀ t r, C.ty t = some r → TOk P t r) (s : SimH G h w) {t : TypeId} {a : AV} {v : Value} (ha : Rep G w a v) {out : Out} (ho : loadA C t a h = some out) :
    (∃ B o u, v = .pointer (some ⟨B, o, none⟩) ∧ (loadVar t ⟨B, o, none⟩).run P w = .ok u w ∧ Rep G w out.v u) ∧ out.h = h ∧ out.g = true := by
  unfold loadA at ho
  split at ho
  · rename_i r hr
    have ht := hC t r hr
    split at ho
    · rename_i cs hcs
      obtain ⟨B, o, us, rfl, hrep, hlen, hcell⟩ := rd_ok s ha hcs
      cases hk : isAggK r.k with
      | true =>
        rw [hk] at ho
        simp only [cond_true, Option.some.injEq] at ho
        subst ho
        exact ⟨⟨B, o, .agg us.toArray, rfl, loadVar_agg ht hk hlen hcell, .agg _ _ (by simpa using hrep.1) fun i c v hc hv => hrep.2 i c v hc (by simpa using hv)⟩, rfl, rfl⟩
      | false =>
        rw [hk] at ho
        simp only [cond_false] at ho
        split at ho
        · rename_i c
          simp only [Option.some.injEq] at ho
          subst ho
          obtain ⟨x, rest, rfl, h1, h2⟩ := hrep.cons_inv
          exact ⟨⟨B, o, x, rfl, loadVar_atom ht hk (by simpa using hcell 0 x rfl), h1⟩, rfl, rfl⟩
        · simp at ho
    · simp at ho
  · simp at ho

theorem load_ok {C : Cfg} (hC : ∀ t r, C.ty t = some r → TOk P t r) (s : SimH G h w) {t : TypeId} {a : AV} {v : Value} (ha : Rep G w a v) {out : Out} (ho : loadA C t a h = some out) :
    OpOk P G w (Instr.loadAt t v) out.v out.h ∧ out.h = h ∧ out.g = true := by
  obtain ⟨⟨B, o, u, rfl, h1, h2⟩, h3, h4⟩ := load_var hC s ha ho
  refine ⟨?_, h3, h4⟩
  rw [h3]
  refine opOk_pure (u := u) ?_ h2 s
  simp only [Instr.loadAt, Instr.sureAddr, Sem.run_bind, Sem.run_pure, Result.andThen_ok]
  exact h1

/- STORES -/

theorem setRow_get (w : World) (B : Nat) (cs : Array Value) (B' : Nat) (h : B' ≠ B) : (w.setRow B cs).heap[B']? = w.heap[B']? := by
  simp only [World.setRow, Array.getElem?_modify]
  rw [if_neg (fun e => h e.symm)]

theorem setRow_fz {w : World} {B : Nat} {old new : Array Value} {T : TypeId} (hB : w.heap[B]? = some (.cells old T (0, 0))) (a : Addr) : (w.setRow B new).frozen? a = w.frozen? a := by
  unfold World.frozen?
  by_cases e : a.block = B
  · rw [e, hB, setRow_heap w B old new T (0, 0) hB]
  · rw [setRow_get w B new a.block e]

/-- An object's own row is turned: the others, and what nobody writes, stay. -/
theorem sim_row (s : SimH G h w) {b B : Nat} {old new : Array Value} {T : TypeId} (hb : G.bo B = some b) (hB : w.heap[B]? = some (.cells old T (0, 0)))
    (hfr : ∀ o, G.fr B o → new[o]? = old[o]?) :
    Ext G w G (w.setRow B new) ∧ ∀ x : HObj, OkO G (w.setRow B new) b x → SimH G (h.set b x) (w.setRow B new) := by
  have e : Ext G w G (w.setRow B new) := by
    refine ⟨Nat.le_refl _, fun _ _ _ => ⟨rfl, rfl⟩, rfl, rfl, rfl, by simp [World.setRow], fun B' _ hb' => ⟨setRow_get w B new B' (fun e => by rw [e, hb] at hb'; simp at hb'), hb', fun _ => Iff.rfl⟩, fun B' o u h1 h2 => ⟨h1, ?_⟩, setRow_fz hB⟩
    by_cases e : B' = B
    · subst e
      simp only [World.cell?, hB, setRow_heap w B' old new T (0, 0) hB] at h2 ⊢
      simpa [hfr o h1] using h2
    · simp only [World.cell?, setRow_get w B new B' e] at h2 ⊢
      exact h2
  refine ⟨e, fun x hx => ⟨by simp [s.n], fun b' o hb' => ?_, fun B' b' hb' => ?_⟩⟩
  · rw [List.getElem?_set] at hb'
    by_cases eb : b = b'
    · subst eb
      rw [if_pos rfl] at hb'
      split at hb'
      · simp only [Option.some.injEq] at hb'; subst hb'; exact hx
      · simp at hb'
    · rw [if_neg eb] at hb'
      refine (s.objs b' o hb').mono e ⟨rfl, rfl⟩ fun B' hB' => ⟨setRow_get w B new B' (fun e => eb ?_), hB', fun _ => Iff.rfl⟩
      rw [e, hb] at hB'
      exact Option.some.inj hB'
  · obtain ⟨h1, h2⟩ := s.own B' b' hb'
    exact ⟨h1, by simpa [World.setRow] using h2⟩

theorem splice_len (cs : List AV) (off : Nat) (vs : List AV) (hl : off + vs.length ≤ cs.length) : (splice cs off vs).length = cs.length := by
  simp [splice]; omega

theorem splice_rep {G : Gh} {w : World} {cs vs : List AV} {cv vv : List Value} (hc : RepL G w cs cv) (hv : RepL G w vs vv) (off : Nat) :
    RepL G w (splice cs off vs) (cv.take off ++ vv ++ cv.drop (off + vv.length)) := by
  unfold splice
  rw [← hv.1]
  exact ((hc.take off).append hv).append (hc.drop _)

theorem lockAll_get {b : Nat} : ∀ {ks : List Nat} {h : List HObj}, (∀ j ∈ ks, ¬ j = b) → (lockAll ks h)[b]? = h[b]?
  | [], _, _ => rfl
  | k :: ks, h, hn => by
    simp only [lockAll]
    rw [lockAll_get fun j hj => hn j (by simp [hj]), lockAt_get, if_neg (fun e => hn k (by simp) e.symm)]

/-- A store into an element of a vector's own row. -/
theorem store_row {G0 : Gh} {h0 : List HObj} (s : SimH G h w) {k i off B n cap : Nat} {e t : TypeId} {T : Ty} {xs : List T.den} (hk : h[k]? = some (.vec e T xs false))
    (hloc : G.loc k = .slice (some ⟨B, 0, none⟩) n cap) (hi : i < n) (hwd : G.wd k = G0.wd k) {cs : List AV} {vc : Value} (hr : RepL G w cs vc.cells.toList) (hle : off + cs.length ≤ T.width)
    (hone : ∀ v ∈ vc.cells.toList, v.oneCell' = true) {r : TRow} (hlen : cs.length = r.size) (ht : TOk P t r) (hse : ∀ j ∈ vecIds cs, Sealed G w h0 j) {x : T.den}
    (hx : unflat h0 T (splice (flat T (xs.getD i T.dflt)) off cs) = some (x, [])) (e0 : Ext G0 w G w) :
    ∃ w' G', (Instr.storeAt t (.pointer (some ⟨B, i * G0.wd k + off, none⟩)) vc).run P w = .ok () w' ∧ SimH G' (h.set k (.vec e T (xs.set i x) false)) w' ∧ Ext G0 w G' w' := by
  obtain ⟨q0, q1, us, q2, q3, q4⟩ := s.objs k _ hk
  rcases q2.2 with ⟨r1, r2⟩ | ⟨g, cap', cur, r1, r8, r3, r4, r5, r6, r7⟩
  · rw [hloc] at r1; simp at r1
  rw [hloc] at r1
  simp only [Value.slice.injEq, Option.some.injEq, Addr.mk.injEq, and_true] at r1
  obtain ⟨rfl, rfl, rfl⟩ := r1
  rw [← hwd, q1]
  have hul : us.length = xs.length * T.width := q2.1
  obtain ⟨o1, o2, o3⟩ := q4 B (by rw [hloc]; rfl)
  have hb : (i + 1) * T.width ≤ xs.length * T.width := Nat.mul_le_mul_right _ hi
  rw [Nat.add_mul, Nat.one_mul] at hb
  have hcc : xs.length * T.width ≤ cap * T.width := Nat.mul_le_mul_right _ r4
  have hcs : cur.toList.length = cap * T.width := by simpa using r6
  have hcl : cs.length = vc.cells.toList.length := hr.1
  have hrun := run_storeCells_at P B (i * T.width + off) e vc.cells.toList 0 cur w r3 (by rw [← hcl]; have : cur.size = cur.toList.length := Array.length_toList.symm; omega) hone
  rw [Nat.add_zero] at hrun
  generalize hnew : (cur.toList.take (i * T.width + off) ++ vc.cells.toList ++ cur.toList.drop (i * T.width + off + vc.cells.toList.length)) = new at *
  have hnl : new.length = cap * T.width := by
    rw [← hnew, List.length_append, List.length_append, List.length_take, List.length_drop]; omega
  obtain ⟨ex, f⟩ := sim_row s (new := new.toArray) o1 r3 (fun o hfo => absurd hfo (o2 rfl o))
  have hget : ∀ j, new[j]? = if i * T.width + off ≤ j ∧ j < i * T.width + off + cs.length then vc.cells.toList[j - (i * T.width + off)]? else cur.toList[j]? := by
    intro j
    rw [← hnew, List.append_assoc]
    by_cases h1 : j < i * T.width + off
    · rw [List.getElem?_append_left (by rw [List.length_take]; omega), List.getElem?_take, if_pos h1, if_neg (by omega)]
    · rw [List.getElem?_append_right (by rw [List.length_take]; omega)]
      have : (cur.toList.take (i * T.width + off)).length = i * T.width + off := by rw [List.length_take]; omega
      rw [this]
      by_cases h2 : j < i * T.width + off + cs.length
      · rw [List.getElem?_append_left (by omega), if_pos ⟨by omega, h2⟩]
      · rw [List.getElem?_append_right (by omega), if_neg (by omega), List.getElem?_drop]
        congr 1; omega
  have hcu : ∀ j, j < xs.length * T.width → cur.toList[j]? = us[j]? := fun j hj => by
    rw [← r7, List.getElem?_take, if_pos hj]
  -- the element, as it now stands
  have hel : i < xs.length := hi
  have hxi : xs[i]? = some (xs.getD i T.dflt) := by rw [List.getD_eq_getElem?_getD, List.getElem?_eq_getElem hel]; rfl
  have hrow := flat_rep (q3 i _ hxi)
  have hspl := splice_rep hrow hr off
  have hse' : ∀ j ∈ vecIds (splice (flat T (xs.getD i T.dflt)) off cs), Sealed G w h0 j := by
    intro j hj
    refine hse j ?_
    have hnv : ∀ j, j ∉ vecIds (flat T (xs.getD i T.dflt)) := flat_noVec _ _
    have hmem : ∀ (l : List AV) (j : Nat), j ∈ vecIds l ↔ .vec j ∈ l := vecIds_mem
    rw [hmem] at hj ⊢
    unfold splice at hj
    simp only [List.mem_append] at hj
    rcases hj with (hj | hj) | hj
    · exact absurd ((hmem _ _).2 (List.mem_of_mem_take hj)) (hnv j)
    · exact hj
    · exact absurd ((hmem _ _).2 (List.mem_of_mem_drop hj)) (hnv j)
  obtain ⟨v1, v2, hv, hd, hr2, _⟩ := unflat_rep hspl hse' hx
  have := hr2.nil_inv
  subst this
  rw [List.append_nil] at hv
  refine ⟨_, G, ?_, f (.vec e T (xs.set i x) false) ?_, e0.trans ex⟩
  · simp only [Instr.storeAt, Instr.sureAddr, Sem.run_bind, Sem.run_pure, Result.andThen_ok, storeVar, run_sizeOf' ht]
    rw [if_neg (by rw [← hlen, hcl]; simp)]
    exact hrun
  · refine ⟨q0, q1, new.take (xs.length * T.width), ?_, fun j y hj => ?_, fun B' hB' => ?_⟩
    · refine ⟨by rw [List.length_take, List.length_set]; omega, .inr ⟨B, cap, new.toArray, ?_, r8, setRow_heap w B cur _ e (0, 0) r3, by simpa using r4, r5, by simpa using hnl, by simp⟩⟩
      rw [hloc, List.length_set]
    · refine DV.mono ex.keeps ?_
      have hjl : j < xs.length := by simpa using (List.getElem?_eq_some_iff.1 hj).1
      have hb2 : (j + 1) * T.width ≤ xs.length * T.width := Nat.mul_le_mul_right _ hjl
      rw [Nat.add_mul, Nat.one_mul] at hb2
      by_cases eij : i = j
      · subst eij
        rw [List.getElem?_set, if_pos rfl, if_pos hel] at hj
        simp only [Option.some.injEq] at hj
        subst hj
        have : v1 = ((new.take (xs.length * T.width)).drop (i * T.width)).take T.width := by
          rw [← hv]
          have hl : ((us.drop (i * T.width)).take T.width).length = T.width := by rw [List.length_take, List.length_drop]; omega
          apply List.ext_getElem?
          intro m
          rw [List.append_assoc, List.getElem?_take, List.getElem?_drop, List.getElem?_take]
          by_cases hm : m < T.width
          · rw [if_pos hm, if_pos (by omega), hget]
            by_cases h1 : m < off
            · rw [if_neg (by omega), List.getElem?_append_left (by rw [List.length_take]; omega), List.getElem?_take, if_pos h1, List.getElem?_take, if_pos hm, List.getElem?_drop, hcu _ (by omega)]
            · rw [List.getElem?_append_right (by rw [List.length_take]; omega)]
              have e1 : (((us.drop (i * T.width)).take T.width).take off).length = off := by rw [List.length_take]; omega
              rw [e1]
              by_cases h2 : m < off + cs.length
              · rw [if_pos (by omega), List.getElem?_append_left (by omega)]
                congr 1; omega
              · rw [if_neg (by omega), List.getElem?_append_right (by omega), List.getElem?_drop, List.getElem?_take, if_pos (by omega), List.getElem?_drop, hcu _ (by omega)]
                congr 1; omega
          · rw [if_neg hm]
            apply List.getElem?_eq_none
            rw [List.length_append, List.length_append, List.length_take, List.length_drop, hl]; omega
        rw [← this]; exact hd
      · rw [List.getElem?_set, if_neg eij] at hj
        have h1 := q3 j y hj
        have : ((us.drop (j * T.width)).take T.width) = ((new.take (xs.length * T.width)).drop (j * T.width)).take T.width := by
          apply List.ext_getElem?
          intro m
          rw [List.getElem?_take, List.getElem?_take, List.getElem?_drop, List.getElem?_drop, List.getElem?_take]
          by_cases hm : m < T.width
          · have hd' : j * T.width + m < i * T.width ∨ i * T.width + T.width ≤ j * T.width + m := by
              rcases Nat.lt_or_gt_of_ne eij with hlt | hgt
              · right
                have : (i + 1) * T.width ≤ j * T.width := Nat.mul_le_mul_right _ hlt
                rw [Nat.add_mul, Nat.one_mul] at this
                omega
              · left
                have : (j + 1) * T.width ≤ i * T.width := Nat.mul_le_mul_right _ hgt
                rw [Nat.add_mul, Nat.one_mul] at this
                omega
            rw [if_pos hm, if_pos hm, if_pos (by omega), hget, if_neg (by omega), hcu _ (by omega)]
          · rw [if_neg hm, if_neg hm]
        rw [← this]; exact h1
    · obtain ⟨a1, a2, a3⟩ := q4 B' hB'
      exact ⟨a1, fun _ => a2 rfl, fun o ho => a3 o (by simpa using ho)⟩

theorem store_ok {C : Cfg} (hC : ∀ t r, C.ty t = some r → TOk P t r) (s : SimH G h w) {t : TypeId} {a c : AV} {va vc : Value} (ha : Rep G w a va) (hc : Rep G w c vc) {out : Out} (ho : storeA C t a c h = some out) :
    ∃ w' G', (Instr.storeAt t va vc).run P w = .ok () w' ∧ SimH G' out.h w' ∧ Ext G w G' w' := by
  unfold storeA at ho
  split at ho
  · rename_i r hr
    have ht := hC t r hr
    cases hg : (Nat.beq (cellsOf c).length r.size && (cellsOf c).all atomA) with
    | false => rw [hg] at ho; simp at ho
    | true =>
      rw [hg] at ho
      simp only [cond_true] at ho
      simp only [Bool.and_eq_true, Nat.beq_eq, List.all_eq_true] at hg
      obtain ⟨hlen, hat⟩ := hg
      have hbx : boxable c = true := by
        cases c <;> first | rfl | (exfalso; simp [cellsOf, atomA] at hat)
      have hcells := rep_cells hc hbx
      have hone : ∀ v ∈ vc.cells.toList, v.oneCell' = true := by
        intro v hv
        obtain ⟨i, hi, he⟩ := List.getElem_of_mem hv
        have hi' : i < (cellsOf c).length := by rw [hcells.1]; exact hi
        refine rep_one (hcells.2 i ((cellsOf c)[i]) v (List.getElem?_eq_getElem hi') (by rw [List.getElem?_eq_getElem hi, he])) (hat _ (List.getElem_mem hi'))
      split at ho
      · rename_i h' hw
        simp only [Option.some.injEq] at ho
        subst ho
        unfold wr at hw
        split at hw
        · rename_i b off
          split at hw
          · rename_i cs hb
            cases hle : Nat.ble (off + (cellsOf c).length) cs.length with
            | false => rw [hle] at hw; simp at hw
            | true =>
              rw [hle] at hw
              simp only [cond_true, Option.some.injEq] at hw
              subst hw
              have hle' := Nat.le_of_ble_eq_true hle
              obtain ⟨B, T, vs, h1, h2, h3, h4, h5⟩ := s.objs b _ hb
              cases ha
              rename_i B' hbn hl
              rw [h1] at hl
              simp only [Value.pointer.injEq, Option.some.injEq, Addr.mk.injEq, and_true] at hl
              subst hl
              have hlen4 : cs.length = vs.size := by simpa using h4.1
              have hcl : (cellsOf c).length = vc.cells.toList.length := hcells.1
              have hrun := run_storeCells_at P B off T vc.cells.toList 0 vs w h2 (by rw [← hcl]; omega) hone
              rw [Nat.add_zero] at hrun
              have hnf : ∀ o, o < vs.size → ¬ G.fr B o := fun o ho hf => by have := (h5 o ho).1 hf; simp at this
              have hspl : (vs.toList.take off ++ vc.cells.toList ++ vs.toList.drop (off + vc.cells.toList.length)).length = vs.size := by
                have : vs.toList.length = vs.size := Array.length_toList
                rw [List.length_append, List.length_append, List.length_take, List.length_drop]; omega
              obtain ⟨e, f⟩ := sim_row s (new := (vs.toList.take off ++ vc.cells.toList ++ vs.toList.drop (off + vc.cells.toList.length)).toArray) h3 h2
                (fun o hfo => by
                  by_cases ho : o < vs.size
                  · exact absurd hfo (hnf o ho)
                  · rw [Array.getElem?_eq_none (by rw [List.size_toArray, hspl]; omega), Array.getElem?_eq_none (by omega)])
              refine ⟨_, G, ?_, f (.val (splice cs off (cellsOf c)) false) ?_, e⟩
              · simp only [Instr.storeAt, Instr.sureAddr, Sem.run_bind, Sem.run_pure, Result.andThen_ok, storeVar, run_sizeOf' ht]
                rw [if_neg (by rw [← hlen, hcl]; simp)]
                exact hrun
              · exact ⟨B, T, _, h1, setRow_heap w B vs _ T (0, 0) h2, h3, by simpa using (splice_rep h4 hcells off).mono e, fun o ho => by
                  rw [List.size_toArray, hspl] at ho
                  exact h5 o ho⟩
          · simp at hw
        · rename_i k i off
          split at hw
          · rename_i e T xs hk
            cases hle : (Nat.ble (off + (cellsOf c).length) T.width && (vecIds (cellsOf c)).all (fun j => !Nat.beq j k)) with
            | false => rw [hle] at hw; simp at hw
            | true =>
              rw [hle] at hw
              simp only [cond_true] at hw
              simp only [Bool.and_eq_true, List.all_eq_true, Bool.not_eq_true', ← Bool.not_eq_true, Nat.beq_eq] at hle
              obtain ⟨hle, hni⟩ := hle
              have hle := Nat.le_of_ble_eq_true hle
              split at hw
              · rename_i x hx
                simp only [Option.some.injEq] at hw
                subst hw
                cases ha
                rename_i B n cap hkn hloc hi
                obtain ⟨G1, s1, e1, n1, d1⟩ := lockS (vecIds (cellsOf c)) s
                have hk1 : (lockAll (vecIds (cellsOf c)) h)[k]? = some (.vec e T xs false) := by rw [lockAll_get (fun j hj => hni j hj)]; exact hk
                exact store_row s1 hk1 (by rw [(e1.loc k hkn (by rw [hloc]; exact one_ne rfl)).1]; exact hloc) hi (e1.loc k hkn (by rw [hloc]; exact one_ne rfl)).2 (hcells.mono e1) hle hone hlen ht (fun j hj => d1 j hj) hx e1
              · simp at hw
          · simp at hw
        · simp at hw
      · simp at ho
  · simp at ho

end
end Go.RX

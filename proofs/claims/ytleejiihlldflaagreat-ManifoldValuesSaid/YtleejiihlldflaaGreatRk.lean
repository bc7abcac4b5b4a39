/-
  The operations, fourth part: building aggregates and slices.
-/
import Derived.Test.YtleejiihlldflaaGreatRj
namespace Go.RX

/-- Values spliced into values. -/
def spl {α : Type} (cs : List α) (off : Nat) (vs : List α) : List α := cs.take off ++ vs ++ cs.drop (off + vs.length)

theorem spl_len {α : Type} (cs : List α) (off : Nat) (vs : List α) (h : off + vs.length ≤ cs.length) : (spl cs off vs).length = cs.length := by
  simp [spl]; omega

theorem spl_cons {α : Type} (cs : List α) (off : Nat) (x : α) (vs : List α) (h : off < cs.length) : spl (cs.set off x) (off + 1) vs = spl cs off (x :: vs) := by
  unfold spl
  have h1 : (cs.set off x).take (off + 1) = cs.take off ++ [x] := by
    rw [List.take_set, List.take_succ_eq_append_getElem h]
    rw [List.set_append_right _ _ (by simp; omega)]
    simp [Nat.min_eq_left (Nat.le_of_lt h)]
  have h2 : (cs.set off x).drop (off + 1 + vs.length) = cs.drop (off + (x :: vs).length) := by
    rw [List.drop_set_of_lt (by omega)]
    simp [Nat.add_comm, Nat.add_left_comm]
  rw [h1, h2]
  simp

theorem fold_set : ∀ (l : List Value) (k off : Nat) (cs : Array Value), off + k + l.length ≤ cs.size →
    ((l.zipIdx k).foldl (fun (cs : Array Value) (x : Value × Nat) => cs.setIfInBounds (off + x.2) x.1) cs).toList = spl cs.toList (off + k) l
  | [], k, off, cs, h => by simp [spl]
  | x :: l, k, off, cs, h => by
    simp only [List.length_cons] at h
    rw [List.zipIdx_cons, List.foldl_cons, fold_set l (k + 1) off _ (by simp; omega)]
    simp only [Array.toList_setIfInBounds]
    rw [← Nat.add_assoc, spl_cons _ _ _ _ (by simp; omega)]

theorem fold_set' (v off : Nat) (l : Array Value) (cs : Array Value) (h : off + l.size ≤ cs.size) (hv : v = off) :
    (l.zipIdx.foldl (fun (cs : Array Value) (x : Value × Nat) => cs.setIfInBounds (v + x.2) x.1) cs).toList = spl cs.toList off l.toList := by
  subst hv
  rw [← Array.foldl_toList]
  have := fold_set l.toList 0 v cs (by simpa using h)
  simpa using this

section
variable {P : Program} {G : Gh} {w : World} {h : List HObj}

/-- Parts by their operands. -/
def PartsR (G : Gh) (w : World) : List (Nat × List AV) → List (Nat × Value) → Prop
  | [], [] => True
  | (i, c) :: cs, (j, v) :: vs => i = j ∧ RepL G w c v.cells.toList ∧ PartsR G w cs vs
  | _, _ => False

theorem spl_rep {cs vs : List AV} {cv vv : List Value} (hc : RepL G w cs cv) (hv : RepL G w vs vv) (off : Nat) : RepL G w (splice cs off vs) (spl cv off vv) := by
  unfold spl
  exact splice_rep hc hv off

theorem fill_ok {place : Nat → Option (Nat × Nat)} : ∀ {parts : List (Nat × List AV)} {vs : List (Nat × Value)} {offs : List (Nat × Nat)} {cs cs' : List AV} {cv : Array Value},
    (∀ i o, offs[i]? = some o → place i = some o) → PartsR G w parts vs → RepL G w cs cv.toList → fillS offs cs parts = some cs' →
    ∃ cv', Instr.fill place cv vs = some cv' ∧ RepL G w cs' cv'.toList
  | [], vs, offs, cs, cs', cv, hp, hr, hc, hf => by
    cases vs with
    | nil => simp only [fillS, Option.some.injEq] at hf; subst hf; exact ⟨cv, rfl, hc⟩
    | cons v vs => exact hr.elim
  | (i, c) :: parts, vs, offs, cs, cs', cv, hp, hr, hc, hf => by
    cases vs with
    | nil => exact hr.elim
    | cons jv vs =>
      obtain ⟨j, v⟩ := jv
      obtain ⟨rfl, h1, h2⟩ := hr
      simp only [fillS] at hf
      split at hf
      · rename_i o ho
        cases hb : (Nat.beq c.length o.2 && Nat.ble (o.1 + c.length) cs.length) with
        | false => rw [hb] at hf; simp at hf
        | true =>
          rw [hb] at hf
          simp only [cond_true] at hf
          simp only [Bool.and_eq_true, Nat.beq_eq] at hb
          have hb2 := Nat.le_of_ble_eq_true hb.2
          have hlv : c.length = v.cells.size := by simpa using h1.1
          have hlc : cs.length = cv.size := by simpa using hc.1
          simp only [Instr.fill, hp i o ho]
          have hfs := fold_set' o.1 o.1 v.cells cv (by omega) rfl
          rw [if_neg (by simp; omega)]
          refine fill_ok (cs := splice cs o.1 c) hp h2 ?_ hf
          rw [hfs]
          exact spl_rep hc h1 o.1
      · simp at hf

theorem fillN_ok {wd : Nat} : ∀ {parts : List (Nat × List AV)} {vs : List (Nat × Value)} {cs cs' : List AV} {cv : Array Value},
    PartsR G w parts vs → RepL G w cs cv.toList → fills wd cs parts = some cs' →
    ∃ cv', Instr.fill (fun i => some (i * wd, wd)) cv vs = some cv' ∧ RepL G w cs' cv'.toList
  | [], vs, cs, cs', cv, hr, hc, hf => by
    cases vs with
    | nil => simp only [fills, Option.some.injEq] at hf; subst hf; exact ⟨cv, rfl, hc⟩
    | cons v vs => exact hr.elim
  | (i, c) :: parts, vs, cs, cs', cv, hr, hc, hf => by
    cases vs with
    | nil => exact hr.elim
    | cons jv vs =>
      obtain ⟨j, v⟩ := jv
      obtain ⟨rfl, h1, h2⟩ := hr
      simp only [fills] at hf
      cases hb : (Nat.beq c.length wd && Nat.ble (i * wd + wd) cs.length) with
      | false => rw [hb] at hf; simp at hf
      | true =>
        rw [hb] at hf
        simp only [cond_true] at hf
        simp only [Bool.and_eq_true, Nat.beq_eq] at hb
        have hb2 := Nat.le_of_ble_eq_true hb.2
        have hlv : c.length = v.cells.size := by simpa using h1.1
        have hlc : cs.length = cv.size := by simpa using hc.1
        simp only [Instr.fill]
        have hfs := fold_set' (i * wd) (i * wd) v.cells cv (by omega) rfl
        rw [if_neg (by simp; omega)]
        refine fillN_ok (cs := splice cs (i * wd) c) h2 ?_ hf
        rw [hfs]
        exact spl_rep hc h1 _

theorem build_ok {C : Cfg} (hC : ∀ t r, C.ty t = some r → TOk P t r) (s : SimH G h w) {t : TypeId} {parts : List (Nat × AV)} {vs : Array (Nat × Value)}
    (hp : PartsR G w (parts.map fun p => (p.1, cellsOf p.2)) vs.toList) {out : Out} (ho : buildA C t parts h = some out) :
    OpOk P G w (Instr.build t vs) out.v out.h ∧ out.h = h ∧ out.g = true := by
  unfold buildA at ho
  split at ho
  · rename_i offs _ _ z _ hr
    have ht := hC t _ hr
    obtain ⟨fs, hu, hoffs, hne⟩ := und_struct ht rfl
    obtain ⟨zv, hz, hz2⟩ := run_zero' ht w
    split at ho
    · rename_i cs hcs
      simp only [Option.some.injEq] at ho; subst ho
      have hz2 : zv.cells.toList = z := hz2
      have hmap : ∀ (l : List Field), (∀ f ∈ l, P.cellsOf f.type ≠ 0) → (l.mapM fun f => do pure (f.offset, ← sizeOf f.type) : Sem (List (Nat × Nat))).run P w = .ok (l.map fun f => (f.offset, P.cellsOf f.type)) w := by
        intro l
        induction l with
        | nil => intro _; simp
        | cons f l ih =>
          intro hl
          have hf := run_sizeOf_ne w (hl f (by simp))
          have hi := ih (fun g hg => hl g (by simp [hg]))
          rw [List.mapM_cons]
          simp only [Sem.run_bind, hf, hi, Result.andThen_ok, Sem.run_pure, List.map_cons]
      obtain ⟨cv', h1, h2⟩ := fill_ok (place := fun i => ((offs.toArray)[i]?)) (cv := zv.cells) (fun i o ho => by simpa using ho) hp (by rw [hz2]; exact repL_atoms G w z) hcs
      refine ⟨opOk_pure (u := .agg cv') ?_ (.agg _ _ (by simpa using h2.1) fun i c v hc hv => h2.2 i c v hc (by simpa using hv)) s, rfl, rfl⟩
      simp only [Instr.build, Sem.run_bind, hz, Result.andThen_ok, run_underlying hu]
      have hm := hmap fs.toList hne
      have hm' : (fs.mapM fun f => do pure (f.offset, ← sizeOf f.type) : Sem (Array (Nat × Nat))).run P w = .ok offs.toArray w := by
        rw [Array.mapM_eq_mapM_toList]
        simp only [Sem.run_map, hm, Result.andThen_ok, hoffs]
      rw [hm']
      simp only [Result.andThen_ok, h1, Sem.run_pure]
    · simp at ho
  · rename_i n e _ _ z _ hr
    have ht := hC t _ hr
    have hu := und_arr ht rfl
    obtain ⟨zv, hz, hz2⟩ := run_zero' ht w
    split at ho
    · rename_i r hre
      split at ho
      · rename_i cs hcs
        simp only [Option.some.injEq] at ho; subst ho
        have hz2 : zv.cells.toList = z := hz2
        obtain ⟨cv', h1, h2⟩ := fillN_ok (wd := r.size) (cv := zv.cells) hp (by rw [hz2]; exact repL_atoms G w z) hcs
        refine ⟨opOk_pure (u := .agg cv') ?_ (.agg _ _ (by simpa using h2.1) fun i c v hc hv => h2.2 i c v hc (by simpa using hv)) s, rfl, rfl⟩
        simp only [Instr.build, Sem.run_bind, hz, Result.andThen_ok, run_underlying hu, run_sizeOf' (hC e r hre), h1]
        rfl
      · simp at ho
    · simp at ho
  · simp at ho

theorem unrows_rep {G : Gh} {w : World} {h : List HObj} {t : Ty} : ∀ {n : Nat} {cs : List AV} {vs : List Value} {xs : List t.den}, RepL G w cs vs → (∀ k ∈ vecIds cs, Sealed G w h k) → unrows h t n cs = some xs →
    xs.length = n ∧ n * t.width ≤ vs.length ∧ ∀ i x, xs[i]? = some x → DV G.fr w t x ((vs.drop (i * t.width)).take t.width)
  | 0, cs, vs, xs, hr, hs, hu => by
    simp only [unrows, Option.some.injEq] at hu
    subst hu
    exact ⟨rfl, by simp, fun i x hx => by simp at hx⟩
  | n + 1, cs, vs, xs, hr, hs, hu => by
    simp only [unrows] at hu
    split at hu
    · rename_i y r h1
      split at hu
      · rename_i ys h2
        simp only [Option.some.injEq] at hu
        subst hu
        obtain ⟨v1, v2, rfl, d, r2, sub⟩ := unflat_rep hr hs h1
        obtain ⟨l1, l2, l3⟩ := unrows_rep r2 (fun k hk => hs k (sub k hk)) h2
        have hw := d.len
        refine ⟨by simp [l1], by simp [Nat.add_mul, hw]; omega, fun i x hx => ?_⟩
        cases i with
        | zero =>
          simp only [List.getElem?_cons_zero, Option.some.injEq] at hx
          subst hx
          simpa [← hw] using d
        | succ i =>
          have := l3 i x (by simpa using hx)
          rw [Nat.add_mul, Nat.one_mul, Nat.add_comm, ← List.drop_drop]
          have e : (v1 ++ v2).drop t.width = v2 := by rw [← hw]; simp
          rw [e]; exact this
      · simp at hu
    · simp at hu

theorem vecIds_append (a b : List AV) : vecIds (a ++ b) = vecIds a ++ vecIds b := by
  induction a with
  | nil => rfl
  | cons c a ih => cases c <;> simp [vecIds, ih]

/-- A new vector over a new row. -/
theorem new_vec {G : Gh} {h : List HObj} {w : World} (s : SimH G h w) (e : TypeId) (t : Ty) (xs : List t.den) (cur : Array Value) (cap : Nat) (hw : 1 ≤ t.width) (hc : cur.size = cap * t.width) (hn : xs.length ≤ cap) (hm : cap ≤ maxLen)
    (hd : ∀ i x, xs[i]? = some x → DV G.fr w t x ((cur.toList.drop (i * t.width)).take t.width)) (lk : Bool) :
    Ext G w (G.new w.heap.size (.slice (some ⟨w.heap.size, 0, none⟩) xs.length cap) t.width) (w.alloc (.cells cur e)) ∧
    SimH (G.new w.heap.size (.slice (some ⟨w.heap.size, 0, none⟩) xs.length cap) t.width) (h ++ [.vec e t xs lk]) (w.alloc (.cells cur e)) ∧
    Rep (G.new w.heap.size (.slice (some ⟨w.heap.size, 0, none⟩) xs.length cap) t.width) (w.alloc (.cells cur e)) (.vec h.length) (.slice (some ⟨w.heap.size, 0, none⟩) xs.length cap) := by
  have ex := ext_new (G := G) (w := w) cur e (.slice (some ⟨w.heap.size, 0, none⟩) xs.length cap) t.width
  have hloc : (G.new w.heap.size (.slice (some ⟨w.heap.size, 0, none⟩) xs.length cap) t.width).loc G.n = .slice (some ⟨w.heap.size, 0, none⟩) xs.length cap := upd_same _ _ _
  refine ⟨ex, sim_new s _ _ _ _ _ ?_, ?_⟩
  · refine ⟨hw, upd_same _ _ _, cur.toList.take (xs.length * t.width), ?_, fun i x hx => ?_, fun B hB => ?_⟩
    · rw [hloc]
      refine ⟨?_, .inr ⟨w.heap.size, cap, cur, rfl, Nat.zero_le _, heap_alloc_new w _, hn, hm, hc, rfl⟩⟩
      have : xs.length * t.width ≤ cap * t.width := Nat.mul_le_mul_right _ hn
      simp; omega
    · have hi : i < xs.length := (List.getElem?_eq_some_iff.1 hx).1
      have : (i + 1) * t.width ≤ xs.length * t.width := Nat.mul_le_mul_right _ hi
      rw [Nat.add_mul, Nat.one_mul] at this
      rw [List.drop_take, List.take_take, Nat.min_eq_left (by omega)]
      exact (hd i x hx).mono ex.keeps
    · rw [hloc] at hB
      simp only [Value.ownBlock, Option.some.injEq] at hB
      subst hB
      exact ⟨upd_same _ _ _, fun _ o hf => hf.1 rfl, fun o _ hf => hf.1 rfl⟩
  · have := Rep.vec (G := G.new w.heap.size (.slice (some ⟨w.heap.size, 0, none⟩) xs.length cap) t.width) (w := w.alloc (.cells cur e)) G.n (Nat.lt_succ_self _) (by rw [hloc]; rfl)
    rw [hloc] at this
    rw [← s.n]; exact this

theorem repl_rep (G : Gh) (w : World) (n : Nat) (z : List Value) : RepL G w (repl n (z.map ofAtom)) ((List.replicate n z).flatten) := by
  induction n with
  | zero => exact RepL.nil G w
  | succ n ih =>
    simp only [repl, List.replicate_succ, List.flatten_cons] at ih ⊢
    exact (repL_atoms G w z).append ih

theorem rows_zero (z : Array Value) : ∀ (n : Nat), ((Array.range (n * z.size)).map fun i => z[i % z.size]!).toList = (List.replicate n z.toList).flatten := by
  intro n
  apply List.ext_getElem?
  intro i
  rw [Array.toList_map, Array.toList_range, List.getElem?_map]
  induction n generalizing i with
  | zero => simp
  | succ n ih =>
    rw [List.replicate_succ, List.flatten_cons]
    by_cases hi : i < z.size
    · rw [List.getElem?_append_left (by simpa using hi), List.getElem?_range (by rw [Nat.add_mul]; omega)]
      simp [Nat.mod_eq_of_lt hi, hi]
    · rw [List.getElem?_append_right (by simp; omega)]
      simp only [Array.length_toList]
      rw [← ih (i - z.size)]
      by_cases hlt : i < (n + 1) * z.size
      · rw [List.getElem?_range hlt, List.getElem?_range (by rw [Nat.add_mul] at hlt; omega)]
        simp only [Option.map_some]
        rw [Nat.mod_eq_sub_mod (by omega)]
      · rw [List.getElem?_eq_none (by simp; omega), List.getElem?_eq_none (by rw [Nat.add_mul] at hlt; simp; omega)]

theorem fills_len {wd : Nat} : ∀ {parts : List (Nat × List AV)} {cs cs' : List AV}, fills wd cs parts = some cs' → cs'.length = cs.length
  | [], cs, cs', hf => by simp only [fills, Option.some.injEq] at hf; rw [hf]
  | (i, c) :: parts, cs, cs', hf => by
    simp only [fills] at hf
    cases hb : (Nat.beq c.length wd && Nat.ble (i * wd + wd) cs.length) with
    | false => rw [hb] at hf; simp at hf
    | true =>
      rw [hb] at hf
      simp only [cond_true] at hf
      simp only [Bool.and_eq_true, Nat.beq_eq] at hb
      have hb2 := Nat.le_of_ble_eq_true hb.2
      rw [fills_len hf, splice_len _ _ _ (by omega)]

theorem buildSlice_ok {C : Cfg} (hC : ∀ t r, C.ty t = some r → TOk P t r) (s : SimH G h w) {t : TypeId} {len : Nat} {parts : List (Nat × AV)} {vs : Array (Nat × Value)}
    (hp : PartsR G w (parts.map fun p => (p.1, cellsOf p.2)) vs.toList) {out : Out} (ho : buildSliceA C t len parts h = some out) :
    OpOk P G w (Instr.buildSlice t len vs) out.v out.h ∧ out.g = true := by
  unfold buildSliceA at ho
  split at ho
  · rename_i e _ _ _ _ hr
    have hu := und_slice (hC t _ hr) rfl
    split at ho
    · rename_i r hre
      have hte := hC e r hre
      obtain ⟨zv, hz, hz2⟩ := run_zero' hte w
      have hzs : zv.cells.size = r.size := by
        have := congrArg List.length hz2
        rw [hte.zl] at this
        simpa using this
      split at ho
      · rename_i cs hcs
        cases hb : (Nat.beq r.size r.dt.width && Nat.ble 1 r.size && Nat.ble (len * r.size) 16777216) with
        | false => rw [hb] at ho; simp at ho
        | true =>
          rw [hb] at ho
          simp only [cond_true] at ho
          simp only [Bool.and_eq_true, Nat.beq_eq] at hb
          obtain ⟨⟨hb1, hb2⟩, hb3⟩ := hb
          have hb2 := Nat.le_of_ble_eq_true hb2
          have hb3 := Nat.le_of_ble_eq_true hb3
          split at ho
          · rename_i xs hxs
            simp only [Option.some.injEq] at ho; subst ho
            have hinit : (((Array.range (len * r.size)).map fun i => (if len * r.size = 0 then #[] else zv.cells)[i % (if len * r.size = 0 then #[] else zv.cells).size]!) : Array Value).toList = (List.replicate len r.z).flatten := by
              split
              · rename_i hl0
                have : len = 0 := by
                  rcases Nat.mul_eq_zero.1 hl0 with h0 | h0 <;> omega
                subst this; simp
              · have := rows_zero zv.cells len
                rw [hzs] at this ⊢
                rw [this, hz2]
            obtain ⟨cv', h1, h2⟩ := fillN_ok (wd := r.size) (cv := ((Array.range (len * r.size)).map fun i => (if len * r.size = 0 then #[] else zv.cells)[i % (if len * r.size = 0 then #[] else zv.cells).size]!)) hp
              (by rw [hinit]; exact repl_rep G w len r.z) hcs
            obtain ⟨G1, s1, e1, n1, d1⟩ := lockS (vecIds cs) s
            have hrows := unrows_rep (h2.mono e1) (fun k hk => d1 k hk) hxs
            have hlen : cv'.toList.length = len * r.size := by
              have l1 := fills_len hcs
              have l2 := h2.1
              rw [← l2, l1]
              have l3 := (repl_rep G w len r.z).1
              rw [l3]
              simp [hte.zl]
            have hnv := new_vec s1 e r.dt xs cv' len (by omega) (by rw [← hb1]; simpa using hlen) (by omega) (by unfold maxLen; have : len * 1 ≤ len * r.size := Nat.mul_le_mul_left _ hb2; omega) hrows.2.2 false
            obtain ⟨a1, a2, a3⟩ := hnv
            rw [lockAll_len] at a3
            refine ⟨⟨_, _, _, ?_, a3, a2, e1.trans a1⟩, rfl⟩
            simp only [Instr.buildSlice, Sem.run_bind, run_underlying hu, Result.andThen_ok, run_sizeOf' hte]
            rw [if_neg (by omega)]
            by_cases hl0 : len * r.size = 0
            · rw [if_pos hl0]
              simp only [if_pos hl0] at h1
              simp only [Sem.run_bind, Sem.run_pure, Result.andThen_ok, h1]
              simp [newRow, hrows.1]
            · rw [if_neg hl0]
              simp only [if_neg hl0] at h1
              simp only [Sem.run_bind, Sem.run_pure, Result.andThen_ok, hz, h1]
              simp [newRow, hrows.1]
          · simp at ho
      · simp at ho
    · simp at ho
  · simp at ho

end
end Go.RX

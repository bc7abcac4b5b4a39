/-
  The table of types; constants; new objects; loads and stores.
-/
import Derived.Test.YtleejiihlldflaaGreatRe
namespace Go.RX

def veq : Value → Value → Bool
  | .int k n, .int k' n' => decide (k = k') && decide (n = n')
  | .bool a, .bool b => decide (a = b)
  | .string a, .string b => decide (a.data.toList = b.data.toList)
  | .pointer none, .pointer none => true
  | .slice none 0 0, .slice none 0 0 => true
  | .nilFunc, .nilFunc => true
  | .nilIface, .nilIface => true
  | .map none, .map none => true
  | _, _ => false

theorem veq_eq {a b : Value} (h : veq a b = true) : a = b := by
  unfold veq at h
  split at h <;> simp_all
  rename_i x y
  cases x; cases y; simp_all

def veqL : List Value → List Value → Bool
  | [], [] => true
  | a :: as', b :: bs => veq a b && veqL as' bs
  | _, _ => false

theorem veqL_eq : ∀ {a b : List Value}, veqL a b = true → a = b
  | [], [], _ => rfl
  | [], _ :: _, h => by simp [veqL] at h
  | _ :: _, [], h => by simp [veqL] at h
  | a :: l, b :: m, h => by
    simp only [veqL, Bool.and_eq_true] at h
    rw [veq_eq h.1, veqL_eq h.2]

/-- The zero value of data. -/
def zval : Ty → List Value
  | .unit => []
  | .int k => [.int k 0]
  | .bool => [.bool false]
  | .str => [.string ByteArray.empty]
  | .list _ => [.slice none 0 0]
  | .one t => zval t
  | .pair a b => zval a ++ zval b

theorem zval_DV (fr : Nat → Nat → Prop) (w : World) : ∀ t : Ty, DV fr w t t.dflt (zval t)
  | .unit => rfl
  | .int _ => rfl
  | .bool => rfl
  | .str => rfl
  | .list _ => ⟨none, 0, rfl, Nat.le_refl _, .inl rfl⟩
  | .one t => zval_DV fr w t
  | .pair a b => ⟨zval a, zval b, rfl, zval_DV fr w a, zval_DV fr w b⟩

def kOk (P : Program) : TK → TypeDesc → Bool
  | .int k, .int k' => decide (k = k')
  | .bool, .bool => true
  | .str, .string => true
  | .slice e, .slice e' => Nat.beq e e'
  | .arr n e, .array n' e' => Nat.beq n n' && Nat.beq e e' && !Nat.beq (P.cellsOf e) 0
  | .struct offs, .struct fs => decide (offs = fs.toList.map fun f => (f.offset, P.cellsOf f.type)) && fs.toList.all fun f => !Nat.beq (P.cellsOf f.type) 0
  | .other, .struct _ => false
  | .other, .array _ _ => false
  | .other, _ => true
  | _, _ => false

def rowOk (P : Program) (t : TypeId) (r : TRow) : Bool :=
  match P.info? t, P.underlying t with
  | some i, some d => Nat.beq i.size r.size && Nat.beq i.bytes r.bytes && (match i.zero with
    | some z => veqL z.cells.toList r.z
    | none => false) && kOk P r.k d && Nat.beq r.z.length r.size && (!Nat.beq r.size r.dt.width || veqL r.z (zval r.dt))
  | _, _ => false

def tableOk (P : Program) : List (Nat × TRow) → Bool
  | [] => true
  | (t, r) :: l => rowOk P t r && tableOk P l

structure TOk (P : Program) (t : TypeId) (r : TRow) : Prop where
  ex : ∃ i d z, P.info? t = some i ∧ P.underlying t = some d ∧ i.size = r.size ∧ i.bytes = r.bytes ∧ i.zero = some z ∧ z.cells.toList = r.z ∧ kOk P r.k d = true
  zl : r.z.length = r.size
  zd : r.size = r.dt.width → r.z = zval r.dt

theorem rowOk_ok {P : Program} {t : TypeId} {r : TRow} (h : rowOk P t r = true) : TOk P t r := by
  unfold rowOk at h
  split at h
  · rename_i i d hi hd
    simp only [Bool.and_eq_true, Nat.beq_eq] at h
    obtain ⟨⟨⟨⟨⟨h1, h2⟩, h3⟩, h4⟩, h5⟩, h6⟩ := h
    split at h3
    · rename_i z hz
      refine ⟨⟨i, d, z, hi, hd, h1, h2, hz, veqL_eq h3, h4⟩, h5, fun e => ?_⟩
      rw [e] at h6
      simp at h6
      exact veqL_eq h6
    · simp at h3
  · simp at h

theorem tableOk_ok {P : Program} : ∀ {l : List (Nat × TRow)}, tableOk P l = true → ∀ t r, look l t = some r → TOk P t r
  | [], _, t, r, h => by simp [look] at h
  | (k, r') :: l, h, t, r, hl => by
    simp only [tableOk, Bool.and_eq_true] at h
    simp only [look] at hl
    cases hk : Nat.beq k t with
    | true =>
      rw [hk] at hl
      simp only [cond_true, Option.some.injEq] at hl
      subst hl
      rw [← Nat.eq_of_beq_eq_true hk]
      exact rowOk_ok h.1
    | false =>
      rw [hk] at hl
      exact tableOk_ok h.2 t r hl

theorem rep_atom (G : Gh) (w : World) (v : Value) : Rep G w (ofAtom v) v := by
  unfold ofAtom
  split
  · exact .int _ _
  · exact .bool _
  · exact .str _
  · exact .nilp
  · exact .nils
  · exact .nilf
  · exact .top _

theorem rep_const (G : Gh) (w : World) (v : Value) : Rep G w (ofConst v) v := by
  unfold ofConst
  split
  · rename_i cs
    refine .agg _ _ (by simp) fun i c v hc hv => ?_
    rw [List.getElem?_map] at hc
    have : cs.toList[i]? = some v := by simpa using hv
    rw [this] at hc
    simp only [Option.map_some, Option.some.injEq] at hc
    subst hc
    exact rep_atom G w v
  · exact rep_atom G w v

theorem repL_atoms (G : Gh) (w : World) (vs : List Value) : RepL G w (vs.map ofAtom) vs :=
  ⟨by simp, fun i c v hc hv => by
    rw [List.getElem?_map, hv] at hc
    simp only [Option.map_some, Option.some.injEq] at hc
    subst hc
    exact rep_atom G w v⟩

theorem rep_eval {G : Gh} {w : World} {ts : List AV} {a : Act} (h : RepL G w ts a.tmps.toList) (x : Operand) : Rep G w (evalA ts x) (a.eval x) := by
  cases x with
  | tmp t =>
    have := h.getD t
    simp only [evalA, Act.eval]
    have e : a.tmps.getD t undef = a.tmps.toList.getD t undef := by
      simp only [Array.getD_eq_getD_getElem?, List.getD_eq_getElem?_getD, Array.getElem?_toList]
    rw [e]; exact this
  | const v => exact rep_const G w v
  | global g => exact .top _
  | func f => exact .fn f [] [] #[] #[] rfl rfl (fun i c v hc => by simp at hc) (fun i c v hc => by simp at hc)

theorem rep_cells {G : Gh} {w : World} {c : AV} {v : Value} (h : Rep G w c v) (hb : boxable c = true) : RepL G w (cellsOf c) v.cells.toList := by
  have one : ∀ {c : AV} {v : Value}, cellsOf c = [c] → v.cells = #[v] → Rep G w c v → RepL G w (cellsOf c) v.cells.toList := by
    intro c v h1 h2 h3
    rw [h1, h2]; exact RepL.cons h3 (RepL.nil G w)
  cases h with
  | top v => simp [boxable] at hb
  | tup cs vs hl r => simp [boxable] at hb
  | opq v => simp [boxable] at hb
  | agg cs vs hl r => exact ⟨by simpa [cellsOf, Value.cells] using hl, fun i c v hc hv => r i c v hc (by simpa [Value.cells] using hv)⟩
  | vec k hk h1 =>
    refine one rfl ?_ (.vec k hk h1)
    generalize G.loc k = v at h1
    cases v <;> simp_all [Value.cells, Value.oneCell']
  | int k n => exact one rfl rfl (.int k n)
  | bool b => exact one rfl rfl (.bool b)
  | str s => exact one rfl rfl (.str s)
  | lst t xs a cap hc h => exact one rfl rfl (.lst t xs a cap hc h)
  | nils => exact one rfl rfl .nils
  | eptr t x off B o us h hc => exact one rfl rfl (.eptr t x off B o us h hc)
  | vptr k i off B n cap hk hl hi => exact one rfl rfl (.vptr k i off B n cap hk hl hi)
  | ptr b off B hb' hl => exact one rfl rfl (.ptr b off B hb' hl)
  | nilp => exact one rfl rfl .nilp
  | nilf => exact one rfl rfl .nilf
  | fn f a b va vb ha hb' ra rb => exact one rfl rfl (.fn f a b va vb ha hb' ra rb)

theorem rep_one {G : Gh} {w : World} {c : AV} {v : Value} (h : Rep G w c v) (hb : atomA c = true) : v.oneCell' = true := by
  cases h <;> simp_all [atomA, Value.oneCell']

/- NEW OBJECTS -/

def upd {α : Type} (f : Nat → α) (k : Nat) (x : α) : Nat → α := fun i => if i = k then x else f i
theorem upd_same {α : Type} (f : Nat → α) (k : Nat) (x : α) : upd f k x k = x := by simp [upd]
theorem upd_ne {α : Type} (f : Nat → α) {k i : Nat} (x : α) (h : i ≠ k) : upd f k x i = f i := by simp [upd, h]

/-- The objects behind a new block that belongs to a new object. -/
def Gh.new (G : Gh) (B : Nat) (L : Value) (wd : Nat) : Gh :=
  { n := G.n + 1, loc := upd G.loc G.n L, wd := upd G.wd G.n wd, bo := upd G.bo B (some G.n), fr := fun B' o => B' ≠ B ∧ G.fr B' o }

theorem cell_lt {w : World} {B o : Nat} {u : Value} (h : w.cell? ⟨B, o, none⟩ = some u) : B < w.heap.size := by
  unfold World.cell? at h
  dsimp only at h
  cases hb : w.heap[B]? with
  | none => rw [hb] at h; simp at h
  | some x => exact (Array.getElem?_eq_some_iff.1 hb).1

theorem ext_new {G : Gh} {w : World} (c : Array Value) (T : TypeId) (L : Value) (wd : Nat) : Ext G w (G.new w.heap.size L wd) (w.alloc (.cells c T)) where
  fz a := Go.RowKit.frozen?_alloc_cells w c T a
  n := Nat.le_succ _
  loc b hb _ := ⟨upd_ne _ _ (by omega), upd_ne _ _ (by omega)⟩
  os := rfl
  tape := rfl
  output := rfl
  size := by simp
  blocks B hB hb := ⟨heap_alloc_old w _ hB, by show upd G.bo _ _ B = none; rw [upd_ne _ _ (by omega)]; exact hb, fun o => ⟨fun h => h.2, fun h => ⟨by omega, h⟩⟩⟩
  keeps B o u h1 h2 := by
    have hB := cell_lt h2
    exact ⟨⟨by omega, h1⟩, by rw [World.cell?_alloc_lt (a := ⟨B, o, none⟩) (h := hB)]; exact h2⟩

theorem sim_new {G : Gh} {h : List HObj} {w : World} (s : SimH G h w) (c : Array Value) (T : TypeId) (L : Value) (wd : Nat) (x : HObj) (hx : OkO (G.new w.heap.size L wd) (w.alloc (.cells c T)) G.n x) :
    SimH (G.new w.heap.size L wd) (h ++ [x]) (w.alloc (.cells c T)) where
  n := by simp [Gh.new, s.n]
  objs b o hb := by
    by_cases hlt : b < h.length
    · rw [List.getElem?_append_left hlt] at hb
      have hbn : b < G.n := by rw [s.n]; exact hlt
      refine (s.objs b o hb).mono (ext_new c T L wd) ⟨upd_ne _ _ (by omega), upd_ne _ _ (by omega)⟩ fun B hB => ?_
      have hBs := (s.own B b hB).2
      exact ⟨heap_alloc_old w _ hBs, by show upd G.bo _ _ B = _; rw [upd_ne _ _ (by omega)]; exact hB, fun o => ⟨fun h => h.2, fun h => ⟨by omega, h⟩⟩⟩
    · rw [List.getElem?_append_right (by omega)] at hb
      have e : b = h.length := by
        have := (List.getElem?_eq_some_iff.1 hb).1
        simp at this; omega
      subst e
      simp only [Nat.sub_self, List.getElem?_cons_zero, Option.some.injEq] at hb
      subst hb
      rw [← s.n]; exact hx
  own B b hb := by
    change upd G.bo _ _ B = some b at hb
    by_cases e : B = w.heap.size
    · subst e; rw [upd_same] at hb; simp only [Option.some.injEq] at hb; subst hb
      exact ⟨Nat.lt_succ_self _, by simp⟩
    · rw [upd_ne _ _ e] at hb
      obtain ⟨h1, h2⟩ := s.own B b hb
      exact ⟨Nat.lt_succ_of_lt h1, by simp; omega⟩

theorem new_val {G : Gh} {h : List HObj} {w : World} (s : SimH G h w) (vs : Array Value) (T : TypeId) (cs : List AV) (hr : RepL G w cs vs.toList) :
    Ext G w (G.new w.heap.size (.pointer (some ⟨w.heap.size, 0, none⟩)) 0) (w.alloc (.cells vs T)) ∧
    SimH (G.new w.heap.size (.pointer (some ⟨w.heap.size, 0, none⟩)) 0) (h ++ [.val cs false]) (w.alloc (.cells vs T)) ∧
    Rep (G.new w.heap.size (.pointer (some ⟨w.heap.size, 0, none⟩)) 0) (w.alloc (.cells vs T)) (.ptr h.length 0) (.pointer (some ⟨w.heap.size, 0, none⟩)) := by
  have e := ext_new (G := G) (w := w) vs T (.pointer (some ⟨w.heap.size, 0, none⟩)) 0
  refine ⟨e, sim_new s _ _ _ _ _ ?_, ?_⟩
  · exact ⟨w.heap.size, T, vs, upd_same _ _ _, heap_alloc_new w _, upd_same _ _ _, hr.mono e, fun o _ => by simp [Gh.new]⟩
  · rw [← s.n]
    exact .ptr G.n 0 w.heap.size (Nat.lt_succ_self _) (upd_same _ _ _)

/-- A slot that was kept for a new variable, taken. -/
theorem sim_slot {G : Gh} {h : List HObj} {w : World} (s : SimH G h w) {b : Nat} (hb : h[b]? = some .free) (vs : Array Value) (T : TypeId) (cs : List AV) (hr : RepL G w cs vs.toList) :
    ∃ G', Ext G w G' (w.alloc (.cells vs T)) ∧ SimH G' (h.set b (.val cs false)) (w.alloc (.cells vs T)) ∧ Rep G' (w.alloc (.cells vs T)) (.ptr b 0) (.pointer (some ⟨w.heap.size, 0, none⟩)) := by
  have hbl : b < h.length := (List.getElem?_eq_some_iff.1 hb).1
  have hbn : b < G.n := by rw [s.n]; exact hbl
  have hu : G.loc b = undef := s.objs b _ hb
  let G' : Gh := { n := G.n, loc := upd G.loc b (.pointer (some ⟨w.heap.size, 0, none⟩)), wd := G.wd, bo := upd G.bo w.heap.size (some b), fr := fun B' o => B' ≠ w.heap.size ∧ G.fr B' o }
  have e : Ext G w G' (w.alloc (.cells vs T)) := by
    refine ⟨Nat.le_refl _, fun b' _ hn => ⟨upd_ne _ _ (fun e => hn (by rw [e, hu])), rfl⟩, rfl, rfl, rfl, by simp, fun B hB hbo => ⟨heap_alloc_old w _ hB, by show upd G.bo _ _ B = none; rw [upd_ne _ _ (by omega)]; exact hbo, fun o => ⟨fun h => h.2, fun h => ⟨by omega, h⟩⟩⟩, fun B o u h1 h2 => ?_, fun a => Go.RowKit.frozen?_alloc_cells w vs T a⟩
    have hB := cell_lt h2
    exact ⟨⟨by omega, h1⟩, by rw [World.cell?_alloc_lt (a := ⟨B, o, none⟩) (h := hB)]; exact h2⟩
  refine ⟨G', e, ⟨by simp [G', s.n], fun b' o hb' => ?_, fun B b' hbo => ?_⟩, .ptr b 0 w.heap.size hbn (upd_same _ _ _)⟩
  · rw [List.getElem?_set] at hb'
    by_cases eb : b = b'
    · subst eb
      rw [if_pos rfl, if_pos hbl] at hb'
      simp only [Option.some.injEq] at hb'
      subst hb'
      exact ⟨w.heap.size, T, vs, upd_same _ _ _, heap_alloc_new w _, upd_same _ _ _, hr.mono e, fun o _ => by simp [G']⟩
    · rw [if_neg eb] at hb'
      refine (s.objs b' o hb').mono e ⟨upd_ne _ _ (fun x => eb x.symm), rfl⟩ fun B hB => ?_
      have hBs := (s.own B b' hB).2
      exact ⟨heap_alloc_old w _ hBs, by show upd G.bo _ _ B = _; rw [upd_ne _ _ (by omega)]; exact hB, fun o => ⟨fun h => h.2, fun h => ⟨by omega, h⟩⟩⟩
  · change upd G.bo _ _ B = some b' at hbo
    by_cases e : B = w.heap.size
    · subst e; rw [upd_same] at hbo; simp only [Option.some.injEq] at hbo; subst hbo
      exact ⟨hbn, by simp⟩
    · rw [upd_ne _ _ e] at hbo
      obtain ⟨h1, h2⟩ := s.own B b' hbo
      exact ⟨h1, by simp; omega⟩

/-- Slots kept for new variables. -/
theorem sim_keep {G : Gh} {h : List HObj} {w : World} (s : SimH G h w) (k : Nat) : ∃ G', Ext G w G' w ∧ SimH G' (h ++ List.replicate k .free) w := by
  let G' : Gh := { G with n := G.n + k, loc := fun b => if b < G.n then G.loc b else undef }
  have hl : ∀ b, b < G.n → G'.loc b = G.loc b := fun b hb => if_pos hb
  have e : Ext G w G' w := ⟨Nat.le_add_right _ _, fun b hb _ => ⟨hl b hb, rfl⟩, rfl, rfl, rfl, Nat.le_refl _, fun _ _ h => ⟨rfl, h, fun _ => Iff.rfl⟩, fun _ _ _ a b => ⟨a, b⟩, fun _ => rfl⟩
  refine ⟨G', e, by simp [G', s.n], fun b o hb => ?_, fun B b hb => let ⟨h1, h2⟩ := s.own B b hb; ⟨Nat.lt_of_lt_of_le h1 (Nat.le_add_right _ _), h2⟩⟩
  by_cases hlt : b < h.length
  · rw [List.getElem?_append_left hlt] at hb
    exact (s.objs b o hb).mono e ⟨hl b (by rw [s.n]; exact hlt), rfl⟩ fun B hB => ⟨rfl, hB, fun _ => Iff.rfl⟩
  · rw [List.getElem?_append_right (by omega), List.getElem?_replicate] at hb
    split at hb
    · simp only [Option.some.injEq] at hb
      subst hb
      show G'.loc b = undef
      exact if_neg (by rw [s.n]; exact hlt)
    · simp at hb

theorem sim_drew {G : Gh} {h : List HObj} {w : World} (s : SimH G h w) : SimH G h w.drew ∧ Ext G w G w.drew := by
  have e : Ext G w G w.drew := ⟨Nat.le_refl _, fun _ _ _ => ⟨rfl, rfl⟩, rfl, rfl, rfl, Nat.le_refl _, fun _ _ h => ⟨rfl, h, fun _ => Iff.rfl⟩, fun _ _ _ a b => ⟨a, b⟩, fun _ => rfl⟩
  exact ⟨⟨s.n, fun b o hb => (s.objs b o hb).mono e ⟨rfl, rfl⟩ fun B hB => ⟨rfl, hB, fun _ => Iff.rfl⟩, s.own⟩, e⟩

/- LOADS -/

theorem add_lit (B o n : Nat) : (⟨B, o, none⟩ : Addr).add n = ⟨B, o + n, none⟩ := by
  unfold Addr.add; split <;> simp_all

theorem rd_ok {G : Gh} {h : List HObj} {w : World} (s : SimH G h w) {a : AV} {v : Value} (ha : Rep G w a v) {n : Nat} {cs : List AV} (hr : rd h a n = some cs) :
    ∃ B o us, v = .pointer (some ⟨B, o, none⟩) ∧ RepL G w cs us ∧ us.length = n ∧ ∀ j u, us[j]? = some u → w.cell? ⟨B, o + j, none⟩ = some u := by
  unfold rd at hr
  split at hr
  · rename_i b off
    split at hr
    · rename_i c lk hb
      cases hle : Nat.ble (off + n) c.length with
      | false => rw [hle] at hr; simp at hr
      | true =>
        rw [hle] at hr
        simp only [cond_true, Option.some.injEq] at hr
        subst hr
        have hle' := Nat.le_of_ble_eq_true hle
        obtain ⟨B, T, vs, h1, h2, h3, h4, h5⟩ := s.objs b _ hb
        cases ha
        rename_i B' hbn hl
        rw [h1] at hl
        simp only [Value.pointer.injEq, Option.some.injEq, Addr.mk.injEq, and_true] at hl
        subst hl
        have hlen : c.length = vs.size := by simpa using h4.1
        refine ⟨B, off, (vs.toList.drop off).take n, rfl, (h4.drop off).take n, by simp; omega, fun j u hj => ?_⟩
        rw [List.getElem?_take] at hj
        split at hj
        · rw [List.getElem?_drop] at hj
          simp only [World.cell?, h2]
          simpa using hj
        · simp at hj
    · simp at hr
  · rename_i t x off
    cases hle : Nat.ble (off + n) t.width with
    | false => rw [hle] at hr; simp at hr
    | true =>
      rw [hle] at hr
      simp only [cond_true, Option.some.injEq] at hr
      subst hr
      have hle' := Nat.le_of_ble_eq_true hle
      cases ha
      rename_i B o us hc hd
      have hl := hd.len
      refine ⟨B, o + off, (us.drop off).take n, rfl, ((flat_rep hd).drop off).take n, by simp; omega, fun j u hj => ?_⟩
      rw [List.getElem?_take] at hj
      split at hj
      · rw [List.getElem?_drop] at hj
        have := (hc (off + j) u hj).2
        rw [← Nat.add_assoc] at this
        exact this
      · simp at hj
  · rename_i k i off
    split at hr
    · rename_i e t xs lk hb
      cases hle : Nat.ble (off + n) t.width with
      | false => rw [hle] at hr; simp at hr
      | true =>
        rw [hle] at hr
        simp only [cond_true, Option.some.injEq] at hr
        subst hr
        have hle' := Nat.le_of_ble_eq_true hle
        obtain ⟨q0, q1, us, q2, q3, q4⟩ := s.objs k _ hb
        cases ha
        rename_i B m cap hk hl hi
        rcases q2.2 with ⟨r1, r2⟩ | ⟨g, cap', cur, r1, r2, r3, r4, r5, r6, r7⟩
        · rw [r1] at hl; simp at hl
        · have hb' := World.ownsRow.cells (w := w) q2 (g := g) (by rw [r1]; rfl)
          rw [r1] at hl
          simp only [Value.slice.injEq, Option.some.injEq, Addr.mk.injEq, and_true] at hl
          obtain ⟨rfl, rfl, rfl⟩ := hl
          have hx : xs[i]? = some xs[i] := List.getElem?_eq_getElem hi
          have hg : xs.getD i t.dflt = xs[i] := by rw [List.getD_eq_getElem?_getD, hx]; rfl
          have hd := q3 i _ hx
          have hl' := hd.len
          refine ⟨g, i * G.wd k + off, (((us.drop (i * t.width)).take t.width).drop off).take n, rfl, ?_, by rw [List.length_take, List.length_drop, hl']; omega, fun j u hj => ?_⟩
          · rw [hg]; exact ((flat_rep hd).drop off).take n
          · rw [List.getElem?_take] at hj
            split at hj
            · rw [List.getElem?_drop, List.getElem?_take] at hj
              split at hj
              · rw [List.getElem?_drop] at hj
                have := hb' (i * t.width + (off + j)) u hj
                rw [add_lit] at this
                rw [q1, ← this]
                congr 2
                omega
              · simp at hj
            · simp at hj
    · simp at hr
  · simp at hr

end Go.RX

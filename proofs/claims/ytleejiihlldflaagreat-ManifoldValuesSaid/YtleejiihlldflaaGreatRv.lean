/-
  What a function is handed, read as data; the end of a law.
-/
import Derived.Test.YtleejiihlldflaaGreatRu
import Derived.ProofKit
import Derived.OpenShut
import Derived.ChangeOld
import Derived.Carry
import Derived.JoinedOf
namespace Go.RX
open Go.RowKit Go.ChangeShapes Go.WideShapes Go.ChangeAt

/- TYPES -/

def partsOk (ok : TypeId → Ty → Bool) : List (Nat × TypeId) → Nat → Ty → Bool
  | [], _, _ => false
  | [p], off, T => Nat.beq p.1 off && ok p.2 T
  | p :: q :: r, off, .pair A B => Nat.beq p.1 off && ok p.2 A && partsOk ok (q :: r) (off + A.width) B
  | _ :: _ :: _, _, _ => false

def aggOk (ok : TypeId → Ty → Bool) : List (Nat × TypeId) → Ty → Bool
  | [], .unit => true
  | [p], .one T => partsOk ok [p] 0 T
  | p :: q :: r, .pair A B => partsOk ok (p :: q :: r) 0 (.pair A B)
  | _, _ => false

def tyOk (P : Program) : Nat → TypeId → Ty → Bool
  | 0, _, _ => false
  | n + 1, t, T => Nat.beq (P.cellsOf t) T.width && match P.underlying t with
    | some (.int k) => match T with
      | .int k' => decide (k = k')
      | _ => false
    | some .bool => match T with
      | .bool => true
      | _ => false
    | some .string => match T with
      | .str => true
      | _ => false
    | some (.slice e) => match T with
      | .list E => tyOk P n e E && Nat.ble 1 E.width
      | _ => false
    | some (.struct fs) => aggOk (tyOk P n) (fs.toList.map fun f => (f.offset, f.type)) T
    | some (.array m e) => aggOk (tyOk P n) ((List.range m).map fun i => (i * P.cellsOf e, e)) T
    | _ => false

/-- Numbers that fit their kinds, and lengths that memory can hold. -/
def okD : (T : Ty) → T.den → Prop
  | .unit, _ => True
  | .int k, x => (Lit.int k x).wf = true
  | .bool, _ => True
  | .str, s => s.size ≤ maxLen
  | .list t, xs => xs.length ≤ maxLen ∧ ∀ x ∈ xs, okD t x
  | .one t, x => okD t x
  | .pair a b, x => okD a x.1 ∧ okD b x.2

def frAll (w : World) : Nat → Nat → Prop := fun B _ => B < w.heap.size

theorem mapM_each {α β : Type} {g : α → Option β} : ∀ {l : List α} {ys : List β}, l.mapM g = some ys → ∀ a ∈ l, ∃ y, g a = some y
  | [], _, _, a, ha => by simp at ha
  | b :: l, ys, h, a, ha => by
    rw [List.mapM_cons] at h
    cases hb : g b with
    | none => rw [hb] at h; simp at h
    | some y =>
      rw [hb] at h
      cases hl : l.mapM g with
      | none => simp [hl] at h
      | some zs =>
        rcases List.mem_cons.1 ha with rfl | ha
        · exact ⟨y, hb⟩
        · exact mapM_each hl a ha

theorem mapM_get {α β : Type} {g : α → Option β} : ∀ {l : List α} {ys : List β}, l.mapM g = some ys → ys.length = l.length ∧ ∀ (i : Nat) (a : α), l[i]? = some a → ∃ y, ys[i]? = some y ∧ g a = some y
  | [], ys, h => by
    rw [List.mapM_nil] at h
    simp only [Option.pure_def, Option.some.injEq] at h
    subst h
    exact ⟨rfl, fun i a ha => by simp at ha⟩
  | b :: l, ys, h => by
    rw [List.mapM_cons] at h
    cases hb : g b with
    | none => rw [hb] at h; simp at h
    | some y =>
      rw [hb] at h
      cases hl : l.mapM g with
      | none => simp [hl] at h
      | some zs =>
        simp [hl] at h
        subst h
        obtain ⟨h1, h2⟩ := mapM_get hl
        refine ⟨by simp [h1], fun i a ha => ?_⟩
        cases i with
        | zero => simp at ha; subst ha; exact ⟨y, rfl, hb⟩
        | succ i => exact h2 i a (by simpa using ha)

theorem choose_list {α : Type} {Q : Nat → α → Prop} : ∀ (n : Nat), (∀ i, i < n → ∃ x, Q i x) → ∃ xs : List α, xs.length = n ∧ ∀ i x, xs[i]? = some x → Q i x
  | 0, _ => ⟨[], rfl, fun i x h => by simp at h⟩
  | n + 1, h => by
    obtain ⟨xs, h1, h2⟩ := choose_list (Q := Q) n fun i hi => h i (by omega)
    obtain ⟨x, hx⟩ := h n (by omega)
    refine ⟨xs ++ [x], by simp [h1], fun i y hy => ?_⟩
    by_cases e : i < n
    · rw [List.getElem?_append_left (by omega)] at hy; exact h2 i y hy
    · rw [List.getElem?_append_right (by omega)] at hy
      have e2 : i = n := by
        have := (List.getElem?_eq_some_iff.1 hy).1
        simp at this; omega
      subst e2
      rw [h1] at hy
      simp at hy
      subst hy; exact hx

theorem cells_get {w : World} {a : Addr} {n : Nat} {us : List Value} (h : w.cells? 0 a n = some us) : us.length = n ∧ ∀ j u, us[j]? = some u → w.cell? (a.add j) = some u := by
  unfold World.cells? at h
  rw [if_pos (Nat.zero_le _)] at h
  obtain ⟨h1, h2⟩ := mapM_get h
  rw [List.length_range] at h1
  refine ⟨h1, fun j u hj => ?_⟩
  have hlt : j < n := by rw [← h1]; exact (List.getElem?_eq_some_iff.1 hj).1
  obtain ⟨y, hy1, hy2⟩ := h2 j j (by simp [hlt])
  rw [hj] at hy1
  simp only [Option.some.injEq] at hy1
  rw [hy1]; exact hy2

section
variable {H : Type} {enc : TypeId × Value → H} {P : Program} {w : World} {spare : Nat → Bool} {held : Bool}

theorem parts_dv {ok : TypeId → Ty → Bool} {fuel : Nat} {cs : List Value} (hw : ∀ t T, ok t T = true → P.cellsOf t = T.width)
    (ih : ∀ t T us d ps, ok t T = true → DataW.trod enc P w 0 spare held fuel t us = some (d, ps) → ∃ x : T.den, DV (frAll w) w T x us ∧ okD T x) :
    ∀ (l : List (Nat × TypeId)) (off : Nat) (T : Ty), partsOk ok l off T = true → cs.length = off + T.width →
      (∀ p ∈ l, ∃ y, DataW.trod enc P w 0 spare held fuel p.2 ((cs.drop p.1).take (P.cellsOf p.2)) = some y) → ∃ x : T.den, DV (frAll w) w T x (cs.drop off) ∧ okD T x
  | [], _, _, h, _, _ => by simp [partsOk] at h
  | [p], off, T, h, hl, hp => by
    simp only [partsOk, Bool.and_eq_true, Nat.beq_eq] at h
    obtain ⟨⟨d, ps⟩, hy⟩ := hp p (by simp)
    rw [h.1, hw _ _ h.2, List.take_of_length_le (by simp; omega)] at hy
    exact ih _ _ _ _ _ h.2 hy
  | p :: q :: r, off, T, h, hl, hp => by
    cases T with
    | pair A B =>
      simp only [partsOk, Bool.and_eq_true, Nat.beq_eq] at h
      obtain ⟨⟨h1, h2⟩, h3⟩ := h
      obtain ⟨⟨d, ps⟩, hy⟩ := hp p (by simp)
      rw [h1, hw _ _ h2] at hy
      obtain ⟨x, dx, ox⟩ := ih _ _ _ _ _ h2 hy
      obtain ⟨y, dy, oy⟩ := parts_dv hw ih (q :: r) (off + A.width) B h3 (by simp only [Ty.width] at hl; omega) (fun p' hp' => hp p' (List.mem_cons_of_mem _ hp'))
      refine ⟨(x, y), ⟨_, _, ?_, dx, dy⟩, ox, oy⟩
      rw [← List.drop_drop, List.take_append_drop]
    | _ => simp [partsOk] at h

theorem agg_dv {ok : TypeId → Ty → Bool} {fuel : Nat} {cs : List Value} (hw : ∀ t T, ok t T = true → P.cellsOf t = T.width)
    (ih : ∀ t T us d ps, ok t T = true → DataW.trod enc P w 0 spare held fuel t us = some (d, ps) → ∃ x : T.den, DV (frAll w) w T x us ∧ okD T x)
    {l : List (Nat × TypeId)} {T : Ty} (h : aggOk ok l T = true) (hl : cs.length = T.width) (hp : ∀ p ∈ l, ∃ y, DataW.trod enc P w 0 spare held fuel p.2 ((cs.drop p.1).take (P.cellsOf p.2)) = some y) :
    ∃ x : T.den, DV (frAll w) w T x cs ∧ okD T x := by
  match l, T, h with
  | [], .unit, h => exact ⟨(), List.eq_nil_of_length_eq_zero hl, trivial⟩
  | [p], .one T, h => exact parts_dv (cs := cs) hw ih [p] 0 T h (by simpa [Ty.width] using hl) hp
  | p :: q :: r, .pair A B, h => exact parts_dv (cs := cs) hw ih (p :: q :: r) 0 (.pair A B) h (by simpa using hl) hp

theorem tyOk_w : ∀ {n : Nat} {t : TypeId} {T : Ty}, tyOk P n t T = true → P.cellsOf t = T.width
  | 0, _, _, h => by simp [tyOk] at h
  | n + 1, t, T, h => by
    unfold tyOk at h
    rw [Bool.and_eq_true] at h
    exact Nat.eq_of_beq_eq_true h.1

theorem trod_dv : ∀ (n fuel : Nat) (t : TypeId) (T : Ty) (cs : List Value) (d : DataW H) (ps : List MemPlace), tyOk P n t T = true →
    DataW.trod enc P w 0 spare held fuel t cs = some (d, ps) → ∃ x : T.den, DV (frAll w) w T x cs ∧ okD T x
  | 0, _, _, _, _, _, _, h, _ => by simp [tyOk] at h
  | n + 1, 0, _, _, _, _, _, _, h => by simp [DataW.trod] at h
  | n + 1, fuel + 1, t, T, cs, d, ps, ht, h => by
    have hw := tyOk_w ht
    unfold tyOk at ht
    rw [Bool.and_eq_true] at ht
    replace ht := ht.2
    unfold DataW.trod at h
    have ih : ∀ t T us d ps, tyOk P n t T = true → DataW.trod enc P w 0 spare held fuel t us = some (d, ps) → ∃ x : T.den, DV (frAll w) w T x us ∧ okD T x := fun t T us d ps h1 h2 => trod_dv n fuel t T us d ps h1 h2
    cases hu : P.underlying t with
    | none => rw [hu] at ht; simp at ht
    | some ty =>
      rw [hu] at ht h
      cases ty with
      | int k =>
        cases T <;> simp only [decide_eq_true_eq, Bool.false_eq_true] at ht
        subst ht
        rcases cs with _ | ⟨v, _ | ⟨v2, cs⟩⟩
        · simp at h
        · cases v <;> simp only [reduceCtorEq] at h
          rename_i k' x
          split at h
          · rename_i hk
            exact ⟨x, by rw [hk.1]; rfl, hk.2⟩
          · simp at h
        · cases v <;> simp at h
      | bool =>
        cases T <;> simp only [Bool.false_eq_true] at ht
        rcases cs with _ | ⟨v, _ | ⟨v2, cs⟩⟩
        · simp at h
        · cases v <;> simp only [reduceCtorEq] at h
          exact ⟨_, rfl, trivial⟩
        · cases v <;> simp at h
      | string =>
        cases T <;> simp only [Bool.false_eq_true] at ht
        rcases cs with _ | ⟨v, _ | ⟨v2, cs⟩⟩
        · simp at h
        · cases v <;> simp only [reduceCtorEq] at h
          split at h
          · rename_i hk
            exact ⟨_, rfl, hk⟩
          · simp at h
        · cases v <;> simp at h
      | slice e =>
        cases T <;> simp only [Bool.false_eq_true, Bool.and_eq_true] at ht
        rename_i E
        obtain ⟨ht1, ht2⟩ := ht
        have ht2 := Nat.le_of_ble_eq_true ht2
        have hwE := tyOk_w ht1
        rcases cs with _ | ⟨v, _ | ⟨v2, cs⟩⟩
        · simp at h
        · cases v <;> simp only [reduceCtorEq] at h
          rename_i a len cap
          cases a with
          | none =>
            by_cases h0 : len = 0 ∧ cap = 0
            · obtain ⟨rfl, rfl⟩ := h0
              exact ⟨[], ⟨none, 0, rfl, Nat.le_refl _, .inl rfl⟩, Nat.zero_le _, by simp⟩
            · rcases len with _ | len <;> rcases cap with _ | cap <;> simp at h h0
          | some a =>
            simp only at h
            split at h
            · rename_i hb
              obtain ⟨b1, b2, b3⟩ := hb
              cases hm : (List.range len).mapM fun i => (w.cells? 0 (a.add (i * P.cellsOf e)) (P.cellsOf e)).bind (DataW.trod enc P w 0 spare held fuel e) with
              | none => rw [hm] at h; simp at h
              | some ys =>
                have each : ∀ i, i < len → ∃ x : E.den, (∃ us, DV (frAll w) w E x us ∧ us.length = E.width ∧ ∀ j u, us[j]? = some u → w.cell? ((a.add (i * E.width)).add j) = some u) ∧ okD E x := by
                  intro i hi
                  obtain ⟨y, hy⟩ := mapM_each hm i (by simpa using hi)
                  cases hc : w.cells? 0 (a.add (i * P.cellsOf e)) (P.cellsOf e) with
                  | none => rw [hc] at hy; simp at hy
                  | some us =>
                    rw [hc] at hy
                    obtain ⟨l1, l2⟩ := cells_get hc
                    obtain ⟨x, dx, ox⟩ := ih e E us y.1 y.2 ht1 hy
                    rw [hwE] at l1 l2
                    exact ⟨x, ⟨us, dx, l1, l2⟩, ox⟩
                obtain ⟨xs, x1, x2⟩ := choose_list len each
                refine ⟨xs, ⟨some a, cap, by rw [x1], by omega, ?_⟩, by omega, fun x hx => ?_⟩
                · rcases xs with _ | ⟨x0, xs⟩
                  · exact .inl rfl
                  · -- the address is a plain one
                    obtain ⟨⟨us, _, u2, u3⟩, _⟩ := x2 0 x0 rfl
                    have hs : a.spot = none := by
                      have h0 : ∃ u, us[0]? = some u := ⟨us[0]'(by omega), List.getElem?_eq_getElem (by omega)⟩
                      obtain ⟨u, hu0⟩ := h0
                      have := u3 0 u hu0
                      rw [Nat.zero_mul] at this
                      have e1 : (a.add 0).add 0 = a := by simp [Addr.add]
                      rw [e1] at this
                      unfold World.cell? at this
                      split at this
                      · cases hsp : a.spot with
                        | none => rfl
                        | some q => rw [hsp] at this; simp at this
                      · simp at this
                    obtain ⟨B, o, sp⟩ := a
                    simp only at hs
                    subst hs
                    refine .inr ⟨B, o, rfl, fun i x hi => ?_⟩
                    obtain ⟨⟨us, d, l, c⟩, _⟩ := x2 i x hi
                    refine ⟨us, d, l, fun j u hj => ?_⟩
                    have := c j u hj
                    rw [add_lit, add_lit] at this
                    exact ⟨cell_lt this, this⟩
                · obtain ⟨i, hi, rfl⟩ := List.getElem_of_mem hx
                  exact (x2 i _ (List.getElem?_eq_getElem hi)).2
            · simp at h
        · cases v <;> simp at h
      | struct fs =>
        simp only at h
        split at h
        · rename_i hl
          cases hm : fs.toList.mapM fun f => DataW.trod enc P w 0 spare held fuel f.type ((cs.drop f.offset).take (P.cellsOf f.type)) with
          | none => rw [hm] at h; simp at h
          | some xs =>
            refine agg_dv (fun t T h => tyOk_w h) ih ht (hl.trans hw) fun p hp => ?_
            obtain ⟨f, hf, rfl⟩ := List.mem_map.1 hp
            exact mapM_each hm f hf
        · simp at h
      | array m e =>
        simp only at h
        split at h
        · rename_i hl
          cases hm : (List.range m).mapM fun i => DataW.trod enc P w 0 spare held fuel e ((cs.drop (i * P.cellsOf e)).take (P.cellsOf e)) with
          | none => rw [hm] at h; simp at h
          | some xs =>
            refine agg_dv (fun t T h => tyOk_w h) ih ht (hl.trans hw) fun p hp => ?_
            obtain ⟨i, hi, rfl⟩ := List.mem_map.1 hp
            exact mapM_each hm i hi
        · simp at h
      | _ => simp at ht

theorem isAgg_of {ok : TypeId → Ty → Bool} {l : List (Nat × TypeId)} {T : Ty} (h : aggOk ok l T = true) : T.isAgg = true := by
  match l, T, h with
  | [], .unit, _ => rfl
  | [p], .one T, _ => rfl
  | p :: q :: r, .pair A B, _ => rfl

theorem trod_val {n : Nat} {t : TypeId} {T : Ty} {v : Value} {d : DataW H} {ps : List MemPlace} {rc : Reach} {base : Nat} (ht : tyOk P n t T = true) (hv : Value.okWide P w rc base t v)
    (h : DataW.Trod enc P w 0 spare held t v d ps) : ∃ x : T.den, DVal (frAll w) w T x v ∧ okD T x := by
  obtain ⟨fuel, hf⟩ := h
  obtain ⟨x, dx, ox⟩ := trod_dv n fuel t T _ _ _ ht hf
  refine ⟨x, ?_, ox⟩
  cases n with
  | zero => simp [tyOk] at ht
  | succ n =>
    unfold tyOk at ht
    rw [Bool.and_eq_true] at ht
    replace ht := ht.2
    unfold Value.okWide at hv
    cases hu : P.underlying t with
    | none => rw [hu] at ht; simp at ht
    | some ty =>
      rw [hu] at ht hv
      have agg : ∀ l, aggOk (tyOk P n) l T = true → (∃ cs, v = .agg cs ∧ cs.size = P.cellsOf t ∧ Row.okWide P w rc base t cs) → DVal (frAll w) w T x v := by
        intro l hl hc
        obtain ⟨cs, rfl, _⟩ := hc
        unfold DVal
        rw [isAgg_of hl]
        exact ⟨cs, rfl, dx⟩
      have one : T.isAgg = false → v.cells = #[v] → DVal (frAll w) w T x v := by
        intro h1 h2
        unfold DVal
        rw [h1]
        rw [h2] at dx
        exact dx
      cases ty with
      | int k =>
        cases T <;> simp only [Bool.false_eq_true] at ht
        refine one rfl ?_
        simp only [Cell.okWide, hu, Cell.ok] at hv
        cases v <;> first | rfl | simp at hv
      | bool =>
        cases T <;> simp only [Bool.false_eq_true] at ht
        refine one rfl ?_
        simp only [Cell.okWide, hu, Cell.ok] at hv
        cases v <;> first | rfl | simp at hv
      | string =>
        cases T <;> simp only [Bool.false_eq_true] at ht
        refine one rfl ?_
        simp only [Cell.okWide, hu, Cell.ok] at hv
        cases v <;> first | rfl | simp at hv
      | slice e =>
        cases T <;> simp only [Bool.false_eq_true] at ht
        refine one rfl ?_
        simp only [Cell.okWide, hu, Cell.ok] at hv
        cases v <;> first | rfl | simp at hv
      | struct fs => exact agg _ ht hv
      | array m e => exact agg _ ht hv
      | _ => simp at ht

def tysOk (P : Program) (n : Nat) : List TypeId → List Ty → Bool
  | [], [] => true
  | t :: ts, T :: Ts => tyOk P n t T && tysOk P n ts Ts
  | _, _ => false

def okAr : (As : List Ty) → Ar As → Prop
  | [], _ => True
  | T :: Ts, x => okD T x.1 ∧ okAr Ts x.2

theorem trod_args {n : Nat} {rc : Reach} {base : Nat} : ∀ {ts : List TypeId} {As : List Ty} {vs : List Value} {ds : List (DataW H)} {ps : List MemPlace}, tysOk P n ts As = true →
    (∀ (j : Nat) t v, ts[j]? = some t → vs[j]? = some v → Value.okWide P w rc base t v) → DataW.TrodAll enc P w 0 spare held ts vs ds ps → ∃ x : Ar As, ArgsDV (frAll w) w As x vs ∧ okAr As x
  | [], [], vs, ds, ps, _, _, h => by
    obtain ⟨rfl, rfl, rfl⟩ := trodAll_nil h
    exact ⟨(), rfl, trivial⟩
  | t :: ts, T :: Ts, vs, ds, ps, ht, hv, h => by
    simp only [tysOk, Bool.and_eq_true] at ht
    obtain ⟨v0, vs0, d0, ds0, p0, q0, rfl, rfl, rfl, h0, r0⟩ := trodAll_cons h
    obtain ⟨x, dx, ox⟩ := trod_val ht.1 (hv 0 t v0 rfl rfl) h0
    obtain ⟨y, dy, oy⟩ := trod_args ht.2 (fun j t v h1 h2 => hv (j + 1) t v h1 h2) r0
    exact ⟨(x, y), ⟨v0, vs0, rfl, dx, dy⟩, ox, oy⟩
  | [], _ :: _, _, _, _, h, _, _ => by simp [tysOk] at h
  | _ :: _, [], _, _, _, h, _, _ => by simp [tysOk] at h

theorem trod_len : ∀ {ts : List TypeId} {vs : List Value} {ds : List (DataW H)} {ps : List MemPlace}, DataW.TrodAll enc P w 0 spare held ts vs ds ps → ds.length = ts.length
  | [], vs, ds, ps, h => by
    obtain ⟨rfl, rfl, rfl⟩ := trodAll_nil h
    rfl
  | t :: ts, vs, ds, ps, h => by
    obtain ⟨v0, vs0, d0, ds0, p0, q0, rfl, rfl, rfl, h0, r0⟩ := trodAll_cons h
    simp [trod_len r0]

theorem trodAll_below {W W' : World} (hl : laidOutB P = true) (hb : Below W.heap.size W W') : ∀ {ts : List TypeId} {vs : List Value} {ds : List (DataW H)} {ps : List MemPlace}, (∀ t ∈ ts, P.readableRec t = true ∧ t < P.types.size) →
    DataW.TrodAll enc P W 0 (fun _ => true) true ts vs ds ps → DataW.TrodAll enc P W' 0 (fun b => decide (b < W.heap.size)) true ts vs ds ps
  | [], vs, ds, ps, _, h => by
    obtain ⟨rfl, rfl, rfl⟩ := trodAll_nil h
    exact trodAll_mk0
  | t :: ts, vs, ds, ps, ht, h => by
    obtain ⟨v0, vs0, d0, ds0, p0, q0, rfl, rfl, rfl, h0, r0⟩ := trodAll_cons h
    have hlt : ∀ x ∈ p0, x.block < W.heap.size := by obtain ⟨m, hm⟩ := h0; exact DataW.trod_lt m _ _ _ hm
    exact trodAll_cons_mk (Below.trod hl (ht t (by simp)).1 (ht t (by simp)).2 h0 hb hlt) (trodAll_below hl hb (fun t' h' => ht t' (List.mem_cons_of_mem _ h')) r0)

end

/-- THE END OF A LAW: from what the function comes to, over data, to what the row says. -/
theorem law_lifted {C : Checked} {os : Os} {f : FuncId} {fn : Func} {s : ChangeSpec} {conds : List PathCond} {H : Type} {enc : TypeId × Value → H} {ts : List TypeId} {As : List Ty} {b : TypeId} {n : Nat} {Fo : Ar As → Option (Ar [.bool])}
    (own : ownKnob C.prog.godebug = none) (started : os.Started) (noInit : C.prog.inits.idxOf? f = none) (hfn : C.prog.funcs[f]? = some fn)
    (witness : ∃ (w : World) (tape : Tape) (i : Input), w.os = os ∧ (w.forCall tape i).Shaped C.prog ∧ i.vars = [] ∧ Input.okWide C.prog (w.forCall tape i) .any w.heap.size f i ∧
      s.pre6 enc C.prog fn conds false (w.forCall tape i).memory i.args ∧ Assume.holds {} C.prog (lone (Frame.enter C.prog f i.args .normal) [] (w.forCall tape i)))
    (laid : laidOutB C.prog = true) (hps : fn.params = ts.toArray) (hrd' : (ts.all fun t => C.prog.readableRec t && decide (t < C.prog.types.size)) = true) (hrs : fn.resultTypes = #[b]) (hb : C.prog.underlying b = some .bool) (hvars : s.vars = [])
    (hspec : ∀ ds : List (DataW H), ds.length = ts.length → s.fn H ds = { results := [.lit (.bool true)], args := ds }) (hty : tysOk C.prog n ts As = true) (hF : FnOk C.prog f As [.bool] Fo) (hlaw : ∀ x, okAr As x → Fo x = some (true, ())) :
    ReturnsInHanded {} C os f .any (s.pre6 enc C.prog fn conds false) (s.post enc C.prog fn false true false false) := by
  have hrd : ∀ t ∈ ts, C.prog.readableRec t = true ∧ t < C.prog.types.size := fun t ht => by
    have := List.all_eq_true.1 hrd' t ht
    simpa using this
  refine returnsInHanded_of_change own started noInit hfn witness ?_
  intro W base args ds gs before hval hW hcnd _
  have hW' := hW
  obtain ⟨p, q, hA, hV, rfl, hfz, hnd⟩ := hW
  rw [hps] at hval hA
  rw [hvars] at hV
  obtain ⟨rfl, rfl⟩ := trodVars_none hV
  obtain ⟨x, hx, ox⟩ := trod_args (vs := args.toList) hty (fun j t v h1 h2 => hval j t v (by simpa using h1) (by simpa using h2)) hA
  refine (hF (frAll W) W x args (true, ()) hx (hlaw x ox)).mono fun e W' hp => ?_
  obtain ⟨v, fr', rfl, ⟨us, ⟨u, us', rfl, h1, h2⟩, rfl⟩, h3, h4, _⟩ := hp
  obtain rfl : us' = [] := h2
  obtain h1 : [u] = [Value.bool true] := h1
  simp only [List.cons.injEq, and_true] at h1
  subst h1
  have hlen : (ds ++ []).length = ts.length := by
    have := trod_len hA
    simpa using this
  refine ⟨_, rfl, ds, [], _, [], p, [], hW', ?_, ?_, ?_, h3.frame _, fun h => by cases h⟩
  · rw [hspec _ hlen, hrs]
    exact trodAll_mk1 (shut_bool hb _)
  · rw [hspec _ hlen, hps, List.append_nil]
    exact trodAll_below laid h3 hrd hA
  · rw [hspec _ hlen, hvars]; rfl

theorem and2 {a b : Bool} (h : a = true) (k : b = true) : (a && b) = true := by rw [h, k]; rfl

theorem mayEnter_of {P : Program} {c : List Char} {rest : List (List Char)} (h : behindMainWord (wordsSigns P.initOrder.toList) = c :: rest) (hs : stripLifts liftWords (c :: rest) = ([], c :: rest))
    (hc : ((c :: rest).head? == some "cut".toList) = true) (hl : P.laysLater = false) (hb : P.bearsReflect = false) (hd : P.doorRows = []) : P.mayEnter = true := by
  have hf : P.doorFits [] = true := by
    unfold Program.doorFits
    rw [hd]
    rfl
  unfold Program.mayEnter
  rw [h]
  dsimp only
  rw [hs]
  dsimp only
  rw [hl, hb, hf, hc]
  simp

theorem lifts_of {P : Program} {c : List Char} {rest : List (List Char)} (h : behindMainWord (wordsSigns P.initOrder.toList) = c :: rest) (hs : stripLifts liftWords (c :: rest) = ([], c :: rest))
    (hh : ((c :: rest).head? == some "carried".toList) = false) : P.liftsFinal = false := by
  have hl : P.headLifts = [] := by
    unfold Program.headLifts
    rw [h]
    dsimp only
    rw [hs]
    simp
  unfold Program.liftsFinal
  rw [h, hl]
  dsimp only
  rw [hh]
  rfl

theorem make_of {P : Program} {c : List Char} {rest : List (List Char)} (h : behindMainWord (wordsSigns P.initOrder.toList) = c :: rest) (hg : (c == "gc".toList || c == "spec".toList) = false) (hc : (c == "cut".toList) = true) : P.make = some .cut := by
  unfold Program.make
  rw [h]
  dsimp only
  rw [hg, hc]
  simp

def kindsOk (P : Program) (fn : Func) (c : OpenClaim) : Bool := (c.kinds == (if c.domain.isEmpty then [] else fn.params.toList.map fun t => match P.underlying t with | some (.int k) => some k | _ => none))

/-- The closed facts of a row, one by one: together they are too much for one look. -/
theorem facts_of {P : Program} {f : FuncId} {fn : Func} {s : ChangeSpec} {c : OpenClaim} (k1 : c.wf (OpenSpec.ofChange s) = true) (k2 : laidOutB P = true) (k3 : mapsRowed P = true)
    (k4 : fn.params.all (P.readableRec ·) = true) (k5 : namedTie P c.named s.vars = true) (k6 : (c.stops == []) = true) (k7 : (P.stops == []) = true) (k8 : (c.knobs == []) = true) (k9 : (P.stopKnobs == []) = true)
    (k10 : (c.inPlace == P.inPlace f) = true) (k11 : (c.unfollowed == P.unfollowed f) = true) (k12 : (c.recurses == P.recurses f) = true) (k13 : (c.named == P.varsNamed f) = true)
    (k14 : (c.maps == (fn.params.toList ++ s.plain.varTypes P).any (P.mapsRec ·)) = true) (k15 : (c.ifaces == (fn.params.toList ++ s.plain.varTypes P).any (P.ifacesRec ·)) = true) (k16 : (c.mapsOut == P.mapsAmong fn.resultTypes.toList) = true)
    (k17 : (c.loops == (fn.params.toList ++ s.plain.varTypes P).any (P.loopsFrom ·)) = true) (k18 : (c.wideKeys == (fn.params.toList ++ s.plain.varTypes P ++ fn.resultTypes.toList).any (P.wideKeysFrom ·)) = true)
    (k19 : s.vars.all (P.varReadable ·) = true) (k20 : fn.resultTypes.all (fun t => P.readableRec t && decide (t < P.types.size)) = true) (k21 : (c.ifacesOut == fn.resultTypes.toList.any (P.ifacesRec ·)) = true) (k22 : (c.loopsOut == fn.resultTypes.toList.any (P.loopsFrom ·)) = true)
    (k23 : (c.plainKeys == P.plainKeys) = true) (k24 : c.shortTexts.isNone = true) (k25 : P.stopsHeard = true) (k26 : P.mayEnter = true) (k27 : (c.lifted == P.liftsFinal) = true) (k28 : (P.make == some c.make) = true)
    (k29 : kindsOk P fn c = true) (k30 : (c.pinned == c.pinnedBy) = true)
    (k31 : (c.veiled == (fn.params.toList ++ s.plain.varTypes P ++ fn.resultTypes.toList).any (P.veiledRec ·)) = true) (k32 : c.veiledFits P fn.params.toList (fn.params.toList ++ s.plain.varTypes P ++ fn.resultTypes.toList) = true) : joinedFacts P f fn s c = true := by
  unfold joinedFacts
  exact (and2 (and2 (and2 (and2 (and2 (and2 (and2 (and2 (and2 (and2 (and2 (and2 (and2 (and2 (and2 (and2 (and2 (and2 (and2 (and2 (and2 (and2 (and2 (and2 (and2 (and2 (and2 (and2 (and2 (and2 (and2 k1 k2) k3) k4) k5) k6) k7) k8) k9) k10) k11) k12) k13) k14) k15) k16) k17) k18) k19) k20) k21) k22) k23) k24) k25) k26) k27) k28) k29) k30) k31) k32)

end Go.RX

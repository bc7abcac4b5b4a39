/-
  States of pieces of code as data: slots, what they hold, and where it lies.
-/
import Derived.Test.YtleejiihlldflaaGreatRt
namespace Go.RX

/-- What a group of cells holds: data, or a vector of its own. -/
inductive Ct where
  | d (t : Ty)
  | v (e : TypeId) (t : Ty)

@[reducible] def Ct.den : Ct → Type
  | .d t => t.den
  | .v _ t => List t.den

@[reducible] def Cts : List Ct → Type
  | [] => Unit
  | c :: cs => c.den × Cts cs

def Ct.nv : Ct → Nat
  | .d _ => 0
  | .v _ _ => 1
def nvs : List Ct → Nat
  | [] => 0
  | c :: cs => c.nv + nvs cs

/-- Where a part of the state lies: in these temporaries; behind a pointer; as an aggregate. -/
structure Slot where
  tmps : List Nat
  box : Bool
  agg : Bool
  cts : List Ct

def Slot.no (s : Slot) : Nat := (bif s.box then 1 else 0) + nvs s.cts
def nos : List Slot → Nat
  | [] => 0
  | s :: ss => s.no + nos ss

@[reducible] def Sl : List Slot → Type
  | [] => Unit
  | s :: ss => Cts s.cts × Sl ss

/- AS ABSTRACT VALUES -/

def ctC (ν : Nat → Nat) : (c : Ct) → c.den → Nat → List AV
  | .d t, x, _ => flat t x
  | .v _ _, _, n => [.vec (ν n)]
def ctsC (ν : Nat → Nat) : (cs : List Ct) → Cts cs → Nat → List AV
  | [], _, _ => []
  | c :: cs, x, n => ctC ν c x.1 n ++ ctsC ν cs x.2 (n + c.nv)
def ctO : (c : Ct) → c.den → List HObj
  | .d _, _ => []
  | .v e t, xs => [.vec e t xs false]
def ctsO : (cs : List Ct) → Cts cs → List HObj
  | [], _ => []
  | c :: cs, x => ctO c x.1 ++ ctsO cs x.2
def slV (ν : Nat → Nat) (s : Slot) (x : Cts s.cts) (n : Nat) : AV :=
  bif s.box then .ptr (ν n) 0 else bif s.agg then .agg (ctsC ν s.cts x n) else (ctsC ν s.cts x n).headD .top
def slO (ν : Nat → Nat) (s : Slot) (x : Cts s.cts) (n : Nat) : List HObj :=
  bif s.box then .val (ctsC ν s.cts x (n + 1)) false :: ctsO s.cts x else ctsO s.cts x
def setT : List Nat → AV → List AV → List AV
  | [], _, tm => tm
  | t :: ts, v, tm => setT ts v (tm.set t v)
def mkT (ν : Nat → Nat) : (ss : List Slot) → Sl ss → Nat → List AV → List AV
  | [], _, _, tm => tm
  | s :: ss, x, n, tm => mkT ν ss x.2 (n + s.no) (setT s.tmps (slV ν s x.1 n) tm)
def mkH (ν : Nat → Nat) : (ss : List Slot) → Sl ss → Nat → List HObj
  | [], _, _ => []
  | s :: ss, x, n => slO ν s x.1 n ++ mkH ν ss x.2 (n + s.no)

theorem ctO_len : ∀ (c : Ct) (x : c.den), (ctO c x).length = c.nv
  | .d _, _ => rfl
  | .v _ _, _ => rfl
theorem ctsO_len : ∀ (cs : List Ct) (x : Cts cs), (ctsO cs x).length = nvs cs
  | [], _ => rfl
  | c :: cs, x => by simp [ctsO, nvs, ctO_len, ctsO_len cs x.2]
theorem slO_len (ν : Nat → Nat) (s : Slot) (x : Cts s.cts) (n : Nat) : (slO ν s x n).length = s.no := by
  unfold slO Slot.no
  cases s.box <;> simp [ctsO_len]; omega
theorem mkH_len (ν : Nat → Nat) : ∀ (ss : List Slot) (x : Sl ss) (n : Nat), (mkH ν ss x n).length = nos ss
  | [], _, _ => rfl
  | s :: ss, x, n => by simp [mkH, nos, slO_len, mkH_len ν ss x.2]

/- IN MEMORY -/

section
variable (fr : Nat → Nat → Prop) (w : World) (loc : Nat → Value)

def CtV : (c : Ct) → c.den → Nat → List Value → Prop
  | .d t, x, _, vs => DV fr w t x vs
  | .v _ _, _, n, vs => vs = [loc n]
def CtsV : (cs : List Ct) → Cts cs → Nat → List Value → Prop
  | [], _, _, vs => vs = []
  | c :: cs, x, n, vs => ∃ a b, vs = a ++ b ∧ CtV fr w loc c x.1 n a ∧ CtsV cs x.2 (n + c.nv) b

/-- A vector of one's own. -/
def OkVec (v : Value) (e : TypeId) (t : Ty) (xs : List t.den) : Prop :=
  1 ≤ t.width ∧ v.oneCell' = true ∧ ∃ us : List Value, w.ownsRow 0 e t.width v xs.length us ∧
    (∀ i x, xs[i]? = some x → DV fr w t x ((us.drop (i * t.width)).take t.width)) ∧ ∀ B, v.ownBlock = some B → ∀ o, ¬ fr B o

def CtOb : (c : Ct) → c.den → Nat → Prop
  | .d _, _, _ => True
  | .v e t, xs, n => OkVec fr w (loc n) e t xs
def CtsOb : (cs : List Ct) → Cts cs → Nat → Prop
  | [], _, _ => True
  | c :: cs, x, n => CtOb fr w loc c x.1 n ∧ CtsOb cs x.2 (n + c.nv)

/-- What is behind a pointer. -/
def OkBox (v : Value) (cs : List Ct) (x : Cts cs) (n : Nat) : Prop :=
  ∃ (B : Nat) (T : TypeId) (vs : Array Value), v = .pointer (some ⟨B, 0, none⟩) ∧ w.heap[B]? = some (.cells vs T (0, 0)) ∧ CtsV fr w loc cs x n vs.toList ∧ ∀ o, o < vs.size → ¬ fr B o

def SlV (s : Slot) (x : Cts s.cts) (n : Nat) (v : Value) : Prop :=
  bif s.box then v = loc n else bif s.agg then ∃ vs : Array Value, v = .agg vs ∧ CtsV fr w loc s.cts x n vs.toList else CtsV fr w loc s.cts x n [v]
def SlOb (s : Slot) (x : Cts s.cts) (n : Nat) : Prop :=
  bif s.box then OkBox fr w loc (loc n) s.cts x (n + 1) ∧ CtsOb fr w loc s.cts x (n + 1) else CtsOb fr w loc s.cts x n

def SsV (tv : List Value) : (ss : List Slot) → Sl ss → Nat → Prop
  | [], _, _ => True
  | s :: ss, x, n => (∀ t ∈ s.tmps, ∀ v, tv[t]? = some v → SlV fr w loc s x.1 n v) ∧ SsV tv ss x.2 (n + s.no)
def SsOb : (ss : List Slot) → Sl ss → Nat → Prop
  | [], _, _ => True
  | s :: ss, x, n => SlOb fr w loc s x.1 n ∧ SsOb ss x.2 (n + s.no)

end

/-- The block that a value leads to. -/
def blkOf : Value → Option Nat
  | .pointer (some a) => some a.block
  | .slice (some a) _ _ => some a.block
  | _ => none

/-- A state of slots, with the blocks that are its own. -/
structure Own (fr : Nat → Nat → Prop) (w : World) (loc : Nat → Value) (ss : List Slot) (x : Sl ss) (tv : List Value) : Prop where
  v : SsV fr w loc tv ss x 0
  ob : SsOb fr w loc ss x 0
  inj : ∀ i j B, i < nos ss → j < nos ss → blkOf (loc i) = some B → blkOf (loc j) = some B → i = j
  lt : ∀ i B, i < nos ss → blkOf (loc i) = some B → B < w.heap.size

/- FROM THE SLOTS TO AN ABSTRACT STATE -/

/-- The objects n, .., n + m - 1 of slots are the objects ν n, .. of a state. -/
def Num (G : Gh) (loc : Nat → Value) (ν : Nat → Nat) (n m : Nat) : Prop :=
  ∀ i, n ≤ i → i < n + m → ν i < G.n ∧ G.loc (ν i) = loc i ∧ ∀ B, blkOf (loc i) = some B → G.bo B = some (ν i)

theorem Num.sub {G : Gh} {loc : Nat → Value} {ν : Nat → Nat} {n m n' m' : Nat} (h : Num G loc ν n m) (h1 : n ≤ n') (h2 : n' + m' ≤ n + m) : Num G loc ν n' m' :=
  fun i hi hi' => h i (by omega) (by omega)

section
variable {G : Gh} {w : World} {loc : Nat → Value} {ν : Nat → Nat}

theorem ctC_rep : ∀ {c : Ct} {x : c.den} {n : Nat} {vs : List Value}, Num G loc ν n c.nv → CtOb G.fr w loc c x n → CtV G.fr w loc c x n vs → RepL G w (ctC ν c x n) vs
  | .d t, x, n, vs, _, _, h => flat_rep h
  | .v e t, xs, n, vs, hn, ho, h => by
    obtain rfl : vs = [loc n] := h
    have h1 : (loc n).oneCell' = true := ho.2.1
    obtain ⟨q1, q2, _⟩ := hn n (Nat.le_refl _) (by simp [Ct.nv])
    rw [← q2] at h1 ⊢
    exact RepL.cons (.vec (ν n) q1 h1) (RepL.nil G w)

theorem ctsC_rep : ∀ {cs : List Ct} {x : Cts cs} {n : Nat} {vs : List Value}, Num G loc ν n (nvs cs) → CtsOb G.fr w loc cs x n → CtsV G.fr w loc cs x n vs → RepL G w (ctsC ν cs x n) vs
  | [], _, _, vs, _, _, h => by rw [show vs = [] from h]; exact RepL.nil G w
  | c :: cs, x, n, vs, hn, ho, ⟨a, b, e, h1, h2⟩ => by
    rw [e]
    exact (ctC_rep (hn.sub (Nat.le_refl _) (by simp only [nvs]; omega)) ho.1 h1).append (ctsC_rep (hn.sub (by omega) (by simp only [nvs]; omega)) ho.2 h2)

theorem slV_rep {s : Slot} {x : Cts s.cts} {n : Nat} {v : Value} (hn : Num G loc ν n s.no) (ho : SlOb G.fr w loc s x n) (h : SlV G.fr w loc s x n v) : Rep G w (slV ν s x n) v := by
  unfold SlOb at ho
  unfold SlV at h
  unfold slV
  cases hb : s.box with
  | true =>
    rw [hb] at ho h
    simp only [cond_true] at ho h ⊢
    obtain ⟨⟨B, T, vs, h1, _⟩, _⟩ := ho
    obtain ⟨q1, q2, _⟩ := hn n (Nat.le_refl _) (by simp [Slot.no, hb]; omega)
    rw [h, h1]
    exact .ptr (ν n) 0 B q1 (q2.trans h1)
  | false =>
    rw [hb] at ho h
    simp only [cond_false] at ho h ⊢
    have hn' : Num G loc ν n (nvs s.cts) := hn.sub (Nat.le_refl _) (by simp [Slot.no, hb])
    cases ha : s.agg with
    | true =>
      rw [ha] at h
      obtain ⟨vs, rfl, h2⟩ := h
      have r := ctsC_rep hn' ho h2
      exact .agg _ _ (by simpa using r.1) fun i c v hc hv => r.2 i c v hc (by simpa using hv)
    | false =>
      rw [ha] at h
      have r := ctsC_rep hn' ho h
      simp only [cond_false]
      cases hc : ctsC ν s.cts x n with
      | nil => exact .top _
      | cons c cs => rw [hc] at r; exact r.head

theorem RepL.set' {cs : List AV} {vs : List Value} (h : RepL G w cs vs) {c : AV} {n : Nat} (hr : ∀ v, vs[n]? = some v → Rep G w c v) : RepL G w (cs.set n c) vs :=
  ⟨by simp [h.1], fun i d u hd hu => by
    rw [List.getElem?_set] at hd
    split at hd
    · split at hd
      · rename_i e _; subst e
        simp only [Option.some.injEq] at hd
        subst hd; exact hr u hu
      · simp at hd
    · exact h.2 i d u hd hu⟩

theorem setT_rep {c : AV} {vs : List Value} : ∀ {ts : List Nat} {cs : List AV}, RepL G w cs vs → (∀ t ∈ ts, ∀ v, vs[t]? = some v → Rep G w c v) → RepL G w (setT ts c cs) vs
  | [], _, h, _ => h
  | t :: ts, cs, h, hr => setT_rep (ts := ts) (h.set' (hr t (by simp))) fun t' ht => hr t' (List.mem_cons_of_mem _ ht)

theorem mkT_rep {tv : List Value} : ∀ {ss : List Slot} {x : Sl ss} {n : Nat} {tm : List AV}, Num G loc ν n (nos ss) → SsOb G.fr w loc ss x n → SsV G.fr w loc tv ss x n → RepL G w tm tv → RepL G w (mkT ν ss x n tm) tv
  | [], _, _, _, _, _, _, h => h
  | s :: ss, x, n, tm, hn, ho, hv, h => mkT_rep (ss := ss) (hn.sub (by omega) (by simp only [nos]; omega)) ho.2 hv.2
      (setT_rep h fun t ht v hv' => slV_rep (hn.sub (Nat.le_refl _) (by simp only [nos]; omega)) ho.1 (hv.1 t ht v hv'))

/-- A vector of one's own is an object. -/
theorem okO_vec {b : Nat} {e : TypeId} {t : Ty} {xs : List t.den} (h : OkVec G.fr w (G.loc b) e t xs) (hw : G.wd b = t.width) (hb : ∀ B, blkOf (G.loc b) = some B → G.bo B = some b) : OkO G w b (.vec e t xs false) := by
  obtain ⟨h1, h2, us, h3, h4, h5⟩ := h
  refine ⟨h1, hw, us, h3, h4, fun B hB => ⟨hb B ?_, fun _ o => h5 B hB o, fun o _ => h5 B hB o⟩⟩
  cases hv : G.loc b with
  | slice a l c =>
    rw [hv] at hB
    cases a with
    | none => simp [Value.ownBlock] at hB
    | some a => exact hB
  | _ => rw [hv] at hB; simp [Value.ownBlock] at hB

/-- Widths of the vectors, by number. -/
def ctW : Ct → List Nat
  | .d _ => []
  | .v _ t => [t.width]
def ctsW : List Ct → List Nat
  | [] => []
  | c :: cs => ctW c ++ ctsW cs
def slW (s : Slot) : List Nat := bif s.box then 0 :: ctsW s.cts else ctsW s.cts
def ssW : List Slot → List Nat
  | [] => []
  | s :: ss => slW s ++ ssW ss

theorem ctW_len : ∀ c : Ct, (ctW c).length = c.nv
  | .d _ => rfl
  | .v _ _ => rfl
theorem ctsW_len : ∀ cs : List Ct, (ctsW cs).length = nvs cs
  | [] => rfl
  | c :: cs => by simp [ctsW, nvs, ctW_len, ctsW_len cs]
theorem slW_len (s : Slot) : (slW s).length = s.no := by
  unfold slW Slot.no
  cases s.box <;> simp [ctsW_len]; omega
theorem ssW_len : ∀ ss : List Slot, (ssW ss).length = nos ss
  | [] => rfl
  | s :: ss => by simp [ssW, nos, slW_len, ssW_len ss]

/-- Widths as a state has them. -/
def Wid (G : Gh) (ν : Nat → Nat) (n : Nat) (l : List Nat) : Prop := ∀ i k, l[i]? = some k → k = 0 ∨ G.wd (ν (n + i)) = k

theorem Wid.left {n : Nat} {a b : List Nat} (h : Wid G ν n (a ++ b)) : Wid G ν n a := fun i k hk => h i k (by
  rw [List.getElem?_append_left (List.getElem?_eq_some_iff.1 hk).1]; exact hk)
theorem Wid.right {n : Nat} {a b : List Nat} (h : Wid G ν n (a ++ b)) : Wid G ν (n + a.length) b := fun i k hk => by
  have := h (a.length + i) k (by rw [List.getElem?_append_right (by omega), Nat.add_sub_cancel_left]; exact hk)
  rw [← Nat.add_assoc] at this; exact this

/-- The objects of slots, wherever they are counted: object n of the slots is object ν n of the state. -/
theorem cts_obj : ∀ {cs : List Ct} {x : Cts cs} {n : Nat}, Num G loc ν n (nvs cs) → CtsOb G.fr w loc cs x n → Wid G ν n (ctsW cs) → ∀ i o, (ctsO cs x)[i]? = some o → OkO G w (ν (n + i)) o
  | [], _, _, _, _, _, i, o, h => by simp [ctsO] at h
  | c :: cs, x, n, hn, ho, hw, i, o, h => by
    have hr := hw.right
    rw [ctW_len] at hr
    have rest : ∀ i o, (ctsO cs x.2)[i]? = some o → OkO G w (ν (n + c.nv + i)) o := cts_obj (cs := cs) (hn.sub (by omega) (by simp only [nvs]; omega)) ho.2 hr
    cases c with
    | d t => have := rest i o (by simpa [ctsO, ctO] using h); simpa [Ct.nv] using this
    | v e t =>
      cases i with
      | zero =>
        simp only [ctsO, ctO, List.singleton_append, List.getElem?_cons_zero, Option.some.injEq] at h
        subst h
        have h1 : OkVec G.fr w (loc n) e t x.1 := ho.1
        obtain ⟨q1, q2, q3⟩ := hn n (Nat.le_refl _) (by simp [nvs, Ct.nv]; omega)
        rw [← q2] at h1 q3
        exact okO_vec h1 ((hw 0 _ rfl).resolve_left (by have := h1.1; omega)) q3
      | succ i =>
        have := rest i o (by simpa [ctsO, ctO] using h)
        simp only [Ct.nv] at this
        rw [show n + (i + 1) = n + 1 + i by omega]; exact this

theorem sl_obj {s : Slot} {x : Cts s.cts} {n : Nat} (hn : Num G loc ν n s.no) (ho : SlOb G.fr w loc s x n) (hw : Wid G ν n (slW s)) : ∀ i o, (slO ν s x n)[i]? = some o → OkO G w (ν (n + i)) o := by
  intro i o h
  unfold slO at h
  unfold SlOb at ho
  unfold slW at hw
  cases hbx : s.box with
  | true =>
    rw [hbx] at h ho hw
    simp only [cond_true] at h ho hw
    have hn' : Num G loc ν (n + 1) (nvs s.cts) := hn.sub (by omega) (by simp [Slot.no, hbx]; omega)
    cases i with
    | zero =>
      simp only [List.getElem?_cons_zero, Option.some.injEq] at h
      subst h
      obtain ⟨⟨B, T, vs, h1, h2, h3, h4⟩, h5⟩ := ho
      obtain ⟨q1, q2, q3⟩ := hn n (Nat.le_refl _) (by simp [Slot.no, hbx]; omega)
      exact ⟨B, T, vs, q2.trans h1, h2, q3 B (by rw [h1]; rfl), ctsC_rep hn' h5 h3, fun o ho' => ⟨fun hf => absurd hf (h4 o ho'), fun hf => by simp at hf⟩⟩
    | succ i =>
      have hr : Wid G ν (n + [0].length) (ctsW s.cts) := Wid.right (a := [0]) hw
      have := cts_obj (n := n + 1) hn' ho.2 hr i o (by simpa using h)
      rw [show n + (i + 1) = n + 1 + i by omega]; exact this
  | false =>
    rw [hbx] at h ho hw
    exact cts_obj (hn.sub (Nat.le_refl _) (by simp [Slot.no, hbx])) ho hw i o h

theorem ss_obj : ∀ {ss : List Slot} {x : Sl ss} {n : Nat}, Num G loc ν n (nos ss) → SsOb G.fr w loc ss x n → Wid G ν n (ssW ss) → ∀ i o, (mkH ν ss x n)[i]? = some o → OkO G w (ν (n + i)) o
  | [], _, _, _, _, _, i, o, h => by simp [mkH] at h
  | s :: ss, x, n, hn, ho, hw, i, o, h => by
    by_cases hi : i < s.no
    · rw [mkH, List.getElem?_append_left (by rw [slO_len]; exact hi)] at h
      exact sl_obj (hn.sub (Nat.le_refl _) (by simp only [nos]; omega)) ho.1 hw.left i o h
    · rw [mkH, List.getElem?_append_right (by rw [slO_len]; omega), slO_len] at h
      have hr := hw.right
      rw [slW_len] at hr
      have := ss_obj (ss := ss) (hn.sub (by omega) (by simp only [nos]; omega)) ho.2 hr (i - s.no) o h
      rw [show n + i = n + s.no + (i - s.no) by omega]; exact this

/-- The ghost of a state of slots alone. -/
def ghOf (fr : Nat → Nat → Prop) (loc : Nat → Value) (ss : List Slot) : Gh :=
  { n := nos ss, loc := loc, wd := fun i => (ssW ss).getD i 0, bo := fun B => (List.range (nos ss)).find? fun i => decide (blkOf (loc i) = some B), fr := fr }

theorem ghOf_bo {fr : Nat → Nat → Prop} {ss : List Slot} {B i : Nat} (h : (ghOf fr loc ss).bo B = some i) : i < nos ss ∧ blkOf (loc i) = some B := by
  have h1 := List.find?_some h
  have h2 := List.mem_of_find?_eq_some h
  simp only [decide_eq_true_eq] at h1
  exact ⟨by simpa using h2, h1⟩

theorem ghOf_none {fr : Nat → Nat → Prop} {ss : List Slot} {B : Nat} (h : (ghOf fr loc ss).bo B = none) : ∀ i, i < nos ss → blkOf (loc i) ≠ some B := by
  intro i hi hB
  have := List.find?_eq_none.1 h i (by simpa using hi)
  simp [hB] at this

/-- The slots as an abstract state. -/
def mkSt (ss : List Slot) (x : Sl ss) (base : List AV) : St := { tmps := mkT id ss x 0 base, heap := mkH id ss x 0 }

theorem own_num {fr : Nat → Nat → Prop} {ss : List Slot} {x : Sl ss} {tv : List Value} (h : Own fr w loc ss x tv) : Num (ghOf fr loc ss) loc id 0 (nos ss) := by
  intro i _ hi
  refine ⟨by simpa [ghOf] using hi, rfl, fun B hB => ?_⟩
  cases hf : (ghOf fr loc ss).bo B with
  | none => exact absurd hB (ghOf_none hf i (by omega))
  | some j =>
    obtain ⟨h1, h2⟩ := ghOf_bo hf
    rw [h.inj i j B (by omega) h1 hB h2]; rfl

theorem own_sim {fr : Nat → Nat → Prop} {ss : List Slot} {x : Sl ss} {a : Act} (h : Own fr w loc ss x a.tmps.toList) (hd : a.defers = []) {base : List AV} (hb : RepL (ghOf fr loc ss) w base a.tmps.toList) : Sim (ghOf fr loc ss) (mkSt ss x base) a w := by
  have hnum := own_num h
  refine ⟨⟨(mkH_len id ss x 0).symm, fun b o hbo => ?_, fun B b hb => ?_⟩, mkT_rep hnum h.ob h.v hb, hd⟩
  · have := ss_obj (G := ghOf fr loc ss) hnum h.ob (fun i k hk => .inr (by simp [ghOf, List.getD_eq_getElem?_getD, hk])) b o hbo
    simpa using this
  · obtain ⟨h1, h2⟩ := ghOf_bo hb
    exact ⟨h1, h.lt b B h1 h2⟩

end
end Go.RX

/-
  How the abstract machine's values and objects lie in memory.
-/
import Derived.Test.YtleejiihlldflaaGreatRc
import Derived.WalkKit
namespace Go.RX

/-- Where objects lie ('loc'), which blocks are theirs ('bo'), and which cells nobody will write any more ('fr'). -/
structure Gh where
  n : Nat
  loc : Nat → Value
  wd : Nat → Nat
  bo : Nat → Option Nat
  fr : Nat → Nat → Prop

/-- The elements of a slice of data. -/
def SL {α : Type} (fr : Nat → Nat → Prop) (w : World) (P : α → List Value → Prop) (wd : Nat) (xs : List α) (a : Option Addr) : Prop :=
  xs = [] ∨ ∃ B o, a = some ⟨B, o, none⟩ ∧ ∀ i x, xs[i]? = some x → ∃ us, P x us ∧ us.length = wd ∧
    ∀ j u, us[j]? = some u → fr B (o + i * wd + j) ∧ w.cell? ⟨B, o + i * wd + j, none⟩ = some u

/-- Data in cells. -/
def DV (fr : Nat → Nat → Prop) (w : World) : (t : Ty) → t.den → List Value → Prop
  | .unit, _, vs => vs = []
  | .int k, x, vs => vs = [.int k x]
  | .bool, x, vs => vs = [.bool x]
  | .str, x, vs => vs = [.string x]
  | .list t, xs, vs => ∃ a cap, vs = [.slice a xs.length cap] ∧ xs.length ≤ cap ∧ SL fr w (fun x us => DV fr w t x us) t.width xs a
  | .one t, x, vs => DV fr w t x vs
  | .pair a b, x, vs => ∃ v1 v2, vs = v1 ++ v2 ∧ DV fr w a x.1 v1 ∧ DV fr w b x.2 v2

theorem DV.len {fr : Nat → Nat → Prop} {w : World} : ∀ {t : Ty} {x : t.den} {vs : List Value}, DV fr w t x vs → vs.length = t.width
  | .unit, _, _, h => by simp [DV] at h; simp [h, Ty.width]
  | .int _, _, _, h => by simp [DV] at h; simp [h, Ty.width]
  | .bool, _, _, h => by simp [DV] at h; simp [h, Ty.width]
  | .str, _, _, h => by simp [DV] at h; simp [h, Ty.width]
  | .list _, _, _, h => by obtain ⟨a, cap, rfl, _⟩ := h; rfl
  | .one t, _, _, h => DV.len (t := t) h
  | .pair a b, _, _, h => by
    obtain ⟨v1, v2, rfl, h1, h2⟩ := h
    have := DV.len (t := a) h1
    have := DV.len (t := b) h2
    simp [Ty.width, *]

/-- What nobody will write any more stays so, and stays as it is. -/
def Keeps (fr : Nat → Nat → Prop) (w : World) (fr' : Nat → Nat → Prop) (w' : World) : Prop :=
  ∀ B o u, fr B o → w.cell? ⟨B, o, none⟩ = some u → fr' B o ∧ w'.cell? ⟨B, o, none⟩ = some u

theorem Keeps.refl (fr : Nat → Nat → Prop) (w : World) : Keeps fr w fr w := fun _ _ _ h1 h2 => ⟨h1, h2⟩
theorem Keeps.trans {f1 f2 f3 : Nat → Nat → Prop} {w1 w2 w3 : World} (h : Keeps f1 w1 f2 w2) (k : Keeps f2 w2 f3 w3) : Keeps f1 w1 f3 w3 :=
  fun B o u h1 h2 => let ⟨a, b⟩ := h B o u h1 h2; k B o u a b

theorem SL.mono {α : Type} {fr fr' : Nat → Nat → Prop} {w w' : World} {P P' : α → List Value → Prop} {wd : Nat} {xs : List α} {a : Option Addr}
    (hk : Keeps fr w fr' w') (hP : ∀ x us, P x us → P' x us) (h : SL fr w P wd xs a) : SL fr' w' P' wd xs a := by
  rcases h with h | ⟨B, o, ha, hx⟩
  · exact .inl h
  · refine .inr ⟨B, o, ha, fun i x hi => ?_⟩
    obtain ⟨us, h1, h2, h3⟩ := hx i x hi
    exact ⟨us, hP _ _ h1, h2, fun j u hj => let ⟨a, b⟩ := h3 j u hj; hk _ _ _ a b⟩

theorem DV.mono {fr fr' : Nat → Nat → Prop} {w w' : World} (hk : Keeps fr w fr' w') : ∀ {t : Ty} {x : t.den} {vs : List Value}, DV fr w t x vs → DV fr' w' t x vs
  | .unit, _, _, h => h
  | .int _, _, _, h => h
  | .bool, _, _, h => h
  | .str, _, _, h => h
  | .list t, _, _, h => by
    obtain ⟨a, cap, h1, h3, h2⟩ := h
    exact ⟨a, cap, h1, h3, h2.mono hk fun x us hx => DV.mono hk (t := t) hx⟩
  | .one t, _, _, h => DV.mono (t := t) hk h
  | .pair a b, _, _, h => by
    obtain ⟨v1, v2, h0, h1, h2⟩ := h
    exact ⟨v1, v2, h0, DV.mono (t := a) hk h1, DV.mono (t := b) hk h2⟩

theorem DV.one {fr : Nat → Nat → Prop} {w : World} : ∀ {t : Ty} {x : t.den} {vs : List Value}, DV fr w t x vs → ∀ v ∈ vs, v.oneCell' = true
  | .unit, _, _, h => by simp [DV] at h; simp [h]
  | .int _, _, _, h => by simp [DV] at h; simp [h, Value.oneCell']
  | .bool, _, _, h => by simp [DV] at h; simp [h, Value.oneCell']
  | .str, _, _, h => by simp [DV] at h; simp [h, Value.oneCell']
  | .list t, _, _, h => by
    obtain ⟨a, cap, rfl, _⟩ := h
    simp [Value.oneCell']
  | .one t, _, _, h => DV.one (t := t) h
  | .pair a b, _, _, h => by
    obtain ⟨v1, v2, rfl, h1, h2⟩ := h
    intro v hv
    rcases List.mem_append.1 hv with hv | hv
    · exact DV.one (t := a) h1 v hv
    · exact DV.one (t := b) h2 v hv

/-- An abstract value, and a value of the machine. -/
inductive Rep (G : Gh) (w : World) : AV → Value → Prop where
  | top (v : Value) : Rep G w .top v
  | int (k : IntKind) (n : Int) : Rep G w (.int k n) (.int k n)
  | bool (b : Bool) : Rep G w (.bool b) (.bool b)
  | str (s : ByteArray) : Rep G w (.str s) (.string s)
  | lst (t : Ty) (xs : List t.den) (a : Option Addr) (cap : Nat) (hcap : xs.length ≤ cap) (h : SL G.fr w (fun x us => DV G.fr w t x us) t.width xs a) : Rep G w (.lst t xs) (.slice a xs.length cap)
  | nils : Rep G w .nils (.slice none 0 0)
  | vec (k : Nat) (h : k < G.n) (h1 : (G.loc k).oneCell' = true) : Rep G w (.vec k) (G.loc k)
  | eptr (t : Ty) (x : t.den) (off B o : Nat) (us : List Value) (h : DV G.fr w t x us)
      (hc : ∀ j u, us[j]? = some u → G.fr B (o + j) ∧ w.cell? ⟨B, o + j, none⟩ = some u) : Rep G w (.eptr t x off) (.pointer (some ⟨B, o + off, none⟩))
  | vptr (k i off B n cap : Nat) (hk : k < G.n) (hl : G.loc k = .slice (some ⟨B, 0, none⟩) n cap) (hi : i < n) :
      Rep G w (.vptr k i off) (.pointer (some ⟨B, i * G.wd k + off, none⟩))
  | ptr (b off B : Nat) (hb : b < G.n) (hl : G.loc b = .pointer (some ⟨B, 0, none⟩)) : Rep G w (.ptr b off) (.pointer (some ⟨B, off, none⟩))
  | nilp : Rep G w .nilp (.pointer none)
  | nilf : Rep G w .nilf .nilFunc
  | fn (f : FuncId) (a b : List AV) (va vb : Array Value) (ha : a.length = va.size) (hb : b.length = vb.size)
      (ra : ∀ (i : Nat) (c : AV) (v : Value), a[i]? = some c → va[i]? = some v → Rep G w c v) (rb : ∀ (i : Nat) (c : AV) (v : Value), b[i]? = some c → vb[i]? = some v → Rep G w c v) :
      Rep G w (.fn f a b) (.func (.func f) va vb)
  | agg (cs : List AV) (vs : Array Value) (hl : cs.length = vs.size) (r : ∀ (i : Nat) (c : AV) (v : Value), cs[i]? = some c → vs[i]? = some v → Rep G w c v) : Rep G w (.agg cs) (.agg vs)
  | tup (cs : List AV) (vs : Array Value) (hl : cs.length = vs.size) (r : ∀ (i : Nat) (c : AV) (v : Value), cs[i]? = some c → vs[i]? = some v → Rep G w c v) : Rep G w (.tup cs) (.tuple vs)
  | opq (v : Value) : Rep G w (.opq v) v

/-- Lists of them. -/
def RepL (G : Gh) (w : World) (cs : List AV) (vs : List Value) : Prop := cs.length = vs.length ∧ ∀ (i : Nat) (c : AV) (v : Value), cs[i]? = some c → vs[i]? = some v → Rep G w c v

/-- What may become of the world and of the objects, seen from outside. -/
structure Ext (G : Gh) (w : World) (G' : Gh) (w' : World) : Prop where
  n : G.n ≤ G'.n
  loc : ∀ b, b < G.n → G.loc b ≠ undef → G'.loc b = G.loc b ∧ G'.wd b = G.wd b
  os : w'.os = w.os
  tape : w'.tape = w.tape
  output : w'.output = w.output
  size : w.heap.size ≤ w'.heap.size
  blocks : ∀ B, B < w.heap.size → G.bo B = none → w'.heap[B]? = w.heap[B]? ∧ G'.bo B = none ∧ ∀ o, G'.fr B o ↔ G.fr B o
  keeps : Keeps G.fr w G'.fr w'
  fz : ∀ a : Addr, w'.frozen? a = w.frozen? a

theorem Ext.refl (G : Gh) (w : World) : Ext G w G w :=
  ⟨Nat.le_refl _, fun _ _ _ => ⟨rfl, rfl⟩, rfl, rfl, rfl, Nat.le_refl _, fun _ _ h => ⟨rfl, h, fun _ => Iff.rfl⟩, Keeps.refl _ _, fun _ => rfl⟩

theorem Ext.trans {G1 G2 G3 : Gh} {w1 w2 w3 : World} (h : Ext G1 w1 G2 w2) (k : Ext G2 w2 G3 w3) : Ext G1 w1 G3 w3 where
  n := Nat.le_trans h.n k.n
  loc b hb hu := let ⟨a1, a2⟩ := h.loc b hb hu; let ⟨b1, b2⟩ := k.loc b (Nat.lt_of_lt_of_le hb h.n) (by rw [a1]; exact hu); ⟨b1.trans a1, b2.trans a2⟩
  os := k.os.trans h.os
  tape := k.tape.trans h.tape
  output := k.output.trans h.output
  size := Nat.le_trans h.size k.size
  blocks B hB hb := by
    obtain ⟨a1, a2, a3⟩ := h.blocks B hB hb
    obtain ⟨b1, b2, b3⟩ := k.blocks B (Nat.lt_of_lt_of_le hB h.size) a2
    exact ⟨b1.trans a1, b2, fun o => (b3 o).trans (a3 o)⟩
  keeps := h.keeps.trans k.keeps
  fz a := (k.fz a).trans (h.fz a)

theorem one_ne {v : Value} (h : v.oneCell' = true) : v ≠ undef := by
  intro e
  rw [e] at h
  simp [undef, Value.oneCell'] at h

theorem Rep.mono {G G' : Gh} {w w' : World} (e : Ext G w G' w') {c : AV} {v : Value} (h : Rep G w c v) : Rep G' w' c v := by
  induction h with
  | top v => exact .top v
  | int k n => exact .int k n
  | bool b => exact .bool b
  | str s => exact .str s
  | lst t xs a cap hc h => exact .lst t xs a cap hc (h.mono e.keeps fun x us hx => hx.mono e.keeps)
  | nils => exact .nils
  | vec k h h1 =>
    have hu : G.loc k ≠ undef := one_ne h1
    rw [← (e.loc k h hu).1]; exact .vec k (Nat.lt_of_lt_of_le h e.n) (by rw [(e.loc k h hu).1]; exact h1)
  | eptr t x off B o us h hc => exact .eptr t x off B o us (h.mono e.keeps) fun j u hj => let ⟨a, b⟩ := hc j u hj; e.keeps _ _ _ a b
  | vptr k i off B n cap hk hl hi =>
    have hu : G.loc k ≠ undef := by rw [hl]; exact one_ne rfl
    rw [← (e.loc k hk hu).2]
    exact .vptr k i off B n cap (Nat.lt_of_lt_of_le hk e.n) ((e.loc k hk hu).1.trans hl) hi
  | ptr b off B hb hl => exact .ptr b off B (Nat.lt_of_lt_of_le hb e.n) ((e.loc b hb (by rw [hl]; exact one_ne rfl)).1.trans hl)
  | nilp => exact .nilp
  | nilf => exact .nilf
  | fn f a b va vb ha hb _ _ ia ib => exact .fn f a b va vb ha hb ia ib
  | agg cs vs hl _ ih => exact .agg cs vs hl ih
  | tup cs vs hl _ ih => exact .tup cs vs hl ih
  | opq v => exact .opq v

theorem RepL.mono {G G' : Gh} {w w' : World} (e : Ext G w G' w') {cs : List AV} {vs : List Value} (h : RepL G w cs vs) : RepL G' w' cs vs :=
  ⟨h.1, fun i c v hc hv => (h.2 i c v hc hv).mono e⟩

theorem RepL.nil (G : Gh) (w : World) : RepL G w [] [] := ⟨rfl, fun i c v hc => by simp at hc⟩
theorem RepL.cons {G : Gh} {w : World} {c : AV} {v : Value} {cs : List AV} {vs : List Value} (h : Rep G w c v) (hs : RepL G w cs vs) : RepL G w (c :: cs) (v :: vs) :=
  ⟨by simp [hs.1], fun i d u hd hu => by
    cases i with
    | zero => simp at hd hu; subst hd; subst hu; exact h
    | succ i => exact hs.2 i d u (by simpa using hd) (by simpa using hu)⟩
theorem RepL.head {G : Gh} {w : World} {c : AV} {v : Value} {cs : List AV} {vs : List Value} (h : RepL G w (c :: cs) (v :: vs)) : Rep G w c v := h.2 0 c v rfl rfl
theorem RepL.tail {G : Gh} {w : World} {c : AV} {v : Value} {cs : List AV} {vs : List Value} (h : RepL G w (c :: cs) (v :: vs)) : RepL G w cs vs :=
  ⟨by simpa using h.1, fun i d u hd hu => h.2 (i + 1) d u (by simpa using hd) (by simpa using hu)⟩
theorem RepL.nil_inv {G : Gh} {w : World} {vs : List Value} (h : RepL G w [] vs) : vs = [] := List.eq_nil_of_length_eq_zero h.1.symm
theorem RepL.cons_inv {G : Gh} {w : World} {c : AV} {cs : List AV} {vs : List Value} (h : RepL G w (c :: cs) vs) : ∃ v us, vs = v :: us ∧ Rep G w c v ∧ RepL G w cs us := by
  cases vs with
  | nil => simp [RepL] at h
  | cons v us => exact ⟨v, us, rfl, h.head, h.tail⟩
theorem RepL.append {G : Gh} {w : World} {c1 c2 : List AV} {v1 v2 : List Value} (h1 : RepL G w c1 v1) (h2 : RepL G w c2 v2) : RepL G w (c1 ++ c2) (v1 ++ v2) := by
  induction c1 generalizing v1 with
  | nil => obtain rfl := h1.nil_inv; simpa using h2
  | cons c cs ih => obtain ⟨v, us, rfl, a, b⟩ := h1.cons_inv; exact RepL.cons a (ih b)
theorem RepL.take {G : Gh} {w : World} {cs : List AV} {vs : List Value} (h : RepL G w cs vs) (n : Nat) : RepL G w (cs.take n) (vs.take n) :=
  ⟨by simp [h.1], fun i c v hc hv => by
    rw [List.getElem?_take] at hc hv
    split at hc
    · rename_i hi; rw [if_pos hi] at hv; exact h.2 i c v hc hv
    · simp at hc⟩
theorem RepL.drop {G : Gh} {w : World} {cs : List AV} {vs : List Value} (h : RepL G w cs vs) (n : Nat) : RepL G w (cs.drop n) (vs.drop n) :=
  ⟨by simp [h.1], fun i c v hc hv => by
    rw [List.getElem?_drop] at hc hv
    exact h.2 (n + i) c v hc hv⟩
theorem RepL.set {G : Gh} {w : World} {cs : List AV} {vs : List Value} (h : RepL G w cs vs) {c : AV} {v : Value} (hr : Rep G w c v) (n : Nat) : RepL G w (cs.set n c) (vs.set n v) :=
  ⟨by simp [h.1], fun i d u hd hu => by
    rw [List.getElem?_set] at hd hu
    by_cases e : n = i
    · subst e
      simp only [if_true] at hd hu
      split at hd <;> split at hu <;> simp_all
    · rw [if_neg e] at hd hu
      exact h.2 i d u hd hu⟩
theorem RepL.getD {G : Gh} {w : World} {cs : List AV} {vs : List Value} (h : RepL G w cs vs) (i : Nat) : Rep G w (cs.getD i .top) (vs.getD i undef) := by
  rw [List.getD_eq_getElem?_getD, List.getD_eq_getElem?_getD]
  cases hc : cs[i]? with
  | none => exact .top _
  | some c =>
    have hi : i < vs.length := by rw [← h.1]; exact (List.getElem?_eq_some_iff.1 hc).1
    have hv : vs[i]? = some vs[i] := List.getElem?_eq_getElem hi
    rw [hv]
    exact h.2 i c _ hc hv

/-- An object of the private heap in memory. -/
def OkO (G : Gh) (w : World) (b : Nat) : HObj → Prop
  | .dead => True
  | .free => G.loc b = undef
  | .val cs lk => ∃ (B : Nat) (T : TypeId) (vs : Array Value), G.loc b = .pointer (some ⟨B, 0, none⟩) ∧ w.heap[B]? = some (.cells vs T (0, 0)) ∧ G.bo B = some b ∧ RepL G w cs vs.toList ∧
      ∀ o, o < vs.size → (G.fr B o ↔ lk = true)
  | .vec e t xs lk => 1 ≤ t.width ∧ G.wd b = t.width ∧ ∃ us : List Value, w.ownsRow 0 e t.width (G.loc b) xs.length us ∧
      (∀ i x, xs[i]? = some x → DV G.fr w t x ((us.drop (i * t.width)).take t.width)) ∧
      ∀ B, (G.loc b).ownBlock = some B → G.bo B = some b ∧ (lk = false → ∀ o, ¬ G.fr B o) ∧ (∀ o, xs.length * t.width ≤ o → ¬ G.fr B o)

structure SimH (G : Gh) (h : List HObj) (w : World) : Prop where
  n : G.n = h.length
  objs : ∀ b o, h[b]? = some o → OkO G w b o
  own : ∀ B b, G.bo B = some b → b < G.n ∧ B < w.heap.size

structure Sim (G : Gh) (s : St) (a : Act) (w : World) : Prop where
  h : SimH G s.heap w
  tmps : RepL G w s.tmps a.tmps.toList
  dfr : a.defers = []

theorem OkO.mono {G G' : Gh} {w w' : World} (e : Ext G w G' w') {b : Nat} (hl : G'.loc b = G.loc b ∧ G'.wd b = G.wd b) {o : HObj} (h : OkO G w b o)
    (hB : ∀ B, G.bo B = some b → w'.heap[B]? = w.heap[B]? ∧ G'.bo B = some b ∧ ∀ o, G'.fr B o ↔ G.fr B o) : OkO G' w' b o := by
  cases o with
  | dead => trivial
  | free => exact hl.1.trans h
  | val cs lk =>
    obtain ⟨B, T, vs, h1, h2, h3, h4, h5⟩ := h
    obtain ⟨a1, a2, a3⟩ := hB B h3
    exact ⟨B, T, vs, hl.1.trans h1, a1.trans h2, a2, h4.mono e, fun o ho => (a3 o).trans (h5 o ho)⟩
  | vec el t xs lk =>
    obtain ⟨h0, h1, us, h2, h3, h4⟩ := h
    refine ⟨h0, hl.2.trans h1, us, ?_, fun i x hx => (h3 i x hx).mono e.keeps, ?_⟩
    · rw [hl.1]
      obtain ⟨r1, r2⟩ := h2
      refine ⟨r1, ?_⟩
      rcases r2 with r2 | ⟨g, cap, cur, q1, q2, q3, q4⟩
      · exact .inl r2
      · have hbo := (h4 g (by rw [q1]; rfl)).1
        exact .inr ⟨g, cap, cur, q1, q2, (hB g hbo).1.trans q3, q4⟩
    · intro B hb'
      rw [hl.1] at hb'
      obtain ⟨q1, q2, q3⟩ := h4 B hb'
      obtain ⟨_, a2, a3⟩ := hB B q1
      exact ⟨a2, fun hl o => by rw [a3 o]; exact q2 hl o, fun o ho => by rw [a3 o]; exact q3 o ho⟩

end Go.RX

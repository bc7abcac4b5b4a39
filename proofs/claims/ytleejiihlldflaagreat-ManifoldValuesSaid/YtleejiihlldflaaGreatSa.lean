/-
  A loop as the run takes it; contracts of functions that are handed places.
-/
import Derived.Test.YtleejiihlldflaaGreatRz
namespace Go.RX
open Go.RowKit

/-- A loop by slots. -/
structure LoopD where
  ss : List Slot
  os : List (Exit × List Slot)
  nt : Nat
  kp : List Nat
  fx : List (Nat × FT)
  step : Sl ss → Option (Sl ss ⊕ Outs os)
  fuel : Sl ss → Nat
  dom : Sl ss → Bool
  val : Sl ss → Outs os
  hv : ∀ x, loopN step (fuel x) x = bif dom x then some (val x) else none

def keepT (kp : List Nat) (tm : List AV) : List AV := (List.range tm.length).map fun t => bif kp.any (Nat.beq t) then tm.getD t .top else .top

def blockX (id : Nat) : Exit → Exit
  | .exit i => bif Nat.beq i id then .normal else .exit i
  | e => e

def outSt (kp : List Nat) (h : List HObj) (tm : List AV) (src : List Src) (ss1 : List Slot) (y : Sl ss1) : St :=
  { tmps := mkT (nuOf h.length src (ssB ss1)) ss1 y 0 (keepT kp tm), heap := wbH h src ss1 y }

def outS (id : Nat) (kp : List Nat) (h : List HObj) (tm : List AV) (src : List Src) : (os : List (Exit × List Slot)) → Outs os → Option (Exit × St)
  | [], _ => none
  | [o], y => some (blockX id o.1, outSt kp h tm src o.2 y)
  | o :: _ :: _, .inl y => some (blockX id o.1, outSt kp h tm src o.2 y)
  | _ :: p :: r, .inr y => outS id kp h tm src (p :: r) y

@[reducible] def isL {A B : Type} : A ⊕ B → Bool
  | .inl _ => true
  | .inr _ => false
@[reducible] def getL {A B : Type} [Inhabited A] : A ⊕ B → A
  | .inl a => a
  | .inr _ => default
@[reducible] def getR {A B : Type} [Inhabited B] : A ⊕ B → B
  | .inl _ => default
  | .inr b => b

def outsK {R : Type} (id : Nat) (kp : List Nat) (h : List HObj) (tm : List AV) (src : List Src) (K : Exit → St → Option R) : (os : List (Exit × List Slot)) → Outs os → Option R
  | [], _ => none
  | [o], y => K (blockX id o.1) (outSt kp h tm src o.2 y)
  | o :: p :: r, y => bif isL y then K (blockX id o.1) (outSt kp h tm src o.2 (getL y)) else outsK id kp h tm src K (p :: r) (getR y)

theorem outsK_eq {R : Type} {id : Nat} {kp : List Nat} {h : List HObj} {tm : List AV} {src : List Src} {K : Exit → St → Option R} : ∀ {os : List (Exit × List Slot)} {y : Outs os},
    outsK id kp h tm src K os y = (outS id kp h tm src os y).bind fun p => K p.1 p.2
  | [], _ => rfl
  | [o], y => rfl
  | o :: p :: r, .inl y => rfl
  | o :: p :: r, .inr y => by
    show outsK id kp h tm src K (p :: r) y = _
    rw [outsK_eq (os := p :: r)]; rfl

/-- Function values that a loop keeps, as they lie at its head. -/
def sameRefs (src : List Src) : List Nat → List AV → Bool
  | [], [] => true
  | n :: ns, v :: vs => (match v with
    | .ptr b 0 => match src[n]? with
      | some (.obj k) => Nat.beq k b
      | _ => false
    | _ => false) && sameRefs src ns vs
  | _, _ => false

def fxOk (fx : List (Nat × FT)) (tm : List AV) (src : List Src) : Bool :=
  fx.all fun p => Nat.ble (p.1 + 1) tm.length && match tm.getD p.1 .top with
    | .fn f a b => Nat.beq f p.2.f && (sameRefs src p.2.first a && sameRefs src p.2.caps b)
    | _ => false

def refAt : List Nat → List AV → Nat → Option Nat
  | n :: ns, v :: vs, m => bif Nat.beq n m then (match v with
    | .ptr b 0 => some b
    | _ => none) else refAt ns vs m
  | _, _, _ => none

/-- Where a place lies that function values hold. -/
def fxBox : List (Nat × FT) → List AV → Nat → Option Nat
  | [], _, _ => none
  | p :: fx, tm, m => match tm.getD p.1 .top with
    | .fn _ a b => match refAt p.2.first a m with
      | some k => some k
      | none => match refAt p.2.caps b m with
        | some k => some k
        | none => fxBox fx tm m
    | _ => fxBox fx tm m

/-- Whether the state at a loop's head is one of its slots. -/
def headOk (D : LoopD) (s : St) : Bool :=
  bif Nat.beq s.tmps.length D.nt then match rdSs s.heap s.tmps (fxBox D.fx s.tmps) D.ss 0 with
    | some (_, src, lk) => okSrc src lk && fxOk D.fx s.tmps src
    | none => false
    else false

def loopLH (D : LoopD) (id : Nat) : LH where
  sem s := bif Nat.beq s.tmps.length D.nt then match rdSs s.heap s.tmps (fxBox D.fx s.tmps) D.ss 0 with
    | some (x, src, lk) => bif okSrc src lk && fxOk D.fx s.tmps src && D.dom x then outS id D.kp (lockAll lk s.heap) s.tmps src D.os (D.val x) else none
    | none => none
    else none
  cps s K := bif Nat.beq s.tmps.length D.nt then match rdSs s.heap s.tmps (fxBox D.fx s.tmps) D.ss 0 with
    | some (x, src, lk) => bif okSrc src lk && fxOk D.fx s.tmps src then (bif D.dom x then outsK id D.kp (lockAll lk s.heap) s.tmps src K D.os (D.val x) else none) else none
    | none => none
    else none
  ok s K := by
    cases Nat.beq s.tmps.length D.nt with
    | false => rfl
    | true =>
      simp only [cond_true]
      cases rdSs s.heap s.tmps (fxBox D.fx s.tmps) D.ss 0 with
      | none => rfl
      | some p =>
        obtain ⟨x, src, lk⟩ := p
        dsimp only
        cases okSrc src lk <;> cases fxOk D.fx s.tmps src <;> cases D.dom x <;> simp [outsK_eq]

/-- One of two readings of a loop: the first, where the state is one of its slots. -/
def orLH (D : LoopD) (id : Nat) (L : LH) : LH where
  sem s := bif headOk D s then (loopLH D id).sem s else L.sem s
  cps s K := bif headOk D s then (loopLH D id).cps s K else L.cps s K
  ok s K := by
    cases headOk D s with
    | true => exact (loopLH D id).ok s K
    | false => exact L.ok s K

theorem orLH_ok {P : Program} {D : LoopD} {id i : Nat} {L : LH} {b : Code} (h1 : LoopOk P (loopLH D id) i b) (h2 : LoopOk P L i b) : LoopOk P (orLH D id L) i b := by
  intro G s a w e s' Q hs he hK
  simp only [orLH] at he
  cases hh : headOk D s with
  | true => rw [hh] at he; exact h1 G s a w e s' Q hs he hK
  | false => rw [hh] at he; exact h2 G s a w e s' Q hs he hK

theorem refs_same {G : Gh} {w : World} {src : List Src} : ∀ {l : List Nat} {cs : List AV} {vs : List Value}, sameRefs src l cs = true → RepL G w cs vs → vs = l.map (locOf G src)
  | [], [], vs, _, h => h.nil_inv
  | [], _ :: _, _, h, _ => by simp [sameRefs] at h
  | _ :: _, [], _, h, _ => by simp [sameRefs] at h
  | n :: ns, c :: cs, vs, h, hr => by
    obtain ⟨v, us, rfl, h1, h2⟩ := hr.cons_inv
    simp only [sameRefs, Bool.and_eq_true] at h
    obtain ⟨ha, hb⟩ := h
    rw [refs_same hb h2, List.map_cons]
    congr 1
    split at ha
    · split at ha
      · rename_i b k hk
        have := Nat.eq_of_beq_eq_true ha
        subst this
        unfold locOf
        rw [hk]
        cases h1
        rename_i B _ hl
        simp [hl]
      · simp at ha
    · simp at ha

theorem fxOk_ok {G : Gh} {w : World} {fx : List (Nat × FT)} {tm : List AV} {tv : List Value} {src : List Src} (h : fxOk fx tm src = true) (hr : RepL G w tm tv) : Fxs fx (locOf G src) tv := by
  intro t T hT
  have := List.all_eq_true.1 h _ (look_mem hT)
  simp only [Bool.and_eq_true] at this
  obtain ⟨_, this⟩ := this
  have hrep := hr.getD t
  split at this
  · rename_i f a b heq
    rw [heq] at hrep
    simp only [Bool.and_eq_true] at this
    obtain ⟨h1, h2, h3⟩ := this
    have hf := Nat.eq_of_beq_eq_true h1
    generalize tv.getD t undef = vv at hrep
    cases hrep with
    | fn _ _ _ va vb la lb ra rb =>
      have e1 := refs_same h2 (vs := va.toList) ⟨by simpa using la, fun i c v hc hv => ra i c v hc (by simpa using hv)⟩
      have e2 := refs_same h3 (vs := vb.toList) ⟨by simpa using lb, fun i c v hc hv => rb i c v hc (by simpa using hv)⟩
      unfold FT.val
      rw [← e1, ← e2]
      simp [hf]
  · simp at this

theorem rdCts_len {h : List HObj} : ∀ {cs : List Ct} {l : List AV} {x : Cts cs} {src : List Src} {lk : List Nat}, rdCts h cs l = some (x, src, lk) → src.length = nvs cs
  | [], l, x, src, lk, he => by
    cases l with
    | nil =>
      simp only [rdCts, Option.some.injEq, Prod.mk.injEq] at he
      obtain ⟨_, rfl, _⟩ := he; rfl
    | cons c l => simp [rdCts] at he
  | c :: cs, l, x, src, lk, he => by
    simp only [rdCts] at he
    split at he
    · rename_i y r s1 k1 h1
      split at he
      · rename_i z s2 k2 h2
        simp only [Option.some.injEq, Prod.mk.injEq] at he
        obtain ⟨_, rfl, _⟩ := he
        have h1' : s1.length = c.nv := by
          cases c with
          | d t =>
            simp only [rdCt] at h1
            split at h1
            · simp only [Option.some.injEq, Prod.mk.injEq] at h1
              obtain ⟨_, _, rfl, _⟩ := h1; rfl
            · simp at h1
          | v e t =>
            cases l with
            | nil => simp [rdCt] at h1
            | cons c l =>
              cases c <;> simp only [rdCt] at h1 <;> try (exact absurd h1 (by simp))
              case nils =>
                cases hw : Nat.ble 1 t.width with
                | false => rw [hw] at h1; simp at h1
                | true =>
                  rw [hw] at h1
                  simp only [cond_true, Option.some.injEq, Prod.mk.injEq] at h1
                  obtain ⟨_, _, rfl, _⟩ := h1; rfl
              case vec j =>
                split at h1
                · rename_i e' t' xs hj
                  split at h1
                  · cases hb : Nat.beq e' e with
                    | false => rw [hb] at h1; simp at h1
                    | true =>
                      rw [hb] at h1
                      simp only [cond_true, Option.some.injEq, Prod.mk.injEq] at h1
                      obtain ⟨_, _, rfl, _⟩ := h1; rfl
                  · simp at h1
                · simp at h1
        simp [nvs, h1', rdCts_len h2]
      · simp at he
    · simp at he

theorem rdSl_len {h : List HObj} {tm : List AV} {bx : Option Nat} {s : Slot} {x : Cts s.cts} {src : List Src} {lk : List Nat} (he : rdSl h tm bx s = some (x, src, lk)) : src.length = s.no := by
  unfold rdSl at he
  unfold Slot.no
  cases hbx : s.box with
  | true =>
    rw [hbx] at he
    simp only [cond_true] at he ⊢
    split at he
    · rename_i b _
      cases hall : s.tmps.all fun t => isPtr b (tm.getD t .top) with
      | false => rw [hall] at he; simp at he
      | true =>
        rw [hall] at he
        simp only [cond_true] at he
        split at he
        · split at he
          · rename_i y s1 k1 h1
            simp only [Option.some.injEq, Prod.mk.injEq] at he
            obtain ⟨_, rfl, _⟩ := he
            simp [rdCts_len h1]; omega
          · simp at he
        · simp at he
    · simp at he
  | false =>
    rw [hbx] at he
    simp only [cond_false] at he ⊢
    split at he
    · rename_i t ht
      cases hlen : Nat.ble (t + 1) tm.length with
      | false => rw [hlen] at he; simp at he
      | true =>
        rw [hlen] at he
        simp only [cond_true] at he
        cases hagg : s.agg with
        | true =>
          rw [hagg] at he
          simp only [cond_true] at he
          split at he
          · simpa using rdCts_len he
          · simp at he
        | false => rw [hagg] at he; simpa using rdCts_len he
    · simp at he

theorem rdSs_len {h : List HObj} {tm : List AV} {bx : Nat → Option Nat} : ∀ {ss : List Slot} {x : Sl ss} {src : List Src} {lk : List Nat} {n : Nat}, rdSs h tm bx ss n = some (x, src, lk) → src.length = nos ss
  | [], x, src, lk, n, he => by
    simp only [rdSs, Option.some.injEq, Prod.mk.injEq] at he
    obtain ⟨_, rfl, _⟩ := he; rfl
  | s :: ss, x, src, lk, n, he => by
    simp only [rdSs] at he
    split at he
    · rename_i y s1 k1 h1
      split at he
      · rename_i z s2 k2 h2
        simp only [Option.some.injEq, Prod.mk.injEq] at he
        obtain ⟨_, rfl, _⟩ := he
        simp [nos, rdSl_len h1, rdSs_len h2]
      · simp at he
    · simp at he

/-- The sources of what is behind pointers are objects. -/
theorem rdSs_box {h : List HObj} {tm : List AV} {bx : Nat → Option Nat} : ∀ {ss : List Slot} {x : Sl ss} {src : List Src} {lk : List Nat} {n i : Nat}, rdSs h tm bx ss n = some (x, src, lk) → src.length = nos ss → (ssB ss)[i]? = some true → ∃ k, src[i]? = some (Src.obj k)
  | [], _, _, _, _, _, _, _, h => by simp [ssB] at h
  | s :: ss, x, src, lk, n, i, he, hlen, hb => by
    have hl : ∀ {cs : List Ct} {l : List AV} {x : Cts cs} {src : List Src} {lk : List Nat}, rdCts h cs l = some (x, src, lk) → src.length = nvs cs := by
      intro cs
      induction cs with
      | nil =>
        intro l x src lk he
        cases l with
        | nil =>
          simp only [rdCts, Option.some.injEq, Prod.mk.injEq] at he
          obtain ⟨_, rfl, _⟩ := he; rfl
        | cons c l => simp [rdCts] at he
      | cons c cs ih =>
        intro l x src lk he
        simp only [rdCts] at he
        split at he
        · rename_i y r s1 k1 h1
          split at he
          · rename_i z s2 k2 h2
            simp only [Option.some.injEq, Prod.mk.injEq] at he
            obtain ⟨_, rfl, _⟩ := he
            have h1' : s1.length = c.nv := by
              cases c with
              | d t =>
                simp only [rdCt] at h1
                split at h1
                · simp only [Option.some.injEq, Prod.mk.injEq] at h1
                  obtain ⟨_, _, rfl, _⟩ := h1; rfl
                · simp at h1
              | v e t =>
                cases l with
                | nil => simp [rdCt] at h1
                | cons c l =>
                  cases c <;> simp only [rdCt] at h1 <;> try (exact absurd h1 (by simp))
                  case nils =>
                    cases hw : Nat.ble 1 t.width with
                    | false => rw [hw] at h1; simp at h1
                    | true =>
                      rw [hw] at h1
                      simp only [cond_true, Option.some.injEq, Prod.mk.injEq] at h1
                      obtain ⟨_, _, rfl, _⟩ := h1; rfl
                  case vec j =>
                    split at h1
                    · rename_i e' t' xs hj
                      split at h1
                      · cases hb : Nat.beq e' e with
                        | false => rw [hb] at h1; simp at h1
                        | true =>
                          rw [hb] at h1
                          simp only [cond_true, Option.some.injEq, Prod.mk.injEq] at h1
                          obtain ⟨_, _, rfl, _⟩ := h1; rfl
                      · simp at h1
                    · simp at h1
            simp [nvs, h1', ih h2]
          · simp at he
        · simp at he
    have hsl : ∀ {x : Cts s.cts} {src : List Src} {lk : List Nat}, rdSl h tm (bx n) s = some (x, src, lk) → src.length = s.no ∧ (s.box = true → ∃ k, src[0]? = some (Src.obj k)) := by
      intro x src lk he
      unfold rdSl at he
      unfold Slot.no
      cases hbx : s.box with
      | true =>
        rw [hbx] at he
        simp only [cond_true] at he ⊢
        split at he
        · rename_i b _
          cases hall : s.tmps.all fun t => isPtr b (tm.getD t .top) with
          | false => rw [hall] at he; simp at he
          | true =>
            rw [hall] at he
            simp only [cond_true] at he
            split at he
            · split at he
              · rename_i y s1 k1 h1
                simp only [Option.some.injEq, Prod.mk.injEq] at he
                obtain ⟨_, rfl, _⟩ := he
                exact ⟨by simp [hl h1]; omega, fun _ => ⟨b, rfl⟩⟩
              · simp at he
            · simp at he
        · simp at he
      | false =>
        rw [hbx] at he
        simp only [cond_false] at he ⊢
        split at he
        · rename_i t ht
          cases hlen : Nat.ble (t + 1) tm.length with
          | false => rw [hlen] at he; simp at he
          | true =>
            rw [hlen] at he
            simp only [cond_true] at he
            cases hagg : s.agg with
            | true =>
              rw [hagg] at he
              simp only [cond_true] at he
              split at he
              · exact ⟨by simpa using hl he, fun hf => by simp at hf⟩
              · simp at he
            | false => rw [hagg] at he; exact ⟨by simpa using hl he, fun hf => by simp at hf⟩
        · simp at he
    simp only [rdSs] at he
    split at he
    · rename_i y s1 k1 h1
      split at he
      · rename_i z s2 k2 h2
        simp only [Option.some.injEq, Prod.mk.injEq] at he
        obtain ⟨_, rfl, _⟩ := he
        obtain ⟨q1, q2⟩ := hsl h1
        by_cases hi : i < s.no
        · rw [ssB, List.getElem?_append_left (by rw [slB_len]; exact hi)] at hb
          unfold slB at hb
          cases hbx : s.box with
          | true =>
            rw [hbx] at hb
            simp only [cond_true] at hb
            cases i with
            | zero =>
              obtain ⟨k, hk⟩ := q2 hbx
              exact ⟨k, by rw [List.getElem?_append_left (by omega)]; exact hk⟩
            | succ i => simp [List.getElem?_map] at hb
          | false => rw [hbx] at hb; simp [List.getElem?_map] at hb
        · rw [ssB, List.getElem?_append_right (by rw [slB_len]; omega), slB_len] at hb
          obtain ⟨k, hk⟩ := rdSs_box h2 (by simp [nos, q1] at hlen; omega) hb
          exact ⟨k, by rw [List.getElem?_append_right (by omega), q1]; exact hk⟩
      · simp at he
    · simp at he

section
variable {P : Program} {C : Cfg}

theorem loop_ok (hC : CfgOk P C) {D : LoopD} {id : Nat} {n : Nat} {cur : FuncId} {b : Code} (ht : Turns C n cur b D.ss D.os D.nt D.kp D.fx D.step) (hw : fxWf D.ss D.kp D.fx = true) (hl : ∀ id L body, C.loops cur id = some L → body ∈ blocksIn id b → LoopOk P L id body)
    (hos : (D.os.all fun o => leB (ssB o.2) (ssB D.ss)) = true) (hne : ∀ e ss', (e, ss') ∈ D.os → e ≠ .normal) : LoopOk P (loopLH D id) id (.loop b) := by
  intro G s a w e s' Q hs he hK
  have hos' : ∀ e ss', (e, ss') ∈ D.os → leB (ssB ss') (ssB D.ss) = true := fun e ss' hm => List.all_eq_true.1 hos _ hm
  simp only [loopLH] at he
  cases hlen : Nat.beq s.tmps.length D.nt with
  | false => rw [hlen] at he; simp at he
  | true =>
    rw [hlen] at he
    simp only [cond_true] at he
    split at he
    · rename_i x src lk hrd
      cases hok : okSrc src lk && fxOk D.fx s.tmps src && D.dom x with
      | false => rw [hok] at he; simp at he
      | true =>
        rw [hok] at he
        simp only [cond_true] at he
        simp only [Bool.and_eq_true] at hok
        obtain ⟨⟨hok1, hok2⟩, hok3⟩ := hok
        replace hok := And.intro hok1 hok3
        obtain ⟨G1, s1, e1, n1, r1, live, len, own⟩ := rd_own hs hrd hok.1
        have hnt : a.tmps.toList.length = D.nt := by rw [← hs.tmps.1]; exact Nat.eq_of_beq_eq_true hlen
        have hloop : loopN D.step (D.fuel x) x = some (D.val x) := by rw [D.hv, hok.2]; rfl
        refine wp_block (wp_loop_rounds (D.fuel x) (loop_rounds hC ht hw hl hos' (D.fuel x) x G1.fr w (locOf G1 src) a own (fxOk_ok hok2 r1) hs.dfr hnt hloop ?_ hne))
        -- the way out
        have way : ∀ (e0 : Exit) (ss1 : List Slot) (y1 : Sl ss1), (e0, ss1) ∈ D.os → (blockX id e0, outSt D.kp (lockAll lk s.heap) s.tmps src ss1 y1) = (e, s') →
            ∀ fr' w' loc' a', Kept D.kp D.nt a a' → Own fr' w' loc' ss1 y1 a'.tmps.toList → Goes G1.fr w (locOf G1 src) D.ss fr' w' loc' ss1 → Exit.inBlock id Q e0 a' w' := by
          intro e0 ss1 y1 hm heq fr' w' loc' a' hk own' go'
          simp only [Prod.mk.injEq] at heq
          obtain ⟨rfl, rfl⟩ := heq
          obtain ⟨G2, s2, e2, f2, N2⟩ := put_back s1 live (fun i hi => rdSs_box hrd len (leB_at (hos' e0 ss1 hm) hi)) go' own'
          have hbase : RepL G2 w' (keepT D.kp s.tmps) a'.tmps.toList := by
            unfold keepT
            refine ⟨by rw [List.length_map, List.length_range, hk.size]; exact Nat.eq_of_beq_eq_true hlen, fun i c v hc hv => ?_⟩
            rw [List.getElem?_map] at hc
            have hi : i < s.tmps.length := by
              have := (List.getElem?_eq_some_iff.1 hv).1
              rw [hk.size] at this
              rw [Nat.eq_of_beq_eq_true hlen]; exact this
            rw [show (List.range s.tmps.length)[i]? = some i by simp [hi]] at hc
            simp only [Option.map_some, Option.some.injEq] at hc
            subst hc
            cases hkp : D.kp.any (Nat.beq i) with
            | false => exact .top v
            | true =>
              simp only [cond_true]
              obtain ⟨t, ht1, ht2⟩ := List.any_eq_true.1 hkp
              have := Nat.eq_of_beq_eq_true ht2
              subst this
              have hsame := hk.same i ht1
              rw [List.getD_eq_getElem?_getD, hv] at hsame
              have hsame : v = a.tmps.toList.getD i undef := hsame
              rw [hsame]
              exact ((r1.mono e2).getD i)
          have hsim : Sim G2 (outSt D.kp (lockAll lk s.heap) s.tmps src ss1 y1) a' w' := by
            refine ⟨s2, mkT_rep N2 (by rw [f2]; exact own'.ob) (by rw [f2]; exact own'.v) hbase, hk.dfr⟩
          have hq := hK G2 a' w' hsim (e1.trans e2)
          cases e0 with
          | exit i =>
            simp only [blockX] at hq
            unfold Exit.inBlock
            cases hb : Nat.beq i id with
            | true =>
              rw [hb] at hq
              simp only [cond_true] at hq
              rw [Nat.eq_of_beq_eq_true hb]
              simp only [if_true]
              exact hq
            | false =>
              rw [hb] at hq
              simp only [cond_false] at hq
              show if i = id then Q .normal a' w' else Q (.exit i) a' w'
              rw [if_neg (Nat.ne_of_beq_eq_false hb)]
              exact hq
          | _ => exact hq
        have key : ∀ {os : List (Exit × List Slot)} {y : Outs os}, (∀ e ss', (e, ss') ∈ os → (e, ss') ∈ D.os) → outS id D.kp (lockAll lk s.heap) s.tmps src os y = some (e, s') →
            OutAll os y fun e0 ss1 y1 => ∀ fr' w' loc' a', Kept D.kp D.nt a a' → Own fr' w' loc' ss1 y1 a'.tmps.toList → Goes G1.fr w (locOf G1 src) D.ss fr' w' loc' ss1 → Exit.inBlock id Q e0 a' w' := by
          intro os
          induction os with
          | nil => intro y _ h; simp [outS] at h
          | cons o r ih =>
            intro y hm h
            cases r with
            | nil =>
              simp only [outS, Option.some.injEq] at h
              exact way o.1 o.2 y (hm _ _ (by simp)) h
            | cons p r =>
              cases y with
              | inl z =>
                simp only [outS, Option.some.injEq] at h
                exact way o.1 o.2 z (hm _ _ (by simp)) h
              | inr z => exact ih (y := z) (fun e ss' hx => hm e ss' (List.mem_cons_of_mem _ hx)) h
        exact key (fun _ _ h => h) he
    · simp at he

end
end Go.RX

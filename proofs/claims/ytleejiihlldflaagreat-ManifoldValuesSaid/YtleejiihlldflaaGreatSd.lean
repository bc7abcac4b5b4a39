/-
  What reading and putting back slots hang on.
-/
import Derived.Test.YtleejiihlldflaaGreatSa
namespace Go.RX

section
variable {h h2 : List HObj}

theorem rdCt_congr : ∀ {c : Ct} {cs : List AV} {x : c.den} {r : List AV} {src : List Src} {lk : List Nat}, rdCt h c cs = some (x, r, src, lk) → (∀ k, k ∈ objsOf src ∨ k ∈ lk → h2[k]? = h[k]?) → rdCt h2 c cs = some (x, r, src, lk)
  | .d t, cs, x, r, src, lk, he, hk => by
    simp only [rdCt] at he ⊢
    split at he
    · rename_i y hy
      simp only [Option.some.injEq, Prod.mk.injEq] at he
      obtain ⟨rfl, rfl, rfl, rfl⟩ := he
      rw [(unflat_congr (h := h) (fun k hk' => hk k (.inr hk'))).1, hy]
    · simp at he
  | .v e t, cs, x, r, src, lk, he, hk => by
    cases cs with
    | nil => simp [rdCt] at he
    | cons c cs =>
      cases c <;> simp only [rdCt] at he ⊢ <;> try (exact absurd he (by simp))
      case nils => exact he
      case vec k =>
        have hsrc : k ∈ objsOf src := by
          split at he
          · split at he
            · rename_i e' t' xs _ _
              cases hb : Nat.beq e' e with
              | false => rw [hb] at he; simp at he
              | true =>
                rw [hb] at he
                simp only [cond_true, Option.some.injEq, Prod.mk.injEq] at he
                obtain ⟨_, _, rfl, _⟩ := he
                simp [objsOf]
            · simp at he
          · simp at he
        rw [hk k (.inl hsrc)]
        exact he

theorem rdCts_congr : ∀ {cs : List Ct} {l : List AV} {x : Cts cs} {src : List Src} {lk : List Nat}, rdCts h cs l = some (x, src, lk) → (∀ k, k ∈ objsOf src ∨ k ∈ lk → h2[k]? = h[k]?) → rdCts h2 cs l = some (x, src, lk)
  | [], l, x, src, lk, he, hk => by
    cases l with
    | nil => exact he
    | cons c l => simp [rdCts] at he
  | c :: cs, l, x, src, lk, he, hk => by
    simp only [rdCts] at he ⊢
    split at he
    · rename_i y r s1 k1 h1
      split at he
      · rename_i z s2 k2 h3
        simp only [Option.some.injEq, Prod.mk.injEq] at he
        obtain ⟨rfl, rfl, rfl⟩ := he
        rw [objs_app] at hk
        rw [rdCt_congr h1 fun k hk' => hk k (by simp only [List.mem_append]; exact hk'.imp .inl .inl)]
        dsimp only
        rw [rdCts_congr h3 fun k hk' => hk k (by simp only [List.mem_append]; exact hk'.imp .inr .inr)]
      · simp at he
    · simp at he

theorem rdSl_congr {sl : Slot} {tm : List AV} {bx : Option Nat} {x : Cts sl.cts} {src : List Src} {lk : List Nat} (he : rdSl h tm bx sl = some (x, src, lk)) (hk : ∀ k, k ∈ objsOf src ∨ k ∈ lk → h2[k]? = h[k]?) : rdSl h2 tm bx sl = some (x, src, lk) := by
  unfold rdSl at he ⊢
  cases hb : sl.box with
  | true =>
    rw [hb] at he
    simp only [cond_true] at he ⊢
    split at he
    · rename_i b hb1
      try rw [hb1]
      try dsimp only
      cases hall : sl.tmps.all fun t => isPtr b (tm.getD t .top) with
      | false => rw [hall] at he; simp at he
      | true =>
        rw [hall] at he
        simp only [cond_true] at he ⊢
        split at he
        · rename_i cs hcs
          split at he
          · rename_i y s1 k1 h1
            simp only [Option.some.injEq, Prod.mk.injEq] at he
            obtain ⟨rfl, rfl, rfl⟩ := he
            rw [hk b (.inl (by simp [objsOf])), hcs]
            dsimp only
            rw [rdCts_congr h1 fun k hk' => hk k (hk'.imp (fun h => by simp [objsOf, h]) id)]
          · simp at he
        · simp at he
    · simp at he
  | false =>
    rw [hb] at he
    simp only [cond_false] at he ⊢
    split at he
    · rename_i t ht
      cases hlen : Nat.ble (t + 1) tm.length with
      | false => rw [hlen] at he; simp at he
      | true =>
        rw [hlen] at he
        simp only [cond_true] at he ⊢
        cases hagg : sl.agg with
        | true =>
          rw [hagg] at he
          simp only [cond_true] at he ⊢
          split at he
          · rename_i cs hcs
            exact rdCts_congr he hk
          · simp at he
        | false => rw [hagg] at he; exact rdCts_congr he hk
    · simp at he

theorem rdSs_congr {tm : List AV} {bx : Nat → Option Nat} : ∀ {ss : List Slot} {x : Sl ss} {src : List Src} {lk : List Nat} {n : Nat}, rdSs h tm bx ss n = some (x, src, lk) → (∀ k, k ∈ objsOf src ∨ k ∈ lk → h2[k]? = h[k]?) → rdSs h2 tm bx ss n = some (x, src, lk)
  | [], x, src, lk, n, he, hk => he
  | sl :: ss, x, src, lk, n, he, hk => by
    simp only [rdSs] at he ⊢
    split at he
    · rename_i y s1 k1 h1
      split at he
      · rename_i z s2 k2 h3
        simp only [Option.some.injEq, Prod.mk.injEq] at he
        obtain ⟨rfl, rfl, rfl⟩ := he
        rw [objs_app] at hk
        rw [rdSl_congr h1 fun k hk' => hk k (by simp only [List.mem_append]; exact hk'.imp .inl .inl)]
        dsimp only
        rw [rdSs_congr h3 fun k hk' => hk k (by simp only [List.mem_append]; exact hk'.imp .inr .inr)]
      · simp at he
    · simp at he

theorem set_congr {b k : Nat} {o : HObj} (hl : h2.length = h.length) (hb : h2[b]? = h[b]?) : (h2.set k o)[b]? = (h.set k o)[b]? := by
  rw [List.getElem?_set, List.getElem?_set, hl, hb]

theorem kill_congr {b : Nat} : ∀ {ks : List Nat} {h h2 : List HObj}, h2.length = h.length → h2[b]? = h[b]? → (kill ks h2)[b]? = (kill ks h)[b]?
  | [], _, _, _, hb => hb
  | k :: ks, h, h2, hl, hb => kill_congr (ks := ks) (by simp [hl]) (set_congr hl hb)

theorem kill_out {b : Nat} : ∀ {ks : List Nat} {h : List HObj}, b ∉ ks → (kill ks h)[b]? = h[b]?
  | [], _, _ => rfl
  | k :: ks, h, hb => by
    simp only [List.mem_cons, not_or] at hb
    rw [kill, kill_out hb.2, List.getElem?_set, if_neg (fun e => hb.1 e.symm)]

theorem putV_congr {ν : Nat → Nat} {b : Nat} : ∀ {os : List HObj} {n : Nat} {h h2 : List HObj}, h2.length = h.length → h2[b]? = h[b]? → (putV ν os n h2)[b]? = (putV ν os n h)[b]?
  | [], _, _, _, _, hb => hb
  | o :: os, n, h, h2, hl, hb => by
    rw [putV, putV]
    cases isVal o with
    | true => exact putV_congr (os := os) (by simp [hl]) (set_congr hl hb)
    | false => exact putV_congr (os := os) hl hb

theorem putV_out {ν : Nat → Nat} {b : Nat} : ∀ {os : List HObj} {n : Nat} {h : List HObj}, (∀ i o, os[i]? = some o → isVal o = true → ν (n + i) ≠ b) → (putV ν os n h)[b]? = h[b]?
  | [], _, _, _ => rfl
  | o :: os, n, h, hb => by
    rw [putV]
    have rest : ∀ h' : List HObj, (putV ν os (n + 1) h')[b]? = h'[b]? := fun h' => putV_out fun i o hi ho => by
      have := hb (i + 1) o (by simpa using hi) ho
      rwa [show n + 1 + i = n + (i + 1) by omega]
    cases ho : isVal o with
    | true =>
      simp only [cond_true]
      rw [rest, List.getElem?_set, if_neg (by have := hb 0 o rfl ho; simpa using this)]
    | false => exact rest h

theorem lockAtR_congr {k b : Nat} (hl : h2.length = h.length) (hb : h2[b]? = h[b]?) (hk : k = b → h2[k]? = h[k]?) : (lockAt k h2)[b]? = (lockAt k h)[b]? := by
  rw [lockAt_get, lockAt_get]
  by_cases e : b = k
  · rw [if_pos e, if_pos e, hk e.symm]
  · rw [if_neg e, if_neg e, hb]

theorem lockAllR_congr {b : Nat} : ∀ {ks : List Nat} {h h2 : List HObj}, h2.length = h.length → h2[b]? = h[b]? → (lockAll ks h2)[b]? = (lockAll ks h)[b]?
  | [], _, _, _, hb => hb
  | k :: ks, h, h2, hl, hb => lockAllR_congr (ks := ks) (by simp [lockAt_len, hl]) (lockAtR_congr hl hb fun e => by rw [e]; exact hb)

end

/-- What a contract with places looks at and turns. -/
def ftS (ss ss1 : List Slot) (vs : List AV) (h : List HObj) : Option Foot :=
  match rdSs h vs (fun _ => none) ss 0 with
  | some (_, src, lk) => some { rd := [], wr := objsOf src ++ lk ++ List.range' h.length (nos ss1), eff := true }
  | none => none

theorem wbH_len (h : List HObj) (src : List Src) (ss : List Slot) (y : Sl ss) : (wbH h src ss y).length = h.length + nos ss := by
  unfold wbH
  simp only [List.length_append, putV_len, kill_len, putO_len, mkH_len]

theorem ftS_ok {np : Nat} {ss ss1 : List Slot} {Ts : List Ty} {dom : Sl ss → Bool} {F : Sl ss → Ar Ts × Sl ss1} {sem : List AV → List HObj → Option (AV × List HObj)} (hbs : leB (ssB ss1) (ssB ss) = true)
    (hsem : ∀ vs h, sem vs h = bif Nat.beq vs.length np then match rdSs h vs (fun _ => none) ss 0 with
      | some (x, src, lk) => bif okSrc src lk && dom x then some (resV (argsA Ts (F x).1), wbH (lockAll lk h) src ss1 (F x).2) else none
      | none => none
      else none) : ∀ vs h f r h', ftS ss ss1 vs h = some f → sem vs h = some (r, h') → f.eff = true ∧ (∀ b, b ∉ f.wr → h'[b]? = h[b]?) ∧
    ∀ h2 : List HObj, h2.length = h.length → (∀ b ∈ f.rd ++ f.wr, h2[b]? = h[b]?) →
      ∃ h2', sem vs h2 = some (r, h2') ∧ ftS ss ss1 vs h2 = some f ∧ (∀ b ∈ f.wr, h2'[b]? = h'[b]?) ∧ ∀ b, b ∉ f.wr → h2'[b]? = h2[b]? := by
  intro vs h f r h' hf hs
  rw [hsem] at hs
  unfold ftS at hf
  cases hlen : Nat.beq vs.length np with
  | false => rw [hlen] at hs; simp at hs
  | true =>
    rw [hlen] at hs
    simp only [cond_true] at hs
    split at hf
    · rename_i x src lk hrd
      simp only [Option.some.injEq] at hf
      subst hf
      rw [hrd] at hs
      dsimp only at hs
      cases hok : okSrc src lk && dom x with
      | false => rw [hok] at hs; simp at hs
      | true =>
        rw [hok] at hs
        simp only [cond_true, Option.some.injEq, Prod.mk.injEq] at hs
        obtain ⟨rfl, rfl⟩ := hs
        have hlenSrc := rdSs_len hrd
        -- objects behind pointers have their place among the sources
        have hν : ∀ (hh : List HObj) (ν : Nat → Nat) i o, (mkH ν ss1 (F x).2 0)[i]? = some o → isVal o = true → nuOf hh.length src (ssB ss1) i ∈ objsOf src := by
          intro hh ν i o hi ho
          have hb := isVal_mkH hi
          rw [ho] at hb
          obtain ⟨k, hk⟩ := rdSs_box hrd hlenSrc (leB_at hbs hb)
          rw [nuOf_box hb hk]
          exact mem_objs.1 (List.mem_of_getElem? hk)
        have out : ∀ (hh : List HObj), hh.length = h.length → ∀ b, b ∉ objsOf src ++ lk ++ List.range' h.length (nos ss1) → (wbH (lockAll lk hh) src ss1 (F x).2)[b]? = hh[b]? := by
          intro hh hl b hb
          simp only [List.mem_append, not_or, List.mem_range'_1, not_and] at hb
          obtain ⟨⟨b1, b2⟩, b3⟩ := hb
          by_cases hlt : b < h.length
          · unfold wbH
            rw [List.getElem?_append_left (by rw [putV_len, kill_len, lockAll_len, hl]; exact hlt), putV_out, kill_out b1, lockAll_out b2]
            intro i o hi ho e
            rw [Nat.zero_add] at e
            exact b1 (by rw [← e]; exact hν _ _ i o hi ho)
          · rw [List.getElem?_eq_none (by rw [wbH_len, lockAll_len, hl]; have := b3 (by omega); omega), List.getElem?_eq_none (by omega)]
        refine ⟨rfl, fun b hb => out h rfl b hb, fun h2 hl2 hr => ?_⟩
        have hag : ∀ k, k ∈ objsOf src ∨ k ∈ lk → h2[k]? = h[k]? := fun k hk => hr k (by
          simp only [List.nil_append, List.mem_append]
          exact .inl hk)
        have hrd2 := rdSs_congr (h2 := h2) hrd hag
        refine ⟨wbH (lockAll lk h2) src ss1 (F x).2, ?_, ?_, fun b hb => ?_, fun b hb => ?_⟩
        · rw [hsem, hlen, hrd2]
          dsimp only [cond_true]
          rw [hok]; rfl
        · unfold ftS
          rw [hrd2, hl2]
        · have hll : (lockAll lk h2).length = (lockAll lk h).length := by rw [lockAll_len, lockAll_len, hl2]
          unfold wbH
          rw [hll]
          by_cases hlt : b < h.length
          · rw [List.getElem?_append_left (by rw [putV_len, kill_len, hll, lockAll_len]; exact hlt), List.getElem?_append_left (by rw [putV_len, kill_len, lockAll_len]; exact hlt)]
            exact putV_congr (by rw [kill_len, kill_len, hll]) (kill_congr hll (lockAllR_congr hl2 (hr b hb)))
          · rw [List.getElem?_append_right (by rw [putV_len, kill_len, hll, lockAll_len]; omega), List.getElem?_append_right (by rw [putV_len, kill_len, lockAll_len]; omega), putV_len, putV_len, kill_len, kill_len, hll]
        · exact out h2 hl2 b hb
    · simp at hf

end Go.RX

/-
  Contracts over data that are handed vectors: what they look at and lock.
-/
import Derived.Test.YtkekddbdbfdjeaaSd
namespace Go.RX

theorem toD_congr {h h2 : List HObj} {t : Ty} {v : AV} (hk : ∀ k ∈ vecIds (cellsOf v), h2[k]? = h[k]?) : toD h2 t v = toD h t v := by
  unfold toD
  cases t.isAgg with
  | true =>
    dsimp only [cond_true]
    cases v <;> try rfl
    rename_i cs
    dsimp only
    rw [(unflat_congr (h := h) (h2 := h2) (t := t) (cs := cs) hk).1]
  | false =>
    dsimp only [cond_false]
    have hc : ∀ k ∈ vecIds [v], h2[k]? = h[k]? := by
      intro k hk'
      cases v <;> first | exact hk k hk' | (simp [vecIds] at hk')
    rw [(unflat_congr (h := h) (h2 := h2) (t := t) (cs := [v]) hc).1]

theorem toArgs_congr {h h2 : List HObj} : ∀ {ts : List Ty} {vs : List AV}, (∀ k ∈ idsOf vs, h2[k]? = h[k]?) → toArgs h2 ts vs = toArgs h ts vs
  | [], [], _ => rfl
  | [], _ :: _, _ => rfl
  | _ :: _, [], _ => rfl
  | t :: ts, v :: vs, hk => by
    simp only [toArgs]
    have h1 : ∀ k ∈ vecIds (cellsOf v), h2[k]? = h[k]? := fun k hh => hk k (by simp [idsOf, hh])
    have h3 : ∀ k ∈ idsOf vs, h2[k]? = h[k]? := fun k hh => hk k (by simp only [idsOf, List.flatMap_cons, List.mem_append]; exact .inr hh)
    rw [toD_congr h1, toArgs_congr (ts := ts) h3]

/-- A contract over data, which is handed vectors. -/
def vecHd (As Ts : List Ty) (dom : Ar As → Bool) (g : Ar As → Ar Ts) : Hd where
  sem := (guardHd As Ts dom g).sem
  cps := (guardHd As Ts dom g).cps
  ok := (guardHd As Ts dom g).ok
  quiet := (guardHd As Ts dom g).quiet
  qok := (guardHd As Ts dom g).qok
  ft vs _ := some { rd := [], wr := idsOf vs, eff := true }
  fok vs h f r h' hf hs := by
    simp only [Option.some.injEq] at hf
    subst hf
    simp only [guardHd, dataHd] at hs ⊢
    cases hx : toArgs h As vs with
    | none => rw [hx] at hs; simp at hs
    | some x =>
      rw [hx] at hs
      dsimp only at hs
      cases hd : dom x with
      | false => rw [hd] at hs; simp at hs
      | true =>
        rw [hd] at hs
        simp only [cond_true, Option.some.injEq, Prod.mk.injEq] at hs
        obtain ⟨rfl, rfl⟩ := hs
        refine ⟨trivial, fun b hb => lockAll_out hb, fun h2 hl hr => ?_⟩
        have hr' : ∀ k ∈ idsOf vs, h2[k]? = h[k]? := fun k hk => hr k (by simp [hk])
        refine ⟨lockAll (idsOf vs) h2, ?_, trivial, fun b hb => lockAllR_congr hl (hr' b hb), fun b hb => lockAll_out hb⟩
        rw [toArgs_congr hr', hx]
        simp [hd]

end Go.RX

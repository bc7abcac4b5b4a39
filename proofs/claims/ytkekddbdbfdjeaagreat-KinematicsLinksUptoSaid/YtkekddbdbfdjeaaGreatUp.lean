/-
  The end of a law over inputs of bounded bulk.
-/
import Derived.Test.YtkekddbdbfdjeaaGreatRv
import Derived.Test.YtkekddbdbfdjeaaGreatRows
import Derived.JoinedCond
namespace Go.RX
open Go.RowKit Go.ChangeShapes Go.WideShapes Go.ChangeAt Go.Proofs.YtkekddbdbfdjeaaGreat

theorem bulk_one {H : Type} (d : DataW H) : 1 ≤ Rows.uptoBulk d := by
  cases d with
  | lit l => cases l <;> simp [Rows.uptoBulk]
  | nil => simp [Rows.uptoBulk]
  | ptr d => simp [Rows.uptoBulk]
  | slice elems spare => simp [Rows.uptoBulk]
  | agg parts => simp [Rows.uptoBulk]
  | iface t d => simp [Rows.uptoBulk]
  | map entries => simp [Rows.uptoBulk]
  | held h => simp [Rows.uptoBulk]

theorem bulk_len {H : Type} (l : List (DataW H)) : l.length ≤ Rows.uptoBulkAll l := by
  induction l with
  | nil => simp [Rows.uptoBulkAll]
  | cons x r ih => have := bulk_one x; simp only [Rows.uptoBulkAll, List.length_cons]; omega

/-- the lists among the arguments are no longer than N -/
def lenD (N : Nat) : (T : Ty) → T.den → Prop
  | .list _, xs => xs.length ≤ N
  | _, _ => True
def lenAr (N : Nat) : (As : List Ty) → Ar As → Prop
  | [], _ => True
  | T :: Ts, x => lenD N T x.1 ∧ lenAr N Ts x.2

section
variable {H : Type} {enc : TypeId × Value → H} {P : Program} {w : World} {spare : Nat → Bool} {held : Bool}

theorem trod_bulk {n N : Nat} {t : TypeId} {T : Ty} {v : Value} {x : T.den} {d : DataW H} {ps : List MemPlace} (ht : tyOk P n t T = true) (hx : DVal (frAll w) w T x v)
    (h : DataW.Trod enc P w 0 spare held t v d ps) (hN : Rows.uptoBulk d ≤ N) : lenD N T x := by
  cases T with
  | list E =>
    show x.length ≤ N
    cases n with
    | zero => simp [tyOk] at ht
    | succ n =>
      unfold tyOk at ht
      rw [Bool.and_eq_true] at ht
      replace ht := ht.2
      obtain ⟨fuel, h⟩ := h
      cases fuel with
      | zero => simp [DataW.trod] at h
      | succ fuel =>
        have hv : ∃ a cap, v = .slice a x.length cap := by
          obtain ⟨a, cap, h1, _⟩ : DV (frAll w) w (.list E) x [v] := hx
          exact ⟨a, cap, by simpa using h1⟩
        obtain ⟨a, cap, rfl⟩ := hv
        unfold DataW.trod at h
        cases hu : P.underlying t with
        | none => rw [hu] at ht; simp at ht
        | some ty =>
          rw [hu] at ht h
          cases ty with
          | struct fs => exact absurd (isAgg_of ht) (by simp [Ty.isAgg])
          | array m e => exact absurd (isAgg_of ht) (by simp [Ty.isAgg])
          | slice e =>
            simp only [Value.cells] at h
            cases a with
            | none =>
              by_cases h0 : x.length = 0 ∧ cap = 0
              · omega
              · generalize x.length = len at *
                rcases len with _ | len <;> rcases cap with _ | cap <;> simp at h h0
            | some a =>
              simp only at h
              split at h
              · cases hm : (List.range x.length).mapM fun i => (w.cells? 0 (a.add (i * P.cellsOf e)) (P.cellsOf e)).bind (DataW.trod enc P w 0 spare held fuel e) with
                | none => rw [hm] at h; simp at h
                | some ys =>
                  rw [hm] at h
                  have hl := (mapM_get hm).1
                  simp only [Option.bind_some, Option.map_eq_some_iff, Prod.mk.injEq] at h
                  obtain ⟨rest, _, h2, _⟩ := h
                  subst h2
                  have := bulk_len (ys.map (·.1))
                  simp only [Rows.uptoBulk, List.length_map, List.length_range] at hN this hl
                  omega
              · simp at h
          | _ => simp at ht
  | _ => trivial

theorem trod_args_bulk {n N : Nat} {rc : Reach} {base : Nat} : ∀ {ts : List TypeId} {As : List Ty} {vs : List Value} {ds : List (DataW H)} {ps : List MemPlace}, tysOk P n ts As = true →
    (∀ (j : Nat) t v, ts[j]? = some t → vs[j]? = some v → Value.okWide P w rc base t v) → DataW.TrodAll enc P w 0 spare held ts vs ds ps → Rows.uptoBulkAll ds ≤ N →
    ∃ x : Ar As, ArgsDV (frAll w) w As x vs ∧ okAr As x ∧ lenAr N As x
  | [], [], vs, ds, ps, _, _, h, _ => by
    obtain ⟨rfl, rfl, rfl⟩ := trodAll_nil h
    exact ⟨(), rfl, trivial, trivial⟩
  | t :: ts, T :: Ts, vs, ds, ps, ht, hv, h, hN => by
    simp only [tysOk, Bool.and_eq_true] at ht
    obtain ⟨v0, vs0, d0, ds0, p0, q0, rfl, rfl, rfl, h0, r0⟩ := trodAll_cons h
    simp only [Rows.uptoBulkAll] at hN
    obtain ⟨x, dx, ox⟩ := trod_val ht.1 (hv 0 t v0 rfl rfl) h0
    obtain ⟨y, dy, oy, ly⟩ := trod_args_bulk (N := N) ht.2 (fun j t v h1 h2 => hv (j + 1) t v h1 h2) r0 (by omega)
    exact ⟨(x, y), ⟨v0, vs0, rfl, dx, dy⟩, ⟨ox, oy⟩, trod_bulk ht.1 dx h0 (by omega), ly⟩
  | [], _ :: _, _, _, _, h, _, _, _ => by simp [tysOk] at h
  | _ :: _, [], _, _, _, h, _, _, _ => by simp [tysOk] at h
end

theorem law_upto {C : Checked} {os : Os} {f : FuncId} {fn : Func} {s : ChangeSpec} {conds : List PathCond} {H : Type} {enc : TypeId × Value → H} {F : Stop.Interp} {ts : List TypeId} {As : List Ty} {b : TypeId} {n : Nat} {Fo : Ar As → Option (Ar [.bool])}
    (own : ownKnob C.prog.godebug = none) (started : os.Started) (noInit : C.prog.inits.idxOf? f = none) (hfn : C.prog.funcs[f]? = some fn)
    (witness : ∃ (w : World) (tape : Tape) (i : Input), w.os = os ∧ (w.forCall tape i).Shaped C.prog ∧ i.vars = [] ∧ Input.okWide C.prog (w.forCall tape i) .any w.heap.size f i ∧
      (Rows.OpenSpec.upto s).pre6 enc C.prog fn conds false (w.forCall tape i).memory i.args ∧ Assume.holds {} C.prog (lone (Frame.enter C.prog f i.args .normal) [] (w.forCall tape i)))
    (laid : laidOutB C.prog = true) (hps : fn.params = ts.toArray) (hrd' : (ts.all fun t => C.prog.readableRec t && decide (t < C.prog.types.size)) = true) (hrs : fn.resultTypes = #[b]) (hb : C.prog.underlying b = some .bool) (hvars : s.vars = [])
    (hspec : ∀ ds : List (DataW H), ds.length = ts.length → s.fn H ds = { results := [.lit (.bool true)], args := ds }) (hty : tysOk C.prog n ts As = true) (hF : FnOk C.prog f As [.bool] Fo) (hlaw : ∀ x, okAr As x → lenAr 1048576 As x → Fo x = some (true, ())) :
    ReturnsInHanded {} C os f .any ((Rows.OpenSpec.upto s).pre6 enc C.prog fn conds false) (((Rows.OpenSpec.upto s).at F).post enc C.prog fn false true false false) := by
  have hrd : ∀ t ∈ ts, C.prog.readableRec t = true ∧ t < C.prog.types.size := fun t ht => by
    have := List.all_eq_true.1 hrd' t ht
    simpa using this
  refine returnsInHanded_of_cond (s := Rows.OpenSpec.upto s) (k := Rows.uptoSmall) rfl own started noInit hfn witness ?_
  intro W base args ds gs before hval hW hcnd hk _
  have hW' : DataW.Whole enc C.prog fn.params.toList s.vars false W args.toList ds gs before := hW
  obtain ⟨p, q, hA, hV, rfl, hfz, hnd⟩ := hW'
  have hW' : DataW.Whole enc C.prog fn.params.toList s.vars false W args.toList ds gs (p ++ q) := hW
  rw [hps] at hval hA
  rw [hvars] at hV
  obtain ⟨rfl, rfl⟩ := trodVars_none hV
  have hkk : Rows.uptoBulkAll ds ≤ 1048576 := by
    have h : Rows.uptoBulkAll (ds ++ []) ≤ 1048576 := of_decide_eq_true hk
    simpa using h
  obtain ⟨x, hx, ox, lx⟩ := trod_args_bulk (vs := args.toList) hty (fun j t v h1 h2 => hval j t v (by simpa using h1) (by simpa using h2)) hA hkk
  refine (hF (frAll W) W x args (true, ()) hx (hlaw x ox lx)).mono fun e W' hp => ?_
  obtain ⟨v, fr', rfl, ⟨us, ⟨u, us', rfl, h1, h2⟩, rfl⟩, h3, h4, _⟩ := hp
  obtain rfl : us' = [] := h2
  obtain h1 : [u] = [Value.bool true] := h1
  simp only [List.cons.injEq, and_true] at h1
  subst h1
  have hlen : (ds ++ []).length = ts.length := by
    have := trod_len hA
    simpa using this
  refine ⟨_, rfl, ds, [], _, [], p, [], hW', ?_, ?_, ?_, h3.frame _, fun h => by cases h⟩
  · rw [show ((Rows.OpenSpec.upto s).at F).fn H (ds ++ []) = s.fn H (ds ++ []) from rfl, hspec _ hlen, hrs]
    exact trodAll_mk1 (shut_bool hb _)
  · rw [show ((Rows.OpenSpec.upto s).at F).fn H (ds ++ []) = s.fn H (ds ++ []) from rfl, hspec _ hlen, hps, List.append_nil]
    exact trodAll_below laid h3 hrd hA
  · rw [show ((Rows.OpenSpec.upto s).at F).fn H (ds ++ []) = s.fn H (ds ++ []) from rfl, show ((Rows.OpenSpec.upto s).at F).vars = s.vars from rfl, hspec _ hlen, hvars]; rfl

end Go.RX

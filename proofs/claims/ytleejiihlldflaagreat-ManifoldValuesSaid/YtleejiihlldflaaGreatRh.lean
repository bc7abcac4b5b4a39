/-
  The operations, second part: addresses, arithmetic, aggregates.
-/
import Derived.Test.YtleejiihlldflaaGreatRg
namespace Go.RX

section
variable {P : Program} {G : Gh} {w : World} {h : List HObj}

theorem und_of {t : TypeId} {r : TRow} (ht : TOk P t r) : ∃ d, P.underlying t = some d ∧ kOk P r.k d = true :=
  let ⟨_, d, _, _, hd, _, _, _, _, h5⟩ := ht.ex
  ⟨d, hd, h5⟩

theorem und_arr {t : TypeId} {r : TRow} (ht : TOk P t r) {n e : Nat} (hk : r.k = .arr n e) : P.underlying t = some (.array n e) := by
  obtain ⟨d, hd, h5⟩ := und_of ht
  rw [hk] at h5
  cases d <;> first | exact absurd (show false = true from h5) (by simp) | skip
  simp only [kOk, Bool.and_eq_true, Nat.beq_eq] at h5
  rw [hd, h5.1.1, h5.1.2]

theorem und_slice {t : TypeId} {r : TRow} (ht : TOk P t r) {e : Nat} (hk : r.k = .slice e) : P.underlying t = some (.slice e) := by
  obtain ⟨d, hd, h5⟩ := und_of ht
  rw [hk] at h5
  cases d <;> first | exact absurd (show false = true from h5) (by simp) | skip
  simp only [kOk, Nat.beq_eq] at h5
  rw [hd, h5]

theorem und_str {t : TypeId} {r : TRow} (ht : TOk P t r) (hk : r.k = .str) : P.underlying t = some .string := by
  obtain ⟨d, hd, h5⟩ := und_of ht
  rw [hk] at h5
  cases d <;> first | exact absurd (show false = true from h5) (by simp) | exact hd

theorem und_int {t : TypeId} {r : TRow} (ht : TOk P t r) {k : IntKind} (hk : r.k = .int k) : P.underlying t = some (.int k) := by
  obtain ⟨d, hd, h5⟩ := und_of ht
  rw [hk] at h5
  cases d <;> first | exact absurd (show false = true from h5) (by simp) | skip
  rw [hd, of_decide_eq_true h5]

theorem und_struct {t : TypeId} {r : TRow} (ht : TOk P t r) {offs : List (Nat × Nat)} (hk : r.k = .struct offs) :
    ∃ fs, P.underlying t = some (.struct fs) ∧ (offs = fs.toList.map fun f => (f.offset, P.cellsOf f.type)) ∧ ∀ f ∈ fs.toList, P.cellsOf f.type ≠ 0 := by
  obtain ⟨d, hd, h5⟩ := und_of ht
  rw [hk] at h5
  cases d <;> first | exact absurd (show false = true from h5) (by simp) | skip
  rename_i fs
  simp only [kOk, Bool.and_eq_true, decide_eq_true_eq, List.all_eq_true] at h5
  refine ⟨fs, hd, h5.1, fun f hf => ?_⟩
  have := h5.2 f hf
  intro e
  rw [e] at this
  simp at this

theorem run_sizeOf_ne {t : TypeId} (w : World) (h : P.cellsOf t ≠ 0) : (sizeOf t).run P w = .ok (P.cellsOf t) w := by
  cases hi : P.info? t with
  | none => simp [Program.cellsOf, hi] at h
  | some i => exact run_sizeOf w hi

theorem field_ok {C : Cfg} (hC : ∀ t r, C.ty t = some r → TOk P t r) (s : SimH G h w) {t : TypeId} {a : AV} {v : Value} (ha : Rep G w a v) {f : Nat} {out : Out} (ho : fieldA C t a f h = some out) :
    OpOk P G w (Instr.fieldAt t v f) out.v out.h ∧ out.h = h ∧ out.g = true := by
  unfold fieldA at ho
  split at ho
  · rename_i offs _ _ _ _ hr
    obtain ⟨fs, hu, hoffs, hne⟩ := und_struct (hC t _ hr) rfl
    split at ho
    · rename_i o hof
      rw [hoffs, List.getElem?_map] at hof
      cases hf : fs.toList[f]? with
      | none => rw [hf] at hof; simp at hof
      | some fl =>
        rw [hf] at hof
        simp only [Option.map_some, Option.some.injEq] at hof
        have hfa : fs[f]? = some fl := by simpa using hf
        have run : ∀ B o', (Instr.fieldAt t (.pointer (some ⟨B, o', none⟩)) f).run P w = .ok (.pointer (some ⟨B, o' + o.1, none⟩)) w := by
          intro B o'
          simp [Instr.fieldAt, run_underlying hu, hfa, Instr.sureAddr, fieldPlace, run_sizeOf_ne w (hne fl (List.mem_of_getElem? hf)), hne fl (List.mem_of_getElem? hf), add_lit, ← hof]
        split at ho
        · rename_i b off
          simp only [Option.some.injEq] at ho; subst ho
          cases ha; rename_i B hbn hl
          exact ⟨opOk_pure (run B off) (.ptr b _ B hbn hl) s, rfl, rfl⟩
        · rename_i T y off
          simp only [Option.some.injEq] at ho; subst ho
          cases ha; rename_i B o' us hc hd
          refine ⟨opOk_pure (run B (o' + off)) ?_ s, rfl, rfl⟩
          rw [Nat.add_assoc]
          exact .eptr T y _ B o' us hd hc
        · rename_i k i off
          simp only [Option.some.injEq] at ho; subst ho
          cases ha; rename_i B n cap hk hl hi
          refine ⟨opOk_pure (run B _) ?_ s, rfl, rfl⟩
          rw [Nat.add_assoc]
          exact .vptr k i _ B n cap hk hl hi
        · simp at ho
    · simp at ho
  · simp at ho

theorem index_ok {C : Cfg} (hC : ∀ t r, C.ty t = some r → TOk P t r) (s : SimH G h w) {t : TypeId} {a i : AV} {v vi : Value} (ha : Rep G w a v) (hi : Rep G w i vi) {out : Out}
    (ho : indexA C t a i h = some out) (hg : out.g = true) : OpOk P G w (Instr.indexAt t v vi) out.v out.h ∧ out.h = h := by
  unfold indexA at ho
  split at ho
  · rename_i ik n
    cases hi
    have runA : ∀ {len e : Nat} {r : TRow} (B o : Nat), P.underlying t = some (.array len e) → TOk P e r → (decide (0 ≤ n) && decide (n < (len : Int))) = true →
        (Instr.indexAt t (.pointer (some ⟨B, o, none⟩)) (.int ik n)).run P w = .ok (.pointer (some ⟨B, o + n.toNat * r.size, none⟩)) w := by
      intro len e r B o hu hr hb
      simp only [Bool.and_eq_true, decide_eq_true_eq] at hb
      simp [Instr.indexAt, asIntOf, run_underlying hu, Instr.sureAddr, hb.1, hb.2, run_sizeOf' hr, add_lit]
    have runS : ∀ {len cap e : Nat} {r : TRow} (B o : Nat), P.underlying t = some (.slice e) → TOk P e r → (decide (0 ≤ n) && decide (n < (len : Int))) = true →
        (Instr.indexAt t (.slice (some ⟨B, o, none⟩) len cap) (.int ik n)).run P w = .ok (.pointer (some ⟨B, o + n.toNat * r.size, none⟩)) w := by
      intro len cap e r B o hu hr hb
      simp only [Bool.and_eq_true, decide_eq_true_eq] at hb
      simp [Instr.indexAt, asIntOf, run_underlying hu, hb.1, hb.2, run_sizeOf' hr, add_lit]
    split at ho
    · rename_i b off
      split at ho
      · rename_i len e _ _ _ _ ht
        split at ho
        · rename_i r hr
          simp only [Option.some.injEq] at ho; subst ho
          cases ha; rename_i B hbn hl
          exact ⟨opOk_pure (runA B off (und_arr (hC t _ ht) rfl) (hC e r hr) hg) (.ptr b _ B hbn hl) s, rfl⟩
        · simp at ho
      · simp at ho
    · rename_i T y off
      split at ho
      · rename_i len e _ _ _ _ ht
        split at ho
        · rename_i r hr
          simp only [Option.some.injEq] at ho; subst ho
          cases ha; rename_i B o us hc hd
          refine ⟨opOk_pure (runA B (o + off) (und_arr (hC t _ ht) rfl) (hC e r hr) hg) ?_ s, rfl⟩
          rw [Nat.add_assoc]
          exact .eptr T y _ B o us hd hc
        · simp at ho
      · simp at ho
    · rename_i k j off
      split at ho
      · rename_i len e _ _ _ _ ht
        split at ho
        · rename_i r hr
          simp only [Option.some.injEq] at ho; subst ho
          cases ha; rename_i B m cap hk hl hi
          refine ⟨opOk_pure (runA B _ (und_arr (hC t _ ht) rfl) (hC e r hr) hg) ?_ s, rfl⟩
          rw [Nat.add_assoc]
          exact .vptr k j _ B m cap hk hl hi
        · simp at ho
      · simp at ho
    · rename_i T xs
      split at ho
      · rename_i e _ _ _ _ ht
        split at ho
        · rename_i r hr
          cases hsz : Nat.beq r.size T.width with
          | false => rw [hsz] at ho; simp at ho
          | true =>
            rw [hsz] at ho
            simp only [cond_true, Option.some.injEq] at ho; subst ho
            have hsz' := Nat.eq_of_beq_eq_true hsz
            have hb := hg
            simp only [Bool.and_eq_true, decide_eq_true_eq] at hb
            cases ha; rename_i ad cap hcp hsl
            have hn : n.toNat < xs.length := by omega
            rcases hsl with hsl | ⟨B, o, rfl, hx⟩
            · subst hsl; simp at hn
            · obtain ⟨us, d, hl, hc⟩ := hx n.toNat _ (List.getElem?_eq_getElem hn)
              refine ⟨opOk_pure (runS B o (und_slice (hC t _ ht) rfl) (hC e r hr) hg) ?_ s, rfl⟩
              have hgd : xs.getD n.toNat T.dflt = xs[n.toNat] := by rw [List.getD_eq_getElem?_getD, List.getElem?_eq_getElem hn]; rfl
              rw [hgd, hsz']
              exact .eptr T _ 0 B (o + n.toNat * T.width) us d hc
        · simp at ho
      · simp at ho
    · rename_i k
      split at ho
      · rename_i e _ _ _ _ ht
        split at ho
        · rename_i r hr
          split at ho
          · rename_i e' T xs lk hk
            cases hsz : Nat.beq r.size T.width with
            | false => rw [hsz] at ho; simp at ho
            | true =>
              rw [hsz] at ho
              simp only [cond_true, Option.some.injEq] at ho; subst ho
              have hsz' := Nat.eq_of_beq_eq_true hsz
              have hb := hg
              simp only [Bool.and_eq_true, decide_eq_true_eq] at hb
              obtain ⟨q0, q1, us, q2, q3, q4⟩ := s.objs k _ hk
              have hn : n.toNat < xs.length := by omega
              cases ha
              rename_i hkn h1
              rcases q2.2 with ⟨r1, r2⟩ | ⟨g, cap, cur, r1, r2, r3, r4⟩
              · omega
              · rw [r1]
                refine ⟨opOk_pure (runS g 0 (und_slice (hC t _ ht) rfl) (hC e r hr) hg) ?_ s, rfl⟩
                have := Rep.vptr (G := G) (w := w) k n.toNat 0 g xs.length cap hkn r1 hn
                rw [q1, Nat.add_zero] at this
                rw [Nat.zero_add, hsz']
                exact this
          · simp at ho
        · simp at ho
      · simp at ho
    · simp at ho
  · simp at ho

end
end Go.RX

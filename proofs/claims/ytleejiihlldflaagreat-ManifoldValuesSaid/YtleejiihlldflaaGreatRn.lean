/-
  Append; all operations together.
-/
import Derived.Test.YtleejiihlldflaaGreatRm
namespace Go.RX

section
variable {P : Program} {G : Gh} {w : World} {h : List HObj}

/-- Append of nothing. -/
theorem run_append_none {t ty e : TypeId} {r : TRow} (ht : P.underlying t = some (.slice e)) (hr : TOk P e r) (base : Option Addr) (n cap c : Nat) (a : Option Addr) (hn : n ≤ cap) :
    (Builtin.append_ #[t, t] ty #[.slice base n cap, .slice a 0 c]).run P w = .ok (.slice base n cap) w := by
  obtain ⟨i, d, z, hi, hd, h1, h2, h3, h4, h5⟩ := hr.ex
  cases a <;> cases base <;> simp [Builtin.append_, run_underlying ht, sizeOf, typeInfo, hi, Builtin.lenOf, Builtin.firstCells, loadCells, loadCellsFrom, hn, storeCells]

theorem room_le {n : Nat} (h : room n = true) : n ≤ 4294967296 := of_decide_eq_true h

theorem append_ok {C : Cfg} (hC : ∀ t r, C.ty t = some r → TOk P t r) (s : SimH G h w) {t ty : TypeId} {x y : AV} {vx vy : Value} (hx : Rep G w x vx) (hy : Rep G w y vy) {out : Out}
    (ho : appendA C t x y h = some out) (hg : out.g = true) : OpOk P G w (Builtin.append_ #[t, t] ty #[vx, vy]) out.v out.h := by
  unfold appendA at ho
  split at ho
  · rename_i e _ _ _ _ ht
    have hu := und_slice (hC t _ ht) rfl
    split at ho
    · rename_i r hr
      have hte := hC e r hr
      cases hb : (Nat.beq r.size r.dt.width && Nat.ble 1 r.size && Nat.ble r.bytes 16384) with
      | false => rw [hb] at ho; simp at ho
      | true =>
        rw [hb] at ho
        simp only [cond_true] at ho
        simp only [Bool.and_eq_true, Nat.beq_eq] at hb
        obtain ⟨⟨hb1, hb2⟩, hb3⟩ := hb
        have hb2 := Nat.le_of_ble_eq_true hb2
        have hb3 := Nat.le_of_ble_eq_true hb3
        obtain ⟨i, d, z, hi, hd, h1, h2, h3, h4, h5⟩ := hte.ex
        have hzs : z.cells.size = r.size := by
          have := congrArg List.length h4
          rw [hte.zl] at this
          simpa using this
        split at ho
        · rename_i ys hys
          obtain ⟨a, c, news, rfl, n1, n2, n3⟩ := elems_ok s (by omega) hy hys
          have hone : ∀ u ∈ news, u.oneCell' = true := by
            intro u hu'
            obtain ⟨j, hj, he⟩ := List.getElem_of_mem hu'
            have hw : 0 < r.dt.width := by omega
            have hq : j / r.dt.width < ys.length := by
              rw [n1] at hj
              exact Nat.div_lt_of_lt_mul (by rw [Nat.mul_comm]; exact hj)
            have hd' := n2 _ _ (List.getElem?_eq_getElem hq)
            refine hd'.one u (List.mem_of_getElem? (i := j % r.dt.width) ?_)
            rw [List.getElem?_take, if_pos (Nat.mod_lt _ hw), List.getElem?_drop, Nat.mul_comm, Nat.div_add_mod, List.getElem?_eq_getElem hj, he]
          have hbytes : ∀ m, m ≤ 4294967296 → m * r.bytes ≤ 140737488355328 := by
            intro m hm
            have : m * r.bytes ≤ 4294967296 * 16384 := Nat.mul_le_mul hm hb3
            omega
          -- a new row, behind a draw
          have grow : ∀ (xs : List r.dt.den) (olds : List Value) (old : Nat) (hh : List HObj) (lk : Bool), SimH G hh w → olds.length = xs.length * r.size →
              (∀ i x, xs[i]? = some x → DV G.fr w r.dt x ((olds.drop (i * r.dt.width)).take r.dt.width)) → xs.length + ys.length ≤ 4294967296 →
              ∃ G', Ext G w G' (w.drew.alloc (.cells (olds.toArray ++ news.toArray ++ Builtin.zeroCells z.cells (grownCap w (xs.length + ys.length) old e - (xs.length + ys.length))) e)) ∧
                SimH G' (hh ++ [.vec e r.dt (xs ++ ys) lk]) (w.drew.alloc (.cells (olds.toArray ++ news.toArray ++ Builtin.zeroCells z.cells (grownCap w (xs.length + ys.length) old e - (xs.length + ys.length))) e)) ∧
                Rep G' (w.drew.alloc (.cells (olds.toArray ++ news.toArray ++ Builtin.zeroCells z.cells (grownCap w (xs.length + ys.length) old e - (xs.length + ys.length))) e)) (.vec hh.length)
                  (.slice (some ⟨w.heap.size, 0, none⟩) (xs.length + ys.length) (grownCap w (xs.length + ys.length) old e)) := by
            intro xs olds old hh lk sh ol od hle
            have hge := grownCap_ge w (xs.length + ys.length) old e
            have hcm : grownCap w (xs.length + ys.length) old e ≤ maxLen := grownCap_le_maxLen w (xs.length + ys.length) old e (by unfold maxLen; omega)
            obtain ⟨sd, ed⟩ := sim_drew sh
            have hnv := new_vec sd e r.dt (xs ++ ys) (olds.toArray ++ news.toArray ++ Builtin.zeroCells z.cells (grownCap w (xs.length + ys.length) old e - (xs.length + ys.length))) (grownCap w (xs.length + ys.length) old e)
              (by omega) (by
                simp only [Array.size_append, List.size_toArray, size_zeroCells, hzs, ol, n1]
                rw [← hb1, ← Nat.add_mul, ← Nat.add_mul]
                congr 1; omega) (by simp; omega) hcm (by
                intro j x hj
                have hlist : (olds.toArray ++ news.toArray ++ Builtin.zeroCells z.cells (grownCap w (xs.length + ys.length) old e - (xs.length + ys.length))).toList = olds ++ (news ++ (Builtin.zeroCells z.cells (grownCap w (xs.length + ys.length) old e - (xs.length + ys.length))).toList) := by simp
                rw [hlist]
                have ol' : olds.length = xs.length * r.dt.width := by rw [ol, hb1]
                by_cases hjx : j < xs.length
                · rw [List.getElem?_append_left hjx] at hj
                  have hb' : (j + 1) * r.dt.width ≤ xs.length * r.dt.width := Nat.mul_le_mul_right _ hjx
                  rw [Nat.add_mul, Nat.one_mul] at hb'
                  rw [List.drop_append_of_le_length (by omega), List.take_append_of_le_length (by simp; omega)]
                  exact (od j x hj).mono ed.keeps
                · rw [List.getElem?_append_right (by omega)] at hj
                  have hjy : j - xs.length < ys.length := (List.getElem?_eq_some_iff.1 hj).1
                  have hb' : (j - xs.length + 1) * r.dt.width ≤ ys.length * r.dt.width := Nat.mul_le_mul_right _ hjy
                  rw [Nat.add_mul, Nat.one_mul] at hb'
                  have hm : j * r.dt.width = olds.length + (j - xs.length) * r.dt.width := by
                    rw [ol', ← Nat.add_mul]; congr 1; omega
                  rw [hm, ← List.drop_drop, List.drop_left, List.drop_append_of_le_length (by omega), List.take_append_of_le_length (by simp; omega)]
                  exact (n2 _ x hj).mono ed.keeps) lk
            obtain ⟨a1, a2, a3⟩ := hnv
            rw [List.length_append] at a1 a2 a3
            exact ⟨_, ed.trans a1, a2, a3⟩
          split at ho
          · simp only [Option.some.injEq] at ho; subst ho
            have hg := room_le hg
            cases hx
            rcases n3 with n3 | ⟨B, o, rfl, n3⟩
            · subst n3
              obtain ⟨G', e1, s1, r1⟩ := new_nil s e r.dt (by omega) false
              exact ⟨_, w, G', run_append_none hu hte none 0 0 c a (Nat.le_refl _), r1, s1, e1⟩
            · by_cases hm : ys.length = 0
              · have hy0 : ys = [] := List.eq_nil_of_length_eq_zero hm
                subst hy0
                obtain ⟨G', e1, s1, r1⟩ := new_nil s e r.dt (by omega) false
                exact ⟨_, w, G', run_append_none hu hte none 0 0 c _ (Nat.le_refl _), r1, s1, e1⟩
              · have hrun := run_append_nil (P := P) w t ty e i z hu hi h3 ⟨B, o, none⟩ ys.length c news (by rw [n1, h1, hb1]) (fun j u hj => by rw [add_lit]; exact n3 j u hj) (by omega) (by omega)
                  (by rw [h2]; have := hbytes _ hg; omega)
                obtain ⟨G', e1, s1, r1⟩ := grow [] [] 0 h false s (by simp) (fun j x hj => by simp at hj) (by simpa using hg)
                simp only [List.length_nil, Nat.zero_add, List.nil_append, Array.empty_append] at e1 s1 r1
                refine ⟨_, _, G', hrun, ?_, ?_, ?_⟩
                · simpa using r1
                · simpa using s1
                · simpa using e1
          · rename_i k
            split at ho
            · rename_i e' T xs lk hk
              split at ho
              · rename_i hT
                subst hT
                cases hee : Nat.beq e e' with
                | false => rw [hee] at ho; simp at ho
                | true =>
                  rw [hee] at ho
                  simp only [cond_true, Option.some.injEq] at ho; subst ho
                  have hg := room_le hg
                  have hee' := Nat.eq_of_beq_eq_true hee
                  subst hee'
                  rw [castL_id]
                  obtain ⟨q0, q1, us, q2, q3, q4⟩ := s.objs k _ hk
                  have sdd := sim_dead s k
                  cases hx
                  rcases q2.2 with ⟨r1, r2⟩ | ⟨g, cap, cur, r1, _, r3, r4, r5, r6, r7⟩
                  · have hx0 : xs = [] := List.eq_nil_of_length_eq_zero r2
                    subst hx0
                    rw [r1]
                    by_cases hm : ys.length = 0
                    · have hy0 : ys = [] := List.eq_nil_of_length_eq_zero hm
                      subst hy0
                      obtain ⟨G', e1, s1, r1⟩ := new_nil sdd e r.dt (by omega) lk
                      rw [List.length_set] at r1
                      exact ⟨_, w, G', run_append_none hu hte none 0 0 c _ (Nat.le_refl _), r1, s1, e1⟩
                    · rcases n3 with n3 | ⟨B, o, rfl, n3⟩
                      · subst n3; simp at hm
                      have hrun := run_append_nil (P := P) w t ty e i z hu hi h3 ⟨B, o, none⟩ ys.length c news (by rw [n1, h1, hb1]) (fun j u hj => by rw [add_lit]; exact n3 j u hj) (by omega) (by omega)
                        (by rw [h2]; have := hbytes _ hg; simp only [List.length_nil, Nat.zero_add] at this; omega)
                      obtain ⟨G', e1, s1, r1⟩ := grow [] [] 0 (h.set k .dead) lk sdd (by simp) (fun j x hj => by simp at hj) (by simpa using hg)
                      simp only [List.length_nil, Nat.zero_add, List.nil_append, Array.empty_append, List.length_set] at e1 s1 r1
                      refine ⟨_, _, G', hrun, ?_, ?_, ?_⟩
                      · simpa using r1
                      · simpa using s1
                      · simpa using e1
                  · rw [r1]
                    by_cases hm : ys.length = 0
                    · have hy0 : ys = [] := List.eq_nil_of_length_eq_zero hm
                      subst hy0
                      have hnn : news = [] := List.eq_nil_of_length_eq_zero (by simpa using n1)
                      subst hnn
                      obtain ⟨G', e1, s1, rr⟩ := pass_row (ys := []) (news := []) s hk r1 r3 (by simpa using r4) (by simp) (fun i y hy => by simp at hy)
                      have hself : w.setRow g (cur.toList.take (xs.length * r.dt.width) ++ [] ++ cur.toList.drop (xs.length * r.dt.width + ([] : List Value).length)).toArray = w := by
                        simp only [List.append_nil, List.length_nil, Nat.add_zero, List.take_append_drop, Array.toArray_toList]
                        exact setRow_self w g cur e (0, 0) r3
                      rw [hself] at e1 s1 rr
                      exact ⟨_, w, G', run_append_none hu hte _ _ _ c _ r4, rr, s1, e1⟩
                    · rcases n3 with n3 | ⟨B, o, rfl, n3⟩
                      · subst n3; simp at hm
                      have hcs : cur.toList.length = cap * r.dt.width := by simpa using r6
                      by_cases hroom : xs.length + ys.length ≤ cap
                      · have hfit : (xs.length + ys.length) * r.dt.width ≤ cap * r.dt.width := Nat.mul_le_mul_right _ hroom
                        rw [Nat.add_mul] at hfit
                        have hrun := run_append_room (P := P) w t ty e i hu hi g xs.length cap cur r3 ⟨B, o, none⟩ ys.length c news (by rw [n1, h1, hb1]) (fun j u hj => by rw [add_lit]; exact n3 j u hj) hone hroom
                          (by rw [n1, h1, hb1, r6]; omega)
                        rw [h1, hb1] at hrun
                        obtain ⟨G', e1, s1, rr⟩ := pass_row (ys := ys) (news := news) s hk r1 r3 hroom n1 n2
                        exact ⟨_, _, G', hrun, rr, s1, e1⟩
                      · have holds : ∀ j u, us[j]? = some u → w.cell? ((⟨g, 0, none⟩ : Addr).add j) = some u := World.ownsRow.cells (w := w) q2 (g := g) (by rw [r1]; rfl)
                        have hrun := run_append_grow (P := P) w t ty e i z hu hi h3 ⟨g, 0, none⟩ xs.length cap us (by rw [q2.1, h1, hb1]) holds ⟨B, o, none⟩ ys.length c news (by rw [n1, h1, hb1])
                          (fun j u hj => by rw [add_lit]; exact n3 j u hj) (by omega) (by omega) (growslice_fits (by omega) (by rw [h2]; exact hbytes _ hg))
                        obtain ⟨G', e1, s1, rr⟩ := grow xs us cap (h.set k .dead) lk sdd (by rw [q2.1, hb1]) q3 hg
                        rw [List.length_set] at rr
                        exact ⟨_, _, G', hrun, rr, s1, e1⟩
              · simp at ho
            · simp at ho
          · simp at ho
        · simp at ho
    · simp at ho
  · simp at ho

end
end Go.RX

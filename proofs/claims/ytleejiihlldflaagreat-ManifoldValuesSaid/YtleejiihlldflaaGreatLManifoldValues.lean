/-
  armplanlaw32.ManifoldValues returns true for every input, and leaves the input as it was. No condition.
-/
import Derived.Test.YtleejiihlldflaaGreatRows
import Derived.Test.YtleejiihlldflaaGreatRy
import Derived.Test.YtleejiihlldflaaGreatG9
namespace Go.Proofs.YtleejiihlldflaaGreat.manifoldValues
open Go.ChangeShapes Go.WideShapes Go.ChangeAt Go.RowKit

theorem k1 : Rows.manifoldValuesRow.wf (OpenSpec.ofChange Rows.manifoldValuesSpec) = true := by kernel_rfl
theorem k4 : Tryz.f3.params.all (Tryz.prog.readableRec ·) = true := by kernel_rfl
theorem k5 : namedTie Tryz.prog Rows.manifoldValuesRow.named Rows.manifoldValuesSpec.vars = true := by kernel_rfl
theorem k6 : (Rows.manifoldValuesRow.stops == []) = true := by kernel_rfl
theorem k8 : (Rows.manifoldValuesRow.knobs == []) = true := by kernel_rfl
theorem k10 : (Rows.manifoldValuesRow.inPlace == Tryz.prog.inPlace 3) = true := by kernel_rfl
theorem k11 : (Rows.manifoldValuesRow.unfollowed == Tryz.prog.unfollowed 3) = true := by kernel_rfl
theorem k12 : (Rows.manifoldValuesRow.recurses == Tryz.prog.recurses 3) = true := by kernel_rfl
theorem k13 : (Rows.manifoldValuesRow.named == Tryz.prog.varsNamed 3) = true := by kernel_rfl
theorem k14 : (Rows.manifoldValuesRow.maps == (Tryz.f3.params.toList ++ Rows.manifoldValuesSpec.plain.varTypes Tryz.prog).any (Tryz.prog.mapsRec ·)) = true := by kernel_rfl
theorem k15 : (Rows.manifoldValuesRow.ifaces == (Tryz.f3.params.toList ++ Rows.manifoldValuesSpec.plain.varTypes Tryz.prog).any (Tryz.prog.ifacesRec ·)) = true := by kernel_rfl
theorem k16 : (Rows.manifoldValuesRow.mapsOut == Tryz.prog.mapsAmong Tryz.f3.resultTypes.toList) = true := by kernel_rfl
theorem k17 : (Rows.manifoldValuesRow.loops == (Tryz.f3.params.toList ++ Rows.manifoldValuesSpec.plain.varTypes Tryz.prog).any (Tryz.prog.loopsFrom ·)) = true := by kernel_rfl
theorem k18 : (Rows.manifoldValuesRow.wideKeys == (Tryz.f3.params.toList ++ Rows.manifoldValuesSpec.plain.varTypes Tryz.prog ++ Tryz.f3.resultTypes.toList).any (Tryz.prog.wideKeysFrom ·)) = true := by kernel_rfl
theorem k19 : Rows.manifoldValuesSpec.vars.all (Tryz.prog.varReadable ·) = true := by kernel_rfl
theorem k20 : Tryz.f3.resultTypes.all (fun t => Tryz.prog.readableRec t && decide (t < Tryz.prog.types.size)) = true := by kernel_rfl
theorem k21 : (Rows.manifoldValuesRow.ifacesOut == Tryz.f3.resultTypes.toList.any (Tryz.prog.ifacesRec ·)) = true := by kernel_rfl
theorem k22 : (Rows.manifoldValuesRow.loopsOut == Tryz.f3.resultTypes.toList.any (Tryz.prog.loopsFrom ·)) = true := by kernel_rfl
theorem k23 : (Rows.manifoldValuesRow.plainKeys == Tryz.prog.plainKeys) = true := by kernel_rfl
theorem k24 : Rows.manifoldValuesRow.shortTexts.isNone = true := by kernel_rfl
theorem k27 : (Rows.manifoldValuesRow.lifted == Tryz.prog.liftsFinal) = true := by rw [Go.RX.Seat.lifts]; rfl
theorem k28 : (Tryz.prog.make == some Rows.manifoldValuesRow.make) = true := by rw [Go.RX.Seat.make]; rfl
theorem k29 : Go.RX.kindsOk Tryz.prog Tryz.f3 Rows.manifoldValuesRow = true := by kernel_rfl
theorem k30 : (Rows.manifoldValuesRow.pinned == Rows.manifoldValuesRow.pinnedBy) = true := by kernel_rfl
theorem k31 : (Rows.manifoldValuesRow.veiled == (Tryz.f3.params.toList ++ Rows.manifoldValuesSpec.plain.varTypes Tryz.prog ++ Tryz.f3.resultTypes.toList).any (Tryz.prog.veiledRec ·)) = true := by kernel_rfl
theorem k32 : Rows.manifoldValuesRow.veiledFits Tryz.prog Tryz.f3.params.toList (Tryz.f3.params.toList ++ Rows.manifoldValuesSpec.plain.varTypes Tryz.prog ++ Tryz.f3.resultTypes.toList) = true := by kernel_rfl
theorem facts : joinedFacts Tryz.prog 3 Tryz.f3 Rows.manifoldValuesSpec Rows.manifoldValuesRow = true := Go.RX.facts_of (P := Tryz.prog) (f := 3) (fn := Tryz.f3) (s := Rows.manifoldValuesSpec) (c := Rows.manifoldValuesRow) k1 Go.RX.Seat.laid Go.RX.Seat.mapsRow k4 k5 k6 Go.RX.Seat.stops k8 Go.RX.Seat.stopKnobs k10 k11 k12 k13 k14 k15 k16 k17 k18 k19 k20 k21 k22 k23 k24 Go.RX.Seat.heard Go.RX.Seat.enter k27 k28 k29 k30 k31 k32

theorem par : Tryz.f3.params = [25, 26, 30, 31, 32, 32, 32, 3].toArray := by kernel_rfl
theorem res : Tryz.f3.resultTypes = #[4] := by kernel_rfl
theorem rds : (([25, 26, 30, 31, 32, 32, 32, 3] : List TypeId).all fun t => Tryz.prog.readableRec t && decide (t < Tryz.prog.types.size)) = true := by kernel_rfl
theorem tys : Go.RX.tysOk Tryz.prog 9 [25, 26, 30, 31, 32, 32, 32, 3] [.pair (.list (.pair (.str) (.pair (.int .i64) (.pair (.int .i64) (.pair (.pair (.int .i64) (.pair (.int .i64) (.int .i64))) (.pair (.int .i64) (.pair (.int .i64) (.pair (.int .i64) (.pair (.int .i64) (.pair (.int .i64) (.int .i64))))))))))) (.list (.pair (.int .i64) (.pair (.int .i64) (.pair (.int .i64) (.pair (.int .i64) (.int .i64)))))), .list (.pair (.int .i64) (.pair (.int .i64) (.pair (.pair (.int .i64) (.pair (.int .i64) (.int .i64))) (.pair (.pair (.int .i64) (.pair (.int .i64) (.int .i64))) (.pair (.int .i64) (.int .i64)))))), .pair (.int .i64) (.pair (.int .i64) (.pair (.pair (.int .i64) (.pair (.int .i64) (.int .i64))) (.pair (.pair (.int .i64) (.pair (.int .i64) (.int .i64))) (.pair (.int .i64) (.int .i64))))), .list (.pair (.int .i64) (.int .i64)), .list (.int .i64), .list (.int .i64), .list (.int .i64), .int .i64] = true := by kernel_rfl
theorem noInit : Tryz.prog.inits.idxOf? 3 = none := by kernel_rfl
set_option maxRecDepth 100000 in
theorem lifted (os : Os) (started : os.Started) (H : Type) (enc : TypeId × Value → H) :
    ReturnsInHanded {} Tryz.checked os 3 .any (Rows.manifoldValuesSpec.pre6 enc Tryz.prog Tryz.f3 Rows.manifoldValuesRow.domain false) (Rows.manifoldValuesSpec.post enc Tryz.prog Tryz.f3 false true false false) :=
  Go.RX.law_lifted (C := Tryz.checked) (ts := [25, 26, 30, 31, 32, 32, 32, 3]) (As := [.pair (.list (.pair (.str) (.pair (.int .i64) (.pair (.int .i64) (.pair (.pair (.int .i64) (.pair (.int .i64) (.int .i64))) (.pair (.int .i64) (.pair (.int .i64) (.pair (.int .i64) (.pair (.int .i64) (.pair (.int .i64) (.int .i64))))))))))) (.list (.pair (.int .i64) (.pair (.int .i64) (.pair (.int .i64) (.pair (.int .i64) (.int .i64)))))), .list (.pair (.int .i64) (.pair (.int .i64) (.pair (.pair (.int .i64) (.pair (.int .i64) (.int .i64))) (.pair (.pair (.int .i64) (.pair (.int .i64) (.int .i64))) (.pair (.int .i64) (.int .i64)))))), .pair (.int .i64) (.pair (.int .i64) (.pair (.pair (.int .i64) (.pair (.int .i64) (.int .i64))) (.pair (.pair (.int .i64) (.pair (.int .i64) (.int .i64))) (.pair (.int .i64) (.int .i64))))), .list (.pair (.int .i64) (.int .i64)), .list (.int .i64), .list (.int .i64), .list (.int .i64), .int .i64]) (b := 4) (n := 9) Go.RX.Seat.own started noInit Tryz.func3 (ChangeSpec.witness6 (enc := enc) (C := Tryz.checked) false ⟨#[], #[.agg #[.slice none 0 0, .slice none 0 0], .slice none 0 0, .agg #[.int .i64 0, .int .i64 0, .int .i64 0, .int .i64 0, .int .i64 0, .int .i64 0, .int .i64 0, .int .i64 0, .int .i64 0, .int .i64 0], .slice none 0 0, .slice none 0 0, .slice none 0 0, .slice none 0 0, .int .i64 0], []⟩ 8 (by kernel_rfl) (by kernel_rfl) (by kernel_rfl) (by kernel_rfl))
    Go.RX.Seat.laid par rds res Tryz.underlying4 rfl (fun ds h => match ds, h with
      | [d0, d1, d2, d3, d4, d5, d6, d7], _ => rfl) tys Go.RX.fn_armplanlaw32_ManifoldValues (fun x ok => by have h := Go.RX.manyvalues_law x.1 x.2.1 x.2.2.1 x.2.2.2.1 ok.2.2.2.2.1.1 ok.2.2.2.2.2.1.1 ok.2.2.2.2.2.2.1.1 x.2.2.2.2.2.2.2.1; rw [h.1, h.2]; rfl)

theorem over : Rows.manifoldValuesRow.holds Tryz.pinned (OpenSpec.ofChange Rows.manifoldValuesSpec) :=
  OpenClaim.holds_of_wide 3 Tryz.f3 rfl rfl rfl rfl rfl rfl rfl ⟨rfl, rfl, rfl, rfl, rfl⟩ rfl rfl rfl rfl rfl (by kernel_rfl) Tryz.func3 facts
    (of_decide_eq_true (by kernel_rfl)) (by unfold Func.isWrapper; first | (rw [if_pos (by decide +kernel)]; kernel_rfl) | (rw [if_neg (by decide +kernel)]; exact ⟨rfl, rfl⟩))
    (fun os started H enc _ => lifted os started H enc)

/-- THE STATEMENT -/
theorem proved : Rows.ManifoldValuesSaid :=
  over
end Go.Proofs.YtleejiihlldflaaGreat.manifoldValues

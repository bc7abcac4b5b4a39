/-
  armplanlaw4.MatrixComposes returns true for every input, and leaves the input as it was. No condition.
-/
import Derived.Test.YtlikaaohkecccaaRows
import Derived.Test.YtlikaaohkecccaaRy
import Derived.Test.YtlikaaohkecccaaMc
namespace Go.Proofs.Ytlikaaohkecccaa.matrixComposes
open Go.ChangeShapes Go.WideShapes Go.ChangeAt Go.RowKit

theorem k1 : Rows.matrixComposesRow.wf (OpenSpec.ofChange Rows.matrixComposesSpec) = true := by kernel_rfl
theorem k4 : Try.f18.params.all (Try.prog.readableRec ·) = true := by kernel_rfl
theorem k5 : namedTie Try.prog Rows.matrixComposesRow.named Rows.matrixComposesSpec.vars = true := by kernel_rfl
theorem k6 : (Rows.matrixComposesRow.stops == []) = true := by kernel_rfl
theorem k8 : (Rows.matrixComposesRow.knobs == []) = true := by kernel_rfl
theorem k10 : (Rows.matrixComposesRow.inPlace == Try.prog.inPlace 18) = true := by kernel_rfl
theorem k11 : (Rows.matrixComposesRow.unfollowed == Try.prog.unfollowed 18) = true := by kernel_rfl
theorem k12 : (Rows.matrixComposesRow.recurses == Try.prog.recurses 18) = true := by kernel_rfl
theorem k13 : (Rows.matrixComposesRow.named == Try.prog.varsNamed 18) = true := by kernel_rfl
theorem k14 : (Rows.matrixComposesRow.maps == (Try.f18.params.toList ++ Rows.matrixComposesSpec.plain.varTypes Try.prog).any (Try.prog.mapsRec ·)) = true := by kernel_rfl
theorem k15 : (Rows.matrixComposesRow.ifaces == (Try.f18.params.toList ++ Rows.matrixComposesSpec.plain.varTypes Try.prog).any (Try.prog.ifacesRec ·)) = true := by kernel_rfl
theorem k16 : (Rows.matrixComposesRow.mapsOut == Try.prog.mapsAmong Try.f18.resultTypes.toList) = true := by kernel_rfl
theorem k17 : (Rows.matrixComposesRow.loops == (Try.f18.params.toList ++ Rows.matrixComposesSpec.plain.varTypes Try.prog).any (Try.prog.loopsFrom ·)) = true := by kernel_rfl
theorem k18 : (Rows.matrixComposesRow.wideKeys == (Try.f18.params.toList ++ Rows.matrixComposesSpec.plain.varTypes Try.prog ++ Try.f18.resultTypes.toList).any (Try.prog.wideKeysFrom ·)) = true := by kernel_rfl
theorem k19 : Rows.matrixComposesSpec.vars.all (Try.prog.varReadable ·) = true := by kernel_rfl
theorem k20 : Try.f18.resultTypes.all (fun t => Try.prog.readableRec t && decide (t < Try.prog.types.size)) = true := by kernel_rfl
theorem k21 : (Rows.matrixComposesRow.ifacesOut == Try.f18.resultTypes.toList.any (Try.prog.ifacesRec ·)) = true := by kernel_rfl
theorem k22 : (Rows.matrixComposesRow.loopsOut == Try.f18.resultTypes.toList.any (Try.prog.loopsFrom ·)) = true := by kernel_rfl
theorem k23 : (Rows.matrixComposesRow.plainKeys == Try.prog.plainKeys) = true := by kernel_rfl
theorem k24 : Rows.matrixComposesRow.shortTexts.isNone = true := by kernel_rfl
theorem k27 : (Rows.matrixComposesRow.lifted == Try.prog.liftsFinal) = true := by rw [Go.RX.Seat.lifts]; rfl
theorem k28 : (Try.prog.make == some Rows.matrixComposesRow.make) = true := by rw [Go.RX.Seat.make]; rfl
theorem k29 : Go.RX.kindsOk Try.prog Try.f18 Rows.matrixComposesRow = true := by kernel_rfl
theorem k30 : (Rows.matrixComposesRow.pinned == Rows.matrixComposesRow.pinnedBy) = true := by kernel_rfl
theorem k31 : (Rows.matrixComposesRow.veiled == (Try.f18.params.toList ++ Rows.matrixComposesSpec.plain.varTypes Try.prog ++ Try.f18.resultTypes.toList).any (Try.prog.veiledRec ·)) = true := by kernel_rfl
theorem k32 : Rows.matrixComposesRow.veiledFits Try.prog Try.f18.params.toList (Try.f18.params.toList ++ Rows.matrixComposesSpec.plain.varTypes Try.prog ++ Try.f18.resultTypes.toList) = true := by kernel_rfl
theorem facts : joinedFacts Try.prog 18 Try.f18 Rows.matrixComposesSpec Rows.matrixComposesRow = true := Go.RX.facts_of (P := Try.prog) (f := 18) (fn := Try.f18) (s := Rows.matrixComposesSpec) (c := Rows.matrixComposesRow) k1 Go.RX.Seat.laid Go.RX.Seat.mapsRow k4 k5 k6 Go.RX.Seat.stops k8 Go.RX.Seat.stopKnobs k10 k11 k12 k13 k14 k15 k16 k17 k18 k19 k20 k21 k22 k23 k24 Go.RX.Seat.heard Go.RX.Seat.enter k27 k28 k29 k30 k31 k32

theorem par : Try.f18.params = [45, 45, 48].toArray := by kernel_rfl
theorem res : Try.f18.resultTypes = #[4] := by kernel_rfl
theorem rds : (([45, 45, 48] : List TypeId).all fun t => Try.prog.readableRec t && decide (t < Try.prog.types.size)) = true := by kernel_rfl
theorem tys : Go.RX.tysOk Try.prog 9 [45, 45, 48] [.pair (.pair (.pair (.int .i64) (.int .i64)) (.pair (.pair (.int .i64) (.int .i64)) (.pair (.int .i64) (.int .i64)))) (.pair (.pair (.pair (.int .i64) (.int .i64)) (.pair (.pair (.int .i64) (.int .i64)) (.pair (.int .i64) (.int .i64)))) (.pair (.pair (.int .i64) (.int .i64)) (.pair (.pair (.int .i64) (.int .i64)) (.pair (.int .i64) (.int .i64))))), .pair (.pair (.pair (.int .i64) (.int .i64)) (.pair (.pair (.int .i64) (.int .i64)) (.pair (.int .i64) (.int .i64)))) (.pair (.pair (.pair (.int .i64) (.int .i64)) (.pair (.pair (.int .i64) (.int .i64)) (.pair (.int .i64) (.int .i64)))) (.pair (.pair (.int .i64) (.int .i64)) (.pair (.pair (.int .i64) (.int .i64)) (.pair (.int .i64) (.int .i64))))), .list (.int .i64)] = true := by kernel_rfl
theorem noInit : Try.prog.inits.idxOf? 18 = none := by kernel_rfl
set_option maxRecDepth 100000 in
theorem lifted (os : Os) (started : os.Started) (H : Type) (enc : TypeId × Value → H) :
    ReturnsInHanded {} Try.checked os 18 .any (Rows.matrixComposesSpec.pre6 enc Try.prog Try.f18 Rows.matrixComposesRow.domain false) (Rows.matrixComposesSpec.post enc Try.prog Try.f18 false true false false) :=
  Go.RX.law_lifted (C := Try.checked) (ts := [45, 45, 48]) (As := [.pair (.pair (.pair (.int .i64) (.int .i64)) (.pair (.pair (.int .i64) (.int .i64)) (.pair (.int .i64) (.int .i64)))) (.pair (.pair (.pair (.int .i64) (.int .i64)) (.pair (.pair (.int .i64) (.int .i64)) (.pair (.int .i64) (.int .i64)))) (.pair (.pair (.int .i64) (.int .i64)) (.pair (.pair (.int .i64) (.int .i64)) (.pair (.int .i64) (.int .i64))))), .pair (.pair (.pair (.int .i64) (.int .i64)) (.pair (.pair (.int .i64) (.int .i64)) (.pair (.int .i64) (.int .i64)))) (.pair (.pair (.pair (.int .i64) (.int .i64)) (.pair (.pair (.int .i64) (.int .i64)) (.pair (.int .i64) (.int .i64)))) (.pair (.pair (.int .i64) (.int .i64)) (.pair (.pair (.int .i64) (.int .i64)) (.pair (.int .i64) (.int .i64))))), .list (.int .i64)]) (b := 4) (n := 9) Go.RX.Seat.own started noInit Try.func18 (ChangeSpec.witness6 (enc := enc) (C := Try.checked) false ⟨#[], #[.agg #[.int .i64 0, .int .i64 0, .int .i64 0, .int .i64 0, .int .i64 0, .int .i64 0, .int .i64 0, .int .i64 0, .int .i64 0, .int .i64 0, .int .i64 0, .int .i64 0, .int .i64 0, .int .i64 0, .int .i64 0, .int .i64 0, .int .i64 0, .int .i64 0], .agg #[.int .i64 0, .int .i64 0, .int .i64 0, .int .i64 0, .int .i64 0, .int .i64 0, .int .i64 0, .int .i64 0, .int .i64 0, .int .i64 0, .int .i64 0, .int .i64 0, .int .i64 0, .int .i64 0, .int .i64 0, .int .i64 0, .int .i64 0, .int .i64 0], .slice none 0 0], []⟩ 8 (by kernel_rfl) (by kernel_rfl) (by kernel_rfl) (by kernel_rfl))
    Go.RX.Seat.laid par rds res Try.underlying4 rfl (fun ds h => match ds, h with
      | [d0, d1, d2], _ => rfl) tys Go.RX.fn_armplanlaw4_MatrixComposes (fun x ok => by have h := Go.RX.composes_law x.1 x.2.1 ok.2.2.1.1; rw [h.1, h.2]; rfl)

theorem over : Rows.matrixComposesRow.holds Try.pinned (OpenSpec.ofChange Rows.matrixComposesSpec) :=
  OpenClaim.holds_of_wide 18 Try.f18 rfl rfl rfl rfl rfl rfl rfl ⟨rfl, rfl, rfl, rfl, rfl⟩ rfl rfl rfl rfl rfl (by kernel_rfl) Try.func18 facts
    (of_decide_eq_true (by kernel_rfl)) (by unfold Func.isWrapper; first | (rw [if_pos (by decide +kernel)]; kernel_rfl) | (rw [if_neg (by decide +kernel)]; exact ⟨rfl, rfl⟩))
    (fun os started H enc _ => lifted os started H enc)

/-- THE STATEMENT -/
theorem proved : Rows.MatrixComposesSaid :=
  over
end Go.Proofs.Ytlikaaohkecccaa.matrixComposes

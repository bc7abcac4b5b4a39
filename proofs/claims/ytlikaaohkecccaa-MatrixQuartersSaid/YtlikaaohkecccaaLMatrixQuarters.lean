/-
  armplanlaw4.MatrixQuarters returns true for every input, and leaves the input as it was. No condition.
-/
import Derived.Test.YtlikaaohkecccaaRows
import Derived.Test.YtlikaaohkecccaaRy
import Derived.Test.YtlikaaohkecccaaMd
namespace Go.Proofs.Ytlikaaohkecccaa.matrixQuarters
open Go.ChangeShapes Go.WideShapes Go.ChangeAt Go.RowKit

theorem k1 : Rows.matrixQuartersRow.wf (OpenSpec.ofChange Rows.matrixQuartersSpec) = true := by kernel_rfl
theorem k4 : Try.f15.params.all (Try.prog.readableRec ·) = true := by kernel_rfl
theorem k5 : namedTie Try.prog Rows.matrixQuartersRow.named Rows.matrixQuartersSpec.vars = true := by kernel_rfl
theorem k6 : (Rows.matrixQuartersRow.stops == []) = true := by kernel_rfl
theorem k8 : (Rows.matrixQuartersRow.knobs == []) = true := by kernel_rfl
theorem k10 : (Rows.matrixQuartersRow.inPlace == Try.prog.inPlace 15) = true := by kernel_rfl
theorem k11 : (Rows.matrixQuartersRow.unfollowed == Try.prog.unfollowed 15) = true := by kernel_rfl
theorem k12 : (Rows.matrixQuartersRow.recurses == Try.prog.recurses 15) = true := by kernel_rfl
theorem k13 : (Rows.matrixQuartersRow.named == Try.prog.varsNamed 15) = true := by kernel_rfl
theorem k14 : (Rows.matrixQuartersRow.maps == (Try.f15.params.toList ++ Rows.matrixQuartersSpec.plain.varTypes Try.prog).any (Try.prog.mapsRec ·)) = true := by kernel_rfl
theorem k15 : (Rows.matrixQuartersRow.ifaces == (Try.f15.params.toList ++ Rows.matrixQuartersSpec.plain.varTypes Try.prog).any (Try.prog.ifacesRec ·)) = true := by kernel_rfl
theorem k16 : (Rows.matrixQuartersRow.mapsOut == Try.prog.mapsAmong Try.f15.resultTypes.toList) = true := by kernel_rfl
theorem k17 : (Rows.matrixQuartersRow.loops == (Try.f15.params.toList ++ Rows.matrixQuartersSpec.plain.varTypes Try.prog).any (Try.prog.loopsFrom ·)) = true := by kernel_rfl
theorem k18 : (Rows.matrixQuartersRow.wideKeys == (Try.f15.params.toList ++ Rows.matrixQuartersSpec.plain.varTypes Try.prog ++ Try.f15.resultTypes.toList).any (Try.prog.wideKeysFrom ·)) = true := by kernel_rfl
theorem k19 : Rows.matrixQuartersSpec.vars.all (Try.prog.varReadable ·) = true := by kernel_rfl
theorem k20 : Try.f15.resultTypes.all (fun t => Try.prog.readableRec t && decide (t < Try.prog.types.size)) = true := by kernel_rfl
theorem k21 : (Rows.matrixQuartersRow.ifacesOut == Try.f15.resultTypes.toList.any (Try.prog.ifacesRec ·)) = true := by kernel_rfl
theorem k22 : (Rows.matrixQuartersRow.loopsOut == Try.f15.resultTypes.toList.any (Try.prog.loopsFrom ·)) = true := by kernel_rfl
theorem k23 : (Rows.matrixQuartersRow.plainKeys == Try.prog.plainKeys) = true := by kernel_rfl
theorem k24 : Rows.matrixQuartersRow.shortTexts.isNone = true := by kernel_rfl
theorem k27 : (Rows.matrixQuartersRow.lifted == Try.prog.liftsFinal) = true := by rw [Go.RX.Seat.lifts]; rfl
theorem k28 : (Try.prog.make == some Rows.matrixQuartersRow.make) = true := by rw [Go.RX.Seat.make]; rfl
theorem k29 : Go.RX.kindsOk Try.prog Try.f15 Rows.matrixQuartersRow = true := by kernel_rfl
theorem k30 : (Rows.matrixQuartersRow.pinned == Rows.matrixQuartersRow.pinnedBy) = true := by kernel_rfl
theorem k31 : (Rows.matrixQuartersRow.veiled == (Try.f15.params.toList ++ Rows.matrixQuartersSpec.plain.varTypes Try.prog ++ Try.f15.resultTypes.toList).any (Try.prog.veiledRec ·)) = true := by kernel_rfl
theorem k32 : Rows.matrixQuartersRow.veiledFits Try.prog Try.f15.params.toList (Try.f15.params.toList ++ Rows.matrixQuartersSpec.plain.varTypes Try.prog ++ Try.f15.resultTypes.toList) = true := by kernel_rfl
theorem facts : joinedFacts Try.prog 15 Try.f15 Rows.matrixQuartersSpec Rows.matrixQuartersRow = true := Go.RX.facts_of (P := Try.prog) (f := 15) (fn := Try.f15) (s := Rows.matrixQuartersSpec) (c := Rows.matrixQuartersRow) k1 Go.RX.Seat.laid Go.RX.Seat.mapsRow k4 k5 k6 Go.RX.Seat.stops k8 Go.RX.Seat.stopKnobs k10 k11 k12 k13 k14 k15 k16 k17 k18 k19 k20 k21 k22 k23 k24 Go.RX.Seat.heard Go.RX.Seat.enter k27 k28 k29 k30 k31 k32

theorem par : Try.f15.params = [3, 55].toArray := by kernel_rfl
theorem res : Try.f15.resultTypes = #[4] := by kernel_rfl
theorem rds : (([3, 55] : List TypeId).all fun t => Try.prog.readableRec t && decide (t < Try.prog.types.size)) = true := by kernel_rfl
theorem tys : Go.RX.tysOk Try.prog 9 [3, 55] [.int .i64, .pair (.int .i64) (.pair (.int .i64) (.int .i64))] = true := by kernel_rfl
theorem noInit : Try.prog.inits.idxOf? 15 = none := by kernel_rfl
set_option maxRecDepth 100000 in
theorem lifted (os : Os) (started : os.Started) (H : Type) (enc : TypeId × Value → H) :
    ReturnsInHanded {} Try.checked os 15 .any (Rows.matrixQuartersSpec.pre6 enc Try.prog Try.f15 Rows.matrixQuartersRow.domain false) (Rows.matrixQuartersSpec.post enc Try.prog Try.f15 false true false false) :=
  Go.RX.law_lifted (C := Try.checked) (ts := [3, 55]) (As := [.int .i64, .pair (.int .i64) (.pair (.int .i64) (.int .i64))]) (b := 4) (n := 9) Go.RX.Seat.own started noInit Try.func15 (ChangeSpec.witness6 (enc := enc) (C := Try.checked) false ⟨#[], #[.int .i64 0, .agg #[.int .i64 0, .int .i64 0, .int .i64 0]], []⟩ 8 (by kernel_rfl) (by kernel_rfl) (by kernel_rfl) (by kernel_rfl))
    Go.RX.Seat.laid par rds res Try.underlying4 rfl (fun ds h => match ds, h with
      | [d0, d1], _ => rfl) tys Go.RX.fn_armplanlaw4_MatrixQuarters (fun x ok => by have h := Go.RX.quarters_law x.1 x.2.1; rw [h.1, h.2]; rfl)

theorem over : Rows.matrixQuartersRow.holds Try.pinned (OpenSpec.ofChange Rows.matrixQuartersSpec) :=
  OpenClaim.holds_of_wide 15 Try.f15 rfl rfl rfl rfl rfl rfl rfl ⟨rfl, rfl, rfl, rfl, rfl⟩ rfl rfl rfl rfl rfl (by kernel_rfl) Try.func15 facts
    (of_decide_eq_true (by kernel_rfl)) (by unfold Func.isWrapper; first | (rw [if_pos (by decide +kernel)]; kernel_rfl) | (rw [if_neg (by decide +kernel)]; exact ⟨rfl, rfl⟩))
    (fun os started H enc _ => lifted os started H enc)

/-- THE STATEMENT -/
theorem proved : Rows.MatrixQuartersSaid :=
  over
end Go.Proofs.Ytlikaaohkecccaa.matrixQuarters

/-
  armplanlaw3.AngleCircle returns true for every input, and leaves the input as it was. No condition.
-/
import Derived.Test.YtlikaaohkecccaaRows
import Derived.Test.YtlikaaohkecccaaRy
import Derived.Test.YtlikaaohkecccaaPe
namespace Go.Proofs.Ytlikaaohkecccaa.angleCircle
open Go.ChangeShapes Go.WideShapes Go.ChangeAt Go.RowKit

theorem k1 : Rows.angleCircleRow.wf (OpenSpec.ofChange Rows.angleCircleSpec) = true := by kernel_rfl
theorem k4 : Try.f6.params.all (Try.prog.readableRec ·) = true := by kernel_rfl
theorem k5 : namedTie Try.prog Rows.angleCircleRow.named Rows.angleCircleSpec.vars = true := by kernel_rfl
theorem k6 : (Rows.angleCircleRow.stops == []) = true := by kernel_rfl
theorem k8 : (Rows.angleCircleRow.knobs == []) = true := by kernel_rfl
theorem k10 : (Rows.angleCircleRow.inPlace == Try.prog.inPlace 6) = true := by kernel_rfl
theorem k11 : (Rows.angleCircleRow.unfollowed == Try.prog.unfollowed 6) = true := by kernel_rfl
theorem k12 : (Rows.angleCircleRow.recurses == Try.prog.recurses 6) = true := by kernel_rfl
theorem k13 : (Rows.angleCircleRow.named == Try.prog.varsNamed 6) = true := by kernel_rfl
theorem k14 : (Rows.angleCircleRow.maps == (Try.f6.params.toList ++ Rows.angleCircleSpec.plain.varTypes Try.prog).any (Try.prog.mapsRec ·)) = true := by kernel_rfl
theorem k15 : (Rows.angleCircleRow.ifaces == (Try.f6.params.toList ++ Rows.angleCircleSpec.plain.varTypes Try.prog).any (Try.prog.ifacesRec ·)) = true := by kernel_rfl
theorem k16 : (Rows.angleCircleRow.mapsOut == Try.prog.mapsAmong Try.f6.resultTypes.toList) = true := by kernel_rfl
theorem k17 : (Rows.angleCircleRow.loops == (Try.f6.params.toList ++ Rows.angleCircleSpec.plain.varTypes Try.prog).any (Try.prog.loopsFrom ·)) = true := by kernel_rfl
theorem k18 : (Rows.angleCircleRow.wideKeys == (Try.f6.params.toList ++ Rows.angleCircleSpec.plain.varTypes Try.prog ++ Try.f6.resultTypes.toList).any (Try.prog.wideKeysFrom ·)) = true := by kernel_rfl
theorem k19 : Rows.angleCircleSpec.vars.all (Try.prog.varReadable ·) = true := by kernel_rfl
theorem k20 : Try.f6.resultTypes.all (fun t => Try.prog.readableRec t && decide (t < Try.prog.types.size)) = true := by kernel_rfl
theorem k21 : (Rows.angleCircleRow.ifacesOut == Try.f6.resultTypes.toList.any (Try.prog.ifacesRec ·)) = true := by kernel_rfl
theorem k22 : (Rows.angleCircleRow.loopsOut == Try.f6.resultTypes.toList.any (Try.prog.loopsFrom ·)) = true := by kernel_rfl
theorem k23 : (Rows.angleCircleRow.plainKeys == Try.prog.plainKeys) = true := by kernel_rfl
theorem k24 : Rows.angleCircleRow.shortTexts.isNone = true := by kernel_rfl
theorem k27 : (Rows.angleCircleRow.lifted == Try.prog.liftsFinal) = true := by rw [Go.RX.Seat.lifts]; rfl
theorem k28 : (Try.prog.make == some Rows.angleCircleRow.make) = true := by rw [Go.RX.Seat.make]; rfl
theorem k29 : Go.RX.kindsOk Try.prog Try.f6 Rows.angleCircleRow = true := by kernel_rfl
theorem k30 : (Rows.angleCircleRow.pinned == Rows.angleCircleRow.pinnedBy) = true := by kernel_rfl
theorem k31 : (Rows.angleCircleRow.veiled == (Try.f6.params.toList ++ Rows.angleCircleSpec.plain.varTypes Try.prog ++ Try.f6.resultTypes.toList).any (Try.prog.veiledRec ·)) = true := by kernel_rfl
theorem k32 : Rows.angleCircleRow.veiledFits Try.prog Try.f6.params.toList (Try.f6.params.toList ++ Rows.angleCircleSpec.plain.varTypes Try.prog ++ Try.f6.resultTypes.toList) = true := by kernel_rfl
theorem facts : joinedFacts Try.prog 6 Try.f6 Rows.angleCircleSpec Rows.angleCircleRow = true := Go.RX.facts_of (P := Try.prog) (f := 6) (fn := Try.f6) (s := Rows.angleCircleSpec) (c := Rows.angleCircleRow) k1 Go.RX.Seat.laid Go.RX.Seat.mapsRow k4 k5 k6 Go.RX.Seat.stops k8 Go.RX.Seat.stopKnobs k10 k11 k12 k13 k14 k15 k16 k17 k18 k19 k20 k21 k22 k23 k24 Go.RX.Seat.heard Go.RX.Seat.enter k27 k28 k29 k30 k31 k32

theorem par : Try.f6.params = [2].toArray := by kernel_rfl
theorem res : Try.f6.resultTypes = #[4] := by kernel_rfl
theorem rds : (([2] : List TypeId).all fun t => Try.prog.readableRec t && decide (t < Try.prog.types.size)) = true := by kernel_rfl
theorem tys : Go.RX.tysOk Try.prog 9 [2] [.int .i64] = true := by kernel_rfl
theorem noInit : Try.prog.inits.idxOf? 6 = none := by kernel_rfl
set_option maxRecDepth 100000 in
theorem lifted (os : Os) (started : os.Started) (H : Type) (enc : TypeId × Value → H) :
    ReturnsInHanded {} Try.checked os 6 .any (Rows.angleCircleSpec.pre6 enc Try.prog Try.f6 Rows.angleCircleRow.domain false) (Rows.angleCircleSpec.post enc Try.prog Try.f6 false true false false) :=
  Go.RX.law_lifted (C := Try.checked) (ts := [2]) (As := [.int .i64]) (b := 4) (n := 9) Go.RX.Seat.own started noInit Try.func6 (ChangeSpec.witness6 (enc := enc) (C := Try.checked) false ⟨#[], #[.int .i64 0], []⟩ 8 (by kernel_rfl) (by kernel_rfl) (by kernel_rfl) (by kernel_rfl))
    Go.RX.Seat.laid par rds res Try.underlying4 rfl (fun ds h => match ds, h with
      | [d0], _ => rfl) tys Go.RX.fn_armplanlaw3_AngleCircle (fun x ok => by rw [Go.RX.circle_law x.1])

theorem over : Rows.angleCircleRow.holds Try.pinned (OpenSpec.ofChange Rows.angleCircleSpec) :=
  OpenClaim.holds_of_wide 6 Try.f6 rfl rfl rfl rfl rfl rfl rfl ⟨rfl, rfl, rfl, rfl, rfl⟩ rfl rfl rfl rfl rfl (by kernel_rfl) Try.func6 facts
    (of_decide_eq_true (by kernel_rfl)) (by unfold Func.isWrapper; first | (rw [if_pos (by decide +kernel)]; kernel_rfl) | (rw [if_neg (by decide +kernel)]; exact ⟨rfl, rfl⟩))
    (fun os started H enc _ => lifted os started H enc)

/-- THE STATEMENT -/
theorem proved : Rows.AngleCircleSaid :=
  over
end Go.Proofs.Ytlikaaohkecccaa.angleCircle

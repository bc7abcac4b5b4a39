/-
  armplanlaw3.AngleRises returns true for every input, and leaves the input as it was. No condition.
-/
import Derived.Test.YtlikaaohkecccaaRows
import Derived.Test.YtlikaaohkecccaaRy
import Derived.Test.YtlikaaohkecccaaPd
namespace Go.Proofs.Ytlikaaohkecccaa.angleRises
open Go.ChangeShapes Go.WideShapes Go.ChangeAt Go.RowKit

theorem k1 : Rows.angleRisesRow.wf (OpenSpec.ofChange Rows.angleRisesSpec) = true := by kernel_rfl
theorem k4 : Try.f7.params.all (Try.prog.readableRec ·) = true := by kernel_rfl
theorem k5 : namedTie Try.prog Rows.angleRisesRow.named Rows.angleRisesSpec.vars = true := by kernel_rfl
theorem k6 : (Rows.angleRisesRow.stops == []) = true := by kernel_rfl
theorem k8 : (Rows.angleRisesRow.knobs == []) = true := by kernel_rfl
theorem k10 : (Rows.angleRisesRow.inPlace == Try.prog.inPlace 7) = true := by kernel_rfl
theorem k11 : (Rows.angleRisesRow.unfollowed == Try.prog.unfollowed 7) = true := by kernel_rfl
theorem k12 : (Rows.angleRisesRow.recurses == Try.prog.recurses 7) = true := by kernel_rfl
theorem k13 : (Rows.angleRisesRow.named == Try.prog.varsNamed 7) = true := by kernel_rfl
theorem k14 : (Rows.angleRisesRow.maps == (Try.f7.params.toList ++ Rows.angleRisesSpec.plain.varTypes Try.prog).any (Try.prog.mapsRec ·)) = true := by kernel_rfl
theorem k15 : (Rows.angleRisesRow.ifaces == (Try.f7.params.toList ++ Rows.angleRisesSpec.plain.varTypes Try.prog).any (Try.prog.ifacesRec ·)) = true := by kernel_rfl
theorem k16 : (Rows.angleRisesRow.mapsOut == Try.prog.mapsAmong Try.f7.resultTypes.toList) = true := by kernel_rfl
theorem k17 : (Rows.angleRisesRow.loops == (Try.f7.params.toList ++ Rows.angleRisesSpec.plain.varTypes Try.prog).any (Try.prog.loopsFrom ·)) = true := by kernel_rfl
theorem k18 : (Rows.angleRisesRow.wideKeys == (Try.f7.params.toList ++ Rows.angleRisesSpec.plain.varTypes Try.prog ++ Try.f7.resultTypes.toList).any (Try.prog.wideKeysFrom ·)) = true := by kernel_rfl
theorem k19 : Rows.angleRisesSpec.vars.all (Try.prog.varReadable ·) = true := by kernel_rfl
theorem k20 : Try.f7.resultTypes.all (fun t => Try.prog.readableRec t && decide (t < Try.prog.types.size)) = true := by kernel_rfl
theorem k21 : (Rows.angleRisesRow.ifacesOut == Try.f7.resultTypes.toList.any (Try.prog.ifacesRec ·)) = true := by kernel_rfl
theorem k22 : (Rows.angleRisesRow.loopsOut == Try.f7.resultTypes.toList.any (Try.prog.loopsFrom ·)) = true := by kernel_rfl
theorem k23 : (Rows.angleRisesRow.plainKeys == Try.prog.plainKeys) = true := by kernel_rfl
theorem k24 : Rows.angleRisesRow.shortTexts.isNone = true := by kernel_rfl
theorem k27 : (Rows.angleRisesRow.lifted == Try.prog.liftsFinal) = true := by rw [Go.RX.Seat.lifts]; rfl
theorem k28 : (Try.prog.make == some Rows.angleRisesRow.make) = true := by rw [Go.RX.Seat.make]; rfl
theorem k29 : Go.RX.kindsOk Try.prog Try.f7 Rows.angleRisesRow = true := by kernel_rfl
theorem k30 : (Rows.angleRisesRow.pinned == Rows.angleRisesRow.pinnedBy) = true := by kernel_rfl
theorem k31 : (Rows.angleRisesRow.veiled == (Try.f7.params.toList ++ Rows.angleRisesSpec.plain.varTypes Try.prog ++ Try.f7.resultTypes.toList).any (Try.prog.veiledRec ·)) = true := by kernel_rfl
theorem k32 : Rows.angleRisesRow.veiledFits Try.prog Try.f7.params.toList (Try.f7.params.toList ++ Rows.angleRisesSpec.plain.varTypes Try.prog ++ Try.f7.resultTypes.toList) = true := by kernel_rfl
theorem facts : joinedFacts Try.prog 7 Try.f7 Rows.angleRisesSpec Rows.angleRisesRow = true := Go.RX.facts_of (P := Try.prog) (f := 7) (fn := Try.f7) (s := Rows.angleRisesSpec) (c := Rows.angleRisesRow) k1 Go.RX.Seat.laid Go.RX.Seat.mapsRow k4 k5 k6 Go.RX.Seat.stops k8 Go.RX.Seat.stopKnobs k10 k11 k12 k13 k14 k15 k16 k17 k18 k19 k20 k21 k22 k23 k24 Go.RX.Seat.heard Go.RX.Seat.enter k27 k28 k29 k30 k31 k32

theorem par : Try.f7.params = [3].toArray := by kernel_rfl
theorem res : Try.f7.resultTypes = #[4] := by kernel_rfl
theorem rds : (([3] : List TypeId).all fun t => Try.prog.readableRec t && decide (t < Try.prog.types.size)) = true := by kernel_rfl
theorem tys : Go.RX.tysOk Try.prog 9 [3] [.int .i64] = true := by kernel_rfl
theorem noInit : Try.prog.inits.idxOf? 7 = none := by kernel_rfl
set_option maxRecDepth 100000 in
theorem lifted (os : Os) (started : os.Started) (H : Type) (enc : TypeId × Value → H) :
    ReturnsInHanded {} Try.checked os 7 .any (Rows.angleRisesSpec.pre6 enc Try.prog Try.f7 Rows.angleRisesRow.domain false) (Rows.angleRisesSpec.post enc Try.prog Try.f7 false true false false) :=
  Go.RX.law_lifted (C := Try.checked) (ts := [3]) (As := [.int .i64]) (b := 4) (n := 9) Go.RX.Seat.own started noInit Try.func7 (ChangeSpec.witness6 (enc := enc) (C := Try.checked) false ⟨#[], #[.int .i64 0], []⟩ 8 (by kernel_rfl) (by kernel_rfl) (by kernel_rfl) (by kernel_rfl))
    Go.RX.Seat.laid par rds res Try.underlying4 rfl (fun ds h => match ds, h with
      | [d0], _ => rfl) tys Go.RX.fn_armplanlaw3_AngleRises (fun x ok => by rw [Go.RX.rises_law x.1])

theorem over : Rows.angleRisesRow.holds Try.pinned (OpenSpec.ofChange Rows.angleRisesSpec) :=
  OpenClaim.holds_of_wide 7 Try.f7 rfl rfl rfl rfl rfl rfl rfl ⟨rfl, rfl, rfl, rfl, rfl⟩ rfl rfl rfl rfl rfl (by kernel_rfl) Try.func7 facts
    (of_decide_eq_true (by kernel_rfl)) (by unfold Func.isWrapper; first | (rw [if_pos (by decide +kernel)]; kernel_rfl) | (rw [if_neg (by decide +kernel)]; exact ⟨rfl, rfl⟩))
    (fun os started H enc _ => lifted os started H enc)

/-- THE STATEMENT -/
theorem proved : Rows.AngleRisesSaid :=
  over
end Go.Proofs.Ytlikaaohkecccaa.angleRises

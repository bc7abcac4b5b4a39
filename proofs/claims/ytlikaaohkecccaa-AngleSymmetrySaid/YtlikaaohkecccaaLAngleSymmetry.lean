/-
  armplanlaw3.AngleSymmetry returns true for every input, and leaves the input as it was. No condition.
-/
import Derived.Test.YtlikaaohkecccaaRows
import Derived.Test.YtlikaaohkecccaaRy
import Derived.Test.YtlikaaohkecccaaPd
namespace Go.Proofs.Ytlikaaohkecccaa.angleSymmetry
open Go.ChangeShapes Go.WideShapes Go.ChangeAt Go.RowKit

theorem k1 : Rows.angleSymmetryRow.wf (OpenSpec.ofChange Rows.angleSymmetrySpec) = true := by kernel_rfl
theorem k4 : Try.f5.params.all (Try.prog.readableRec ·) = true := by kernel_rfl
theorem k5 : namedTie Try.prog Rows.angleSymmetryRow.named Rows.angleSymmetrySpec.vars = true := by kernel_rfl
theorem k6 : (Rows.angleSymmetryRow.stops == []) = true := by kernel_rfl
theorem k8 : (Rows.angleSymmetryRow.knobs == []) = true := by kernel_rfl
theorem k10 : (Rows.angleSymmetryRow.inPlace == Try.prog.inPlace 5) = true := by kernel_rfl
theorem k11 : (Rows.angleSymmetryRow.unfollowed == Try.prog.unfollowed 5) = true := by kernel_rfl
theorem k12 : (Rows.angleSymmetryRow.recurses == Try.prog.recurses 5) = true := by kernel_rfl
theorem k13 : (Rows.angleSymmetryRow.named == Try.prog.varsNamed 5) = true := by kernel_rfl
theorem k14 : (Rows.angleSymmetryRow.maps == (Try.f5.params.toList ++ Rows.angleSymmetrySpec.plain.varTypes Try.prog).any (Try.prog.mapsRec ·)) = true := by kernel_rfl
theorem k15 : (Rows.angleSymmetryRow.ifaces == (Try.f5.params.toList ++ Rows.angleSymmetrySpec.plain.varTypes Try.prog).any (Try.prog.ifacesRec ·)) = true := by kernel_rfl
theorem k16 : (Rows.angleSymmetryRow.mapsOut == Try.prog.mapsAmong Try.f5.resultTypes.toList) = true := by kernel_rfl
theorem k17 : (Rows.angleSymmetryRow.loops == (Try.f5.params.toList ++ Rows.angleSymmetrySpec.plain.varTypes Try.prog).any (Try.prog.loopsFrom ·)) = true := by kernel_rfl
theorem k18 : (Rows.angleSymmetryRow.wideKeys == (Try.f5.params.toList ++ Rows.angleSymmetrySpec.plain.varTypes Try.prog ++ Try.f5.resultTypes.toList).any (Try.prog.wideKeysFrom ·)) = true := by kernel_rfl
theorem k19 : Rows.angleSymmetrySpec.vars.all (Try.prog.varReadable ·) = true := by kernel_rfl
theorem k20 : Try.f5.resultTypes.all (fun t => Try.prog.readableRec t && decide (t < Try.prog.types.size)) = true := by kernel_rfl
theorem k21 : (Rows.angleSymmetryRow.ifacesOut == Try.f5.resultTypes.toList.any (Try.prog.ifacesRec ·)) = true := by kernel_rfl
theorem k22 : (Rows.angleSymmetryRow.loopsOut == Try.f5.resultTypes.toList.any (Try.prog.loopsFrom ·)) = true := by kernel_rfl
theorem k23 : (Rows.angleSymmetryRow.plainKeys == Try.prog.plainKeys) = true := by kernel_rfl
theorem k24 : Rows.angleSymmetryRow.shortTexts.isNone = true := by kernel_rfl
theorem k27 : (Rows.angleSymmetryRow.lifted == Try.prog.liftsFinal) = true := by rw [Go.RX.Seat.lifts]; rfl
theorem k28 : (Try.prog.make == some Rows.angleSymmetryRow.make) = true := by rw [Go.RX.Seat.make]; rfl
theorem k29 : Go.RX.kindsOk Try.prog Try.f5 Rows.angleSymmetryRow = true := by kernel_rfl
theorem k30 : (Rows.angleSymmetryRow.pinned == Rows.angleSymmetryRow.pinnedBy) = true := by kernel_rfl
theorem k31 : (Rows.angleSymmetryRow.veiled == (Try.f5.params.toList ++ Rows.angleSymmetrySpec.plain.varTypes Try.prog ++ Try.f5.resultTypes.toList).any (Try.prog.veiledRec ·)) = true := by kernel_rfl
theorem k32 : Rows.angleSymmetryRow.veiledFits Try.prog Try.f5.params.toList (Try.f5.params.toList ++ Rows.angleSymmetrySpec.plain.varTypes Try.prog ++ Try.f5.resultTypes.toList) = true := by kernel_rfl
theorem facts : joinedFacts Try.prog 5 Try.f5 Rows.angleSymmetrySpec Rows.angleSymmetryRow = true := Go.RX.facts_of (P := Try.prog) (f := 5) (fn := Try.f5) (s := Rows.angleSymmetrySpec) (c := Rows.angleSymmetryRow) k1 Go.RX.Seat.laid Go.RX.Seat.mapsRow k4 k5 k6 Go.RX.Seat.stops k8 Go.RX.Seat.stopKnobs k10 k11 k12 k13 k14 k15 k16 k17 k18 k19 k20 k21 k22 k23 k24 Go.RX.Seat.heard Go.RX.Seat.enter k27 k28 k29 k30 k31 k32

theorem par : Try.f5.params = [3].toArray := by kernel_rfl
theorem res : Try.f5.resultTypes = #[4] := by kernel_rfl
theorem rds : (([3] : List TypeId).all fun t => Try.prog.readableRec t && decide (t < Try.prog.types.size)) = true := by kernel_rfl
theorem tys : Go.RX.tysOk Try.prog 9 [3] [.int .i64] = true := by kernel_rfl
theorem noInit : Try.prog.inits.idxOf? 5 = none := by kernel_rfl
set_option maxRecDepth 100000 in
theorem lifted (os : Os) (started : os.Started) (H : Type) (enc : TypeId × Value → H) :
    ReturnsInHanded {} Try.checked os 5 .any (Rows.angleSymmetrySpec.pre6 enc Try.prog Try.f5 Rows.angleSymmetryRow.domain false) (Rows.angleSymmetrySpec.post enc Try.prog Try.f5 false true false false) :=
  Go.RX.law_lifted (C := Try.checked) (ts := [3]) (As := [.int .i64]) (b := 4) (n := 9) Go.RX.Seat.own started noInit Try.func5 (ChangeSpec.witness6 (enc := enc) (C := Try.checked) false ⟨#[], #[.int .i64 0], []⟩ 8 (by kernel_rfl) (by kernel_rfl) (by kernel_rfl) (by kernel_rfl))
    Go.RX.Seat.laid par rds res Try.underlying4 rfl (fun ds h => match ds, h with
      | [d0], _ => rfl) tys Go.RX.fn_armplanlaw3_AngleSymmetry (fun x ok => by rw [Go.RX.symmetry_law x.1])

theorem over : Rows.angleSymmetryRow.holds Try.pinned (OpenSpec.ofChange Rows.angleSymmetrySpec) :=
  OpenClaim.holds_of_wide 5 Try.f5 rfl rfl rfl rfl rfl rfl rfl ⟨rfl, rfl, rfl, rfl, rfl⟩ rfl rfl rfl rfl rfl (by kernel_rfl) Try.func5 facts
    (of_decide_eq_true (by kernel_rfl)) (by unfold Func.isWrapper; first | (rw [if_pos (by decide +kernel)]; kernel_rfl) | (rw [if_neg (by decide +kernel)]; exact ⟨rfl, rfl⟩))
    (fun os started H enc _ => lifted os started H enc)

/-- THE STATEMENT -/
theorem proved : Rows.AngleSymmetrySaid :=
  over
end Go.Proofs.Ytlikaaohkecccaa.angleSymmetry

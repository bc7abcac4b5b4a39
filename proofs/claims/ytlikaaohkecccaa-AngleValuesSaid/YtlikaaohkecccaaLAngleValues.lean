/-
  armplanlaw3.AngleValues returns true for every input, and leaves the input as it was. No condition.
-/
import Derived.Test.YtlikaaohkecccaaRows
import Derived.Test.YtlikaaohkecccaaRy
import Derived.Test.YtlikaaohkecccaaPf
namespace Go.Proofs.Ytlikaaohkecccaa.angleValues
open Go.ChangeShapes Go.WideShapes Go.ChangeAt Go.RowKit

theorem k1 : Rows.angleValuesRow.wf (OpenSpec.ofChange Rows.angleValuesSpec) = true := by kernel_rfl
theorem k4 : Try.f4.params.all (Try.prog.readableRec ·) = true := by kernel_rfl
theorem k5 : namedTie Try.prog Rows.angleValuesRow.named Rows.angleValuesSpec.vars = true := by kernel_rfl
theorem k6 : (Rows.angleValuesRow.stops == []) = true := by kernel_rfl
theorem k8 : (Rows.angleValuesRow.knobs == []) = true := by kernel_rfl
theorem k10 : (Rows.angleValuesRow.inPlace == Try.prog.inPlace 4) = true := by kernel_rfl
theorem k11 : (Rows.angleValuesRow.unfollowed == Try.prog.unfollowed 4) = true := by kernel_rfl
theorem k12 : (Rows.angleValuesRow.recurses == Try.prog.recurses 4) = true := by kernel_rfl
theorem k13 : (Rows.angleValuesRow.named == Try.prog.varsNamed 4) = true := by kernel_rfl
theorem k14 : (Rows.angleValuesRow.maps == (Try.f4.params.toList ++ Rows.angleValuesSpec.plain.varTypes Try.prog).any (Try.prog.mapsRec ·)) = true := by kernel_rfl
theorem k15 : (Rows.angleValuesRow.ifaces == (Try.f4.params.toList ++ Rows.angleValuesSpec.plain.varTypes Try.prog).any (Try.prog.ifacesRec ·)) = true := by kernel_rfl
theorem k16 : (Rows.angleValuesRow.mapsOut == Try.prog.mapsAmong Try.f4.resultTypes.toList) = true := by kernel_rfl
theorem k17 : (Rows.angleValuesRow.loops == (Try.f4.params.toList ++ Rows.angleValuesSpec.plain.varTypes Try.prog).any (Try.prog.loopsFrom ·)) = true := by kernel_rfl
theorem k18 : (Rows.angleValuesRow.wideKeys == (Try.f4.params.toList ++ Rows.angleValuesSpec.plain.varTypes Try.prog ++ Try.f4.resultTypes.toList).any (Try.prog.wideKeysFrom ·)) = true := by kernel_rfl
theorem k19 : Rows.angleValuesSpec.vars.all (Try.prog.varReadable ·) = true := by kernel_rfl
theorem k20 : Try.f4.resultTypes.all (fun t => Try.prog.readableRec t && decide (t < Try.prog.types.size)) = true := by kernel_rfl
theorem k21 : (Rows.angleValuesRow.ifacesOut == Try.f4.resultTypes.toList.any (Try.prog.ifacesRec ·)) = true := by kernel_rfl
theorem k22 : (Rows.angleValuesRow.loopsOut == Try.f4.resultTypes.toList.any (Try.prog.loopsFrom ·)) = true := by kernel_rfl
theorem k23 : (Rows.angleValuesRow.plainKeys == Try.prog.plainKeys) = true := by kernel_rfl
theorem k24 : Rows.angleValuesRow.shortTexts.isNone = true := by kernel_rfl
theorem k27 : (Rows.angleValuesRow.lifted == Try.prog.liftsFinal) = true := by rw [Go.RX.Seat.lifts]; rfl
theorem k28 : (Try.prog.make == some Rows.angleValuesRow.make) = true := by rw [Go.RX.Seat.make]; rfl
theorem k29 : Go.RX.kindsOk Try.prog Try.f4 Rows.angleValuesRow = true := by kernel_rfl
theorem k30 : (Rows.angleValuesRow.pinned == Rows.angleValuesRow.pinnedBy) = true := by kernel_rfl
theorem k31 : (Rows.angleValuesRow.veiled == (Try.f4.params.toList ++ Rows.angleValuesSpec.plain.varTypes Try.prog ++ Try.f4.resultTypes.toList).any (Try.prog.veiledRec ·)) = true := by kernel_rfl
theorem k32 : Rows.angleValuesRow.veiledFits Try.prog Try.f4.params.toList (Try.f4.params.toList ++ Rows.angleValuesSpec.plain.varTypes Try.prog ++ Try.f4.resultTypes.toList) = true := by kernel_rfl
theorem facts : joinedFacts Try.prog 4 Try.f4 Rows.angleValuesSpec Rows.angleValuesRow = true := Go.RX.facts_of (P := Try.prog) (f := 4) (fn := Try.f4) (s := Rows.angleValuesSpec) (c := Rows.angleValuesRow) k1 Go.RX.Seat.laid Go.RX.Seat.mapsRow k4 k5 k6 Go.RX.Seat.stops k8 Go.RX.Seat.stopKnobs k10 k11 k12 k13 k14 k15 k16 k17 k18 k19 k20 k21 k22 k23 k24 Go.RX.Seat.heard Go.RX.Seat.enter k27 k28 k29 k30 k31 k32

theorem par : Try.f4.params = [2, 3].toArray := by kernel_rfl
theorem res : Try.f4.resultTypes = #[4] := by kernel_rfl
theorem rds : (([2, 3] : List TypeId).all fun t => Try.prog.readableRec t && decide (t < Try.prog.types.size)) = true := by kernel_rfl
theorem tys : Go.RX.tysOk Try.prog 9 [2, 3] [.int .i64, .int .i64] = true := by kernel_rfl
theorem noInit : Try.prog.inits.idxOf? 4 = none := by kernel_rfl
set_option maxRecDepth 100000 in
theorem lifted (os : Os) (started : os.Started) (H : Type) (enc : TypeId × Value → H) :
    ReturnsInHanded {} Try.checked os 4 .any (Rows.angleValuesSpec.pre6 enc Try.prog Try.f4 Rows.angleValuesRow.domain false) (Rows.angleValuesSpec.post enc Try.prog Try.f4 false true false false) :=
  Go.RX.law_lifted (C := Try.checked) (ts := [2, 3]) (As := [.int .i64, .int .i64]) (b := 4) (n := 9) Go.RX.Seat.own started noInit Try.func4 (ChangeSpec.witness6 (enc := enc) (C := Try.checked) false ⟨#[], #[.int .i64 0, .int .i64 0], []⟩ 8 (by kernel_rfl) (by kernel_rfl) (by kernel_rfl) (by kernel_rfl))
    Go.RX.Seat.laid par rds res Try.underlying4 rfl (fun ds h => match ds, h with
      | [d0, d1], _ => rfl) tys Go.RX.fn_armplanlaw3_AngleValues (fun x ok => by rw [Go.RX.values_law x.1 x.2.1])

theorem over : Rows.angleValuesRow.holds Try.pinned (OpenSpec.ofChange Rows.angleValuesSpec) :=
  OpenClaim.holds_of_wide 4 Try.f4 rfl rfl rfl rfl rfl rfl rfl ⟨rfl, rfl, rfl, rfl, rfl⟩ rfl rfl rfl rfl rfl (by kernel_rfl) Try.func4 facts
    (of_decide_eq_true (by kernel_rfl)) (by unfold Func.isWrapper; first | (rw [if_pos (by decide +kernel)]; kernel_rfl) | (rw [if_neg (by decide +kernel)]; exact ⟨rfl, rfl⟩))
    (fun os started H enc _ => lifted os started H enc)

/-- THE STATEMENT -/
theorem proved : Rows.AngleValuesSaid :=
  over
end Go.Proofs.Ytlikaaohkecccaa.angleValues

/-
  armplanlaw5.PoseShifts returns true for every input, and leaves the input as it was. No condition.
-/
import Derived.Test.YtkekddbdbfdjeaaRows
import Derived.Test.YtkekddbdbfdjeaaRy
import Derived.Test.YtkekddbdbfdjeaaMf
namespace Go.Proofs.Ytkekddbdbfdjeaa.poseShifts
open Go.ChangeShapes Go.WideShapes Go.ChangeAt Go.RowKit

theorem k1 : Rows.poseShiftsRow.wf (OpenSpec.ofChange Rows.poseShiftsSpec) = true := by kernel_rfl
theorem k4 : Try.f6.params.all (Try.prog.readableRec ·) = true := by kernel_rfl
theorem k5 : namedTie Try.prog Rows.poseShiftsRow.named Rows.poseShiftsSpec.vars = true := by kernel_rfl
theorem k6 : (Rows.poseShiftsRow.stops == []) = true := by kernel_rfl
theorem k8 : (Rows.poseShiftsRow.knobs == []) = true := by kernel_rfl
theorem k10 : (Rows.poseShiftsRow.inPlace == Try.prog.inPlace 6) = true := by kernel_rfl
theorem k11 : (Rows.poseShiftsRow.unfollowed == Try.prog.unfollowed 6) = true := by kernel_rfl
theorem k12 : (Rows.poseShiftsRow.recurses == Try.prog.recurses 6) = true := by kernel_rfl
theorem k13 : (Rows.poseShiftsRow.named == Try.prog.varsNamed 6) = true := by kernel_rfl
theorem k14 : (Rows.poseShiftsRow.maps == (Try.f6.params.toList ++ Rows.poseShiftsSpec.plain.varTypes Try.prog).any (Try.prog.mapsRec ·)) = true := by kernel_rfl
theorem k15 : (Rows.poseShiftsRow.ifaces == (Try.f6.params.toList ++ Rows.poseShiftsSpec.plain.varTypes Try.prog).any (Try.prog.ifacesRec ·)) = true := by kernel_rfl
theorem k16 : (Rows.poseShiftsRow.mapsOut == Try.prog.mapsAmong Try.f6.resultTypes.toList) = true := by kernel_rfl
theorem k17 : (Rows.poseShiftsRow.loops == (Try.f6.params.toList ++ Rows.poseShiftsSpec.plain.varTypes Try.prog).any (Try.prog.loopsFrom ·)) = true := by kernel_rfl
theorem k18 : (Rows.poseShiftsRow.wideKeys == (Try.f6.params.toList ++ Rows.poseShiftsSpec.plain.varTypes Try.prog ++ Try.f6.resultTypes.toList).any (Try.prog.wideKeysFrom ·)) = true := by kernel_rfl
theorem k19 : Rows.poseShiftsSpec.vars.all (Try.prog.varReadable ·) = true := by kernel_rfl
theorem k20 : Try.f6.resultTypes.all (fun t => Try.prog.readableRec t && decide (t < Try.prog.types.size)) = true := by kernel_rfl
theorem k21 : (Rows.poseShiftsRow.ifacesOut == Try.f6.resultTypes.toList.any (Try.prog.ifacesRec ·)) = true := by kernel_rfl
theorem k22 : (Rows.poseShiftsRow.loopsOut == Try.f6.resultTypes.toList.any (Try.prog.loopsFrom ·)) = true := by kernel_rfl
theorem k23 : (Rows.poseShiftsRow.plainKeys == Try.prog.plainKeys) = true := by kernel_rfl
theorem k24 : Rows.poseShiftsRow.shortTexts.isNone = true := by kernel_rfl
theorem k27 : (Rows.poseShiftsRow.lifted == Try.prog.liftsFinal) = true := by rw [Go.RX.Seat.lifts]; rfl
theorem k28 : (Try.prog.make == some Rows.poseShiftsRow.make) = true := by rw [Go.RX.Seat.make]; rfl
theorem k29 : Go.RX.kindsOk Try.prog Try.f6 Rows.poseShiftsRow = true := by kernel_rfl
theorem k30 : (Rows.poseShiftsRow.pinned == Rows.poseShiftsRow.pinnedBy) = true := by kernel_rfl
theorem k31 : (Rows.poseShiftsRow.veiled == (Try.f6.params.toList ++ Rows.poseShiftsSpec.plain.varTypes Try.prog ++ Try.f6.resultTypes.toList).any (Try.prog.veiledRec ·)) = true := by kernel_rfl
theorem k32 : Rows.poseShiftsRow.veiledFits Try.prog Try.f6.params.toList (Try.f6.params.toList ++ Rows.poseShiftsSpec.plain.varTypes Try.prog ++ Try.f6.resultTypes.toList) = true := by kernel_rfl
theorem facts : joinedFacts Try.prog 6 Try.f6 Rows.poseShiftsSpec Rows.poseShiftsRow = true := Go.RX.facts_of (P := Try.prog) (f := 6) (fn := Try.f6) (s := Rows.poseShiftsSpec) (c := Rows.poseShiftsRow) k1 Go.RX.Seat.laid Go.RX.Seat.mapsRow k4 k5 k6 Go.RX.Seat.stops k8 Go.RX.Seat.stopKnobs k10 k11 k12 k13 k14 k15 k16 k17 k18 k19 k20 k21 k22 k23 k24 Go.RX.Seat.heard Go.RX.Seat.enter k27 k28 k29 k30 k31 k32

theorem par : Try.f6.params = [32, 32, 22].toArray := by kernel_rfl
theorem res : Try.f6.resultTypes = #[4] := by kernel_rfl
theorem rds : (([32, 32, 22] : List TypeId).all fun t => Try.prog.readableRec t && decide (t < Try.prog.types.size)) = true := by kernel_rfl
theorem tys : Go.RX.tysOk Try.prog 9 [32, 32, 22] [.pair (.int .i64) (.pair (.int .i64) (.int .i64)), .pair (.int .i64) (.pair (.int .i64) (.int .i64)), .list (.int .i64)] = true := by kernel_rfl
theorem noInit : Try.prog.inits.idxOf? 6 = none := by kernel_rfl
set_option maxRecDepth 100000 in
theorem lifted (os : Os) (started : os.Started) (H : Type) (enc : TypeId × Value → H) :
    ReturnsInHanded {} Try.checked os 6 .any (Rows.poseShiftsSpec.pre6 enc Try.prog Try.f6 Rows.poseShiftsRow.domain false) (Rows.poseShiftsSpec.post enc Try.prog Try.f6 false true false false) :=
  Go.RX.law_lifted (C := Try.checked) (ts := [32, 32, 22]) (As := [.pair (.int .i64) (.pair (.int .i64) (.int .i64)), .pair (.int .i64) (.pair (.int .i64) (.int .i64)), .list (.int .i64)]) (b := 4) (n := 9) Go.RX.Seat.own started noInit Try.func6 (ChangeSpec.witness6 (enc := enc) (C := Try.checked) false ⟨#[], #[.agg #[.int .i64 0, .int .i64 0, .int .i64 0], .agg #[.int .i64 0, .int .i64 0, .int .i64 0], .slice none 0 0], []⟩ 8 (by kernel_rfl) (by kernel_rfl) (by kernel_rfl) (by kernel_rfl))
    Go.RX.Seat.laid par rds res Try.underlying4 rfl (fun ds h => match ds, h with
      | [d0, d1, d2], _ => rfl) tys Go.RX.fn_armplanlaw5_PoseShifts (fun x ok => by have h := Go.RX.shifts_law x.1 x.2.1 ok.2.2.1.1; rw [h.1, h.2]; rfl)

theorem over : Rows.poseShiftsRow.holds Try.pinned (OpenSpec.ofChange Rows.poseShiftsSpec) :=
  OpenClaim.holds_of_wide 6 Try.f6 rfl rfl rfl rfl rfl rfl rfl ⟨rfl, rfl, rfl, rfl, rfl⟩ rfl rfl rfl rfl rfl (by kernel_rfl) Try.func6 facts
    (of_decide_eq_true (by kernel_rfl)) (by unfold Func.isWrapper; first | (rw [if_pos (by decide +kernel)]; kernel_rfl) | (rw [if_neg (by decide +kernel)]; exact ⟨rfl, rfl⟩))
    (fun os started H enc _ => lifted os started H enc)

/-- THE STATEMENT -/
theorem proved : Rows.PoseShiftsSaid :=
  over
end Go.Proofs.Ytkekddbdbfdjeaa.poseShifts

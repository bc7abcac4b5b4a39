/-
  armplanlaw11.KinematicsJoints returns true for every input, and leaves the input as it was. No condition.
-/
import Derived.Test.YtkekddbdbfdjeaaRows
import Derived.Test.YtkekddbdbfdjeaaRy
import Derived.Test.YtkekddbdbfdjeaaG8
namespace Go.Proofs.Ytkekddbdbfdjeaa.kinematicsJoints
open Go.ChangeShapes Go.WideShapes Go.ChangeAt Go.RowKit

theorem k1 : Rows.kinematicsJointsRow.wf (OpenSpec.ofChange Rows.kinematicsJointsSpec) = true := by kernel_rfl
theorem k4 : Try.f9.params.all (Try.prog.readableRec ·) = true := by kernel_rfl
theorem k5 : namedTie Try.prog Rows.kinematicsJointsRow.named Rows.kinematicsJointsSpec.vars = true := by kernel_rfl
theorem k6 : (Rows.kinematicsJointsRow.stops == []) = true := by kernel_rfl
theorem k8 : (Rows.kinematicsJointsRow.knobs == []) = true := by kernel_rfl
theorem k10 : (Rows.kinematicsJointsRow.inPlace == Try.prog.inPlace 9) = true := by kernel_rfl
theorem k11 : (Rows.kinematicsJointsRow.unfollowed == Try.prog.unfollowed 9) = true := by kernel_rfl
theorem k12 : (Rows.kinematicsJointsRow.recurses == Try.prog.recurses 9) = true := by kernel_rfl
theorem k13 : (Rows.kinematicsJointsRow.named == Try.prog.varsNamed 9) = true := by kernel_rfl
theorem k14 : (Rows.kinematicsJointsRow.maps == (Try.f9.params.toList ++ Rows.kinematicsJointsSpec.plain.varTypes Try.prog).any (Try.prog.mapsRec ·)) = true := by kernel_rfl
theorem k15 : (Rows.kinematicsJointsRow.ifaces == (Try.f9.params.toList ++ Rows.kinematicsJointsSpec.plain.varTypes Try.prog).any (Try.prog.ifacesRec ·)) = true := by kernel_rfl
theorem k16 : (Rows.kinematicsJointsRow.mapsOut == Try.prog.mapsAmong Try.f9.resultTypes.toList) = true := by kernel_rfl
theorem k17 : (Rows.kinematicsJointsRow.loops == (Try.f9.params.toList ++ Rows.kinematicsJointsSpec.plain.varTypes Try.prog).any (Try.prog.loopsFrom ·)) = true := by kernel_rfl
theorem k18 : (Rows.kinematicsJointsRow.wideKeys == (Try.f9.params.toList ++ Rows.kinematicsJointsSpec.plain.varTypes Try.prog ++ Try.f9.resultTypes.toList).any (Try.prog.wideKeysFrom ·)) = true := by kernel_rfl
theorem k19 : Rows.kinematicsJointsSpec.vars.all (Try.prog.varReadable ·) = true := by kernel_rfl
theorem k20 : Try.f9.resultTypes.all (fun t => Try.prog.readableRec t && decide (t < Try.prog.types.size)) = true := by kernel_rfl
theorem k21 : (Rows.kinematicsJointsRow.ifacesOut == Try.f9.resultTypes.toList.any (Try.prog.ifacesRec ·)) = true := by kernel_rfl
theorem k22 : (Rows.kinematicsJointsRow.loopsOut == Try.f9.resultTypes.toList.any (Try.prog.loopsFrom ·)) = true := by kernel_rfl
theorem k23 : (Rows.kinematicsJointsRow.plainKeys == Try.prog.plainKeys) = true := by kernel_rfl
theorem k24 : Rows.kinematicsJointsRow.shortTexts.isNone = true := by kernel_rfl
theorem k27 : (Rows.kinematicsJointsRow.lifted == Try.prog.liftsFinal) = true := by rw [Go.RX.Seat.lifts]; rfl
theorem k28 : (Try.prog.make == some Rows.kinematicsJointsRow.make) = true := by rw [Go.RX.Seat.make]; rfl
theorem k29 : Go.RX.kindsOk Try.prog Try.f9 Rows.kinematicsJointsRow = true := by kernel_rfl
theorem k30 : (Rows.kinematicsJointsRow.pinned == Rows.kinematicsJointsRow.pinnedBy) = true := by kernel_rfl
theorem k31 : (Rows.kinematicsJointsRow.veiled == (Try.f9.params.toList ++ Rows.kinematicsJointsSpec.plain.varTypes Try.prog ++ Try.f9.resultTypes.toList).any (Try.prog.veiledRec ·)) = true := by kernel_rfl
theorem k32 : Rows.kinematicsJointsRow.veiledFits Try.prog Try.f9.params.toList (Try.f9.params.toList ++ Rows.kinematicsJointsSpec.plain.varTypes Try.prog ++ Try.f9.resultTypes.toList) = true := by kernel_rfl
theorem facts : joinedFacts Try.prog 9 Try.f9 Rows.kinematicsJointsSpec Rows.kinematicsJointsRow = true := Go.RX.facts_of (P := Try.prog) (f := 9) (fn := Try.f9) (s := Rows.kinematicsJointsSpec) (c := Rows.kinematicsJointsRow) k1 Go.RX.Seat.laid Go.RX.Seat.mapsRow k4 k5 k6 Go.RX.Seat.stops k8 Go.RX.Seat.stopKnobs k10 k11 k12 k13 k14 k15 k16 k17 k18 k19 k20 k21 k22 k23 k24 Go.RX.Seat.heard Go.RX.Seat.enter k27 k28 k29 k30 k31 k32

theorem par : Try.f9.params = [62, 26, 22, 3].toArray := by kernel_rfl
theorem res : Try.f9.resultTypes = #[4] := by kernel_rfl
theorem rds : (([62, 26, 22, 3] : List TypeId).all fun t => Try.prog.readableRec t && decide (t < Try.prog.types.size)) = true := by kernel_rfl
theorem tys : Go.RX.tysOk Try.prog 9 [62, 26, 22, 3] [.pair (.str) (.pair (.int .i64) (.pair (.int .i64) (.pair (.pair (.int .i64) (.pair (.int .i64) (.int .i64))) (.pair (.int .i64) (.pair (.int .i64) (.pair (.int .i64) (.pair (.int .i64) (.pair (.int .i64) (.int .i64))))))))), .pair (.int .i64) (.int .i64), .list (.int .i64), .int .i64] = true := by kernel_rfl
theorem noInit : Try.prog.inits.idxOf? 9 = none := by kernel_rfl
set_option maxRecDepth 100000 in
theorem lifted (os : Os) (started : os.Started) (H : Type) (enc : TypeId × Value → H) :
    ReturnsInHanded {} Try.checked os 9 .any (Rows.kinematicsJointsSpec.pre6 enc Try.prog Try.f9 Rows.kinematicsJointsRow.domain false) (Rows.kinematicsJointsSpec.post enc Try.prog Try.f9 false true false false) :=
  Go.RX.law_lifted (C := Try.checked) (ts := [62, 26, 22, 3]) (As := [.pair (.str) (.pair (.int .i64) (.pair (.int .i64) (.pair (.pair (.int .i64) (.pair (.int .i64) (.int .i64))) (.pair (.int .i64) (.pair (.int .i64) (.pair (.int .i64) (.pair (.int .i64) (.pair (.int .i64) (.int .i64))))))))), .pair (.int .i64) (.int .i64), .list (.int .i64), .int .i64]) (b := 4) (n := 9) Go.RX.Seat.own started noInit Try.func9 (ChangeSpec.witness6 (enc := enc) (C := Try.checked) false ⟨#[], #[.agg #[.string (ByteArray.mk #[]), .int .i64 0, .int .i64 0, .int .i64 0, .int .i64 0, .int .i64 0, .int .i64 0, .int .i64 0, .int .i64 0, .int .i64 0, .int .i64 0, .int .i64 0], .agg #[.int .i64 0, .int .i64 0], .slice none 0 0, .int .i64 0], []⟩ 8 (by kernel_rfl) (by kernel_rfl) (by kernel_rfl) (by kernel_rfl))
    Go.RX.Seat.laid par rds res Try.underlying4 rfl (fun ds h => match ds, h with
      | [d0, d1, d2, d3], _ => rfl) tys Go.RX.fn_armplanlaw11_KinematicsJoints (fun x ok => by have h := Go.RX.joints_law x.1 x.2.1 ok.2.2.1.1 x.2.2.2.1; rw [h.1, h.2]; rfl)

theorem over : Rows.kinematicsJointsRow.holds Try.pinned (OpenSpec.ofChange Rows.kinematicsJointsSpec) :=
  OpenClaim.holds_of_wide 9 Try.f9 rfl rfl rfl rfl rfl rfl rfl ⟨rfl, rfl, rfl, rfl, rfl⟩ rfl rfl rfl rfl rfl (by kernel_rfl) Try.func9 facts
    (of_decide_eq_true (by kernel_rfl)) (by unfold Func.isWrapper; first | (rw [if_pos (by decide +kernel)]; kernel_rfl) | (rw [if_neg (by decide +kernel)]; exact ⟨rfl, rfl⟩))
    (fun os started H enc _ => lifted os started H enc)

/-- THE STATEMENT -/
theorem proved : Rows.KinematicsJointsSaid :=
  over
end Go.Proofs.Ytkekddbdbfdjeaa.kinematicsJoints

/-
  armplanlaw5.PoseInverse returns true for every input, and leaves the input as it was. No condition.
-/
import Derived.Test.YtkekddbdbfdjeaaRows
import Derived.Test.YtkekddbdbfdjeaaRy
import Derived.Test.YtkekddbdbfdjeaaMi
namespace Go.Proofs.Ytkekddbdbfdjeaa.poseInverse
open Go.ChangeShapes Go.WideShapes Go.ChangeAt Go.RowKit

theorem k1 : Rows.poseInverseRow.wf (OpenSpec.ofChange Rows.poseInverseSpec) = true := by kernel_rfl
theorem k4 : Try.f12.params.all (Try.prog.readableRec ·) = true := by kernel_rfl
theorem k5 : namedTie Try.prog Rows.poseInverseRow.named Rows.poseInverseSpec.vars = true := by kernel_rfl
theorem k6 : (Rows.poseInverseRow.stops == []) = true := by kernel_rfl
theorem k8 : (Rows.poseInverseRow.knobs == []) = true := by kernel_rfl
theorem k10 : (Rows.poseInverseRow.inPlace == Try.prog.inPlace 12) = true := by kernel_rfl
theorem k11 : (Rows.poseInverseRow.unfollowed == Try.prog.unfollowed 12) = true := by kernel_rfl
theorem k12 : (Rows.poseInverseRow.recurses == Try.prog.recurses 12) = true := by kernel_rfl
theorem k13 : (Rows.poseInverseRow.named == Try.prog.varsNamed 12) = true := by kernel_rfl
theorem k14 : (Rows.poseInverseRow.maps == (Try.f12.params.toList ++ Rows.poseInverseSpec.plain.varTypes Try.prog).any (Try.prog.mapsRec ·)) = true := by kernel_rfl
theorem k15 : (Rows.poseInverseRow.ifaces == (Try.f12.params.toList ++ Rows.poseInverseSpec.plain.varTypes Try.prog).any (Try.prog.ifacesRec ·)) = true := by kernel_rfl
theorem k16 : (Rows.poseInverseRow.mapsOut == Try.prog.mapsAmong Try.f12.resultTypes.toList) = true := by kernel_rfl
theorem k17 : (Rows.poseInverseRow.loops == (Try.f12.params.toList ++ Rows.poseInverseSpec.plain.varTypes Try.prog).any (Try.prog.loopsFrom ·)) = true := by kernel_rfl
theorem k18 : (Rows.poseInverseRow.wideKeys == (Try.f12.params.toList ++ Rows.poseInverseSpec.plain.varTypes Try.prog ++ Try.f12.resultTypes.toList).any (Try.prog.wideKeysFrom ·)) = true := by kernel_rfl
theorem k19 : Rows.poseInverseSpec.vars.all (Try.prog.varReadable ·) = true := by kernel_rfl
theorem k20 : Try.f12.resultTypes.all (fun t => Try.prog.readableRec t && decide (t < Try.prog.types.size)) = true := by kernel_rfl
theorem k21 : (Rows.poseInverseRow.ifacesOut == Try.f12.resultTypes.toList.any (Try.prog.ifacesRec ·)) = true := by kernel_rfl
theorem k22 : (Rows.poseInverseRow.loopsOut == Try.f12.resultTypes.toList.any (Try.prog.loopsFrom ·)) = true := by kernel_rfl
theorem k23 : (Rows.poseInverseRow.plainKeys == Try.prog.plainKeys) = true := by kernel_rfl
theorem k24 : Rows.poseInverseRow.shortTexts.isNone = true := by kernel_rfl
theorem k27 : (Rows.poseInverseRow.lifted == Try.prog.liftsFinal) = true := by rw [Go.RX.Seat.lifts]; rfl
theorem k28 : (Try.prog.make == some Rows.poseInverseRow.make) = true := by rw [Go.RX.Seat.make]; rfl
theorem k29 : Go.RX.kindsOk Try.prog Try.f12 Rows.poseInverseRow = true := by kernel_rfl
theorem k30 : (Rows.poseInverseRow.pinned == Rows.poseInverseRow.pinnedBy) = true := by kernel_rfl
theorem k31 : (Rows.poseInverseRow.veiled == (Try.f12.params.toList ++ Rows.poseInverseSpec.plain.varTypes Try.prog ++ Try.f12.resultTypes.toList).any (Try.prog.veiledRec ·)) = true := by kernel_rfl
theorem k32 : Rows.poseInverseRow.veiledFits Try.prog Try.f12.params.toList (Try.f12.params.toList ++ Rows.poseInverseSpec.plain.varTypes Try.prog ++ Try.f12.resultTypes.toList) = true := by kernel_rfl
theorem facts : joinedFacts Try.prog 12 Try.f12 Rows.poseInverseSpec Rows.poseInverseRow = true := Go.RX.facts_of (P := Try.prog) (f := 12) (fn := Try.f12) (s := Rows.poseInverseSpec) (c := Rows.poseInverseRow) k1 Go.RX.Seat.laid Go.RX.Seat.mapsRow k4 k5 k6 Go.RX.Seat.stops k8 Go.RX.Seat.stopKnobs k10 k11 k12 k13 k14 k15 k16 k17 k18 k19 k20 k21 k22 k23 k24 Go.RX.Seat.heard Go.RX.Seat.enter k27 k28 k29 k30 k31 k32

theorem par : Try.f12.params = [22, 4].toArray := by kernel_rfl
theorem res : Try.f12.resultTypes = #[4] := by kernel_rfl
theorem rds : (([22, 4] : List TypeId).all fun t => Try.prog.readableRec t && decide (t < Try.prog.types.size)) = true := by kernel_rfl
theorem tys : Go.RX.tysOk Try.prog 9 [22, 4] [.list (.int .i64), .bool] = true := by kernel_rfl
theorem noInit : Try.prog.inits.idxOf? 12 = none := by kernel_rfl
set_option maxRecDepth 100000 in
theorem lifted (os : Os) (started : os.Started) (H : Type) (enc : TypeId × Value → H) :
    ReturnsInHanded {} Try.checked os 12 .any (Rows.poseInverseSpec.pre6 enc Try.prog Try.f12 Rows.poseInverseRow.domain false) (Rows.poseInverseSpec.post enc Try.prog Try.f12 false true false false) :=
  Go.RX.law_lifted (C := Try.checked) (ts := [22, 4]) (As := [.list (.int .i64), .bool]) (b := 4) (n := 9) Go.RX.Seat.own started noInit Try.func12 (ChangeSpec.witness6 (enc := enc) (C := Try.checked) false ⟨#[], #[.slice none 0 0, .bool false], []⟩ 8 (by kernel_rfl) (by kernel_rfl) (by kernel_rfl) (by kernel_rfl))
    Go.RX.Seat.laid par rds res Try.underlying4 rfl (fun ds h => match ds, h with
      | [d0, d1], _ => rfl) tys Go.RX.fn_armplanlaw5_PoseInverse (fun x ok => by have h := Go.RX.pinverse_law ok.1.1 x.2.1; rw [h.1, h.2]; rfl)

theorem over : Rows.poseInverseRow.holds Try.pinned (OpenSpec.ofChange Rows.poseInverseSpec) :=
  OpenClaim.holds_of_wide 12 Try.f12 rfl rfl rfl rfl rfl rfl rfl ⟨rfl, rfl, rfl, rfl, rfl⟩ rfl rfl rfl rfl rfl (by kernel_rfl) Try.func12 facts
    (of_decide_eq_true (by kernel_rfl)) (by unfold Func.isWrapper; first | (rw [if_pos (by decide +kernel)]; kernel_rfl) | (rw [if_neg (by decide +kernel)]; exact ⟨rfl, rfl⟩))
    (fun os started H enc _ => lifted os started H enc)

/-- THE STATEMENT -/
theorem proved : Rows.PoseInverseSaid :=
  over
end Go.Proofs.Ytkekddbdbfdjeaa.poseInverse

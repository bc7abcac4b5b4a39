/-
  armplanlaw5.PoseMonotone returns true for every input, and leaves the input as it was. No condition.
-/
import Derived.Test.YtkekddbdbfdjeaaRows
import Derived.Test.YtkekddbdbfdjeaaRy
import Derived.Test.YtkekddbdbfdjeaaMi
namespace Go.Proofs.Ytkekddbdbfdjeaa.poseMonotone
open Go.ChangeShapes Go.WideShapes Go.ChangeAt Go.RowKit

theorem k1 : Rows.poseMonotoneRow.wf (OpenSpec.ofChange Rows.poseMonotoneSpec) = true := by kernel_rfl
theorem k4 : Try.f11.params.all (Try.prog.readableRec ·) = true := by kernel_rfl
theorem k5 : namedTie Try.prog Rows.poseMonotoneRow.named Rows.poseMonotoneSpec.vars = true := by kernel_rfl
theorem k6 : (Rows.poseMonotoneRow.stops == []) = true := by kernel_rfl
theorem k8 : (Rows.poseMonotoneRow.knobs == []) = true := by kernel_rfl
theorem k10 : (Rows.poseMonotoneRow.inPlace == Try.prog.inPlace 11) = true := by kernel_rfl
theorem k11 : (Rows.poseMonotoneRow.unfollowed == Try.prog.unfollowed 11) = true := by kernel_rfl
theorem k12 : (Rows.poseMonotoneRow.recurses == Try.prog.recurses 11) = true := by kernel_rfl
theorem k13 : (Rows.poseMonotoneRow.named == Try.prog.varsNamed 11) = true := by kernel_rfl
theorem k14 : (Rows.poseMonotoneRow.maps == (Try.f11.params.toList ++ Rows.poseMonotoneSpec.plain.varTypes Try.prog).any (Try.prog.mapsRec ·)) = true := by kernel_rfl
theorem k15 : (Rows.poseMonotoneRow.ifaces == (Try.f11.params.toList ++ Rows.poseMonotoneSpec.plain.varTypes Try.prog).any (Try.prog.ifacesRec ·)) = true := by kernel_rfl
theorem k16 : (Rows.poseMonotoneRow.mapsOut == Try.prog.mapsAmong Try.f11.resultTypes.toList) = true := by kernel_rfl
theorem k17 : (Rows.poseMonotoneRow.loops == (Try.f11.params.toList ++ Rows.poseMonotoneSpec.plain.varTypes Try.prog).any (Try.prog.loopsFrom ·)) = true := by kernel_rfl
theorem k18 : (Rows.poseMonotoneRow.wideKeys == (Try.f11.params.toList ++ Rows.poseMonotoneSpec.plain.varTypes Try.prog ++ Try.f11.resultTypes.toList).any (Try.prog.wideKeysFrom ·)) = true := by kernel_rfl
theorem k19 : Rows.poseMonotoneSpec.vars.all (Try.prog.varReadable ·) = true := by kernel_rfl
theorem k20 : Try.f11.resultTypes.all (fun t => Try.prog.readableRec t && decide (t < Try.prog.types.size)) = true := by kernel_rfl
theorem k21 : (Rows.poseMonotoneRow.ifacesOut == Try.f11.resultTypes.toList.any (Try.prog.ifacesRec ·)) = true := by kernel_rfl
theorem k22 : (Rows.poseMonotoneRow.loopsOut == Try.f11.resultTypes.toList.any (Try.prog.loopsFrom ·)) = true := by kernel_rfl
theorem k23 : (Rows.poseMonotoneRow.plainKeys == Try.prog.plainKeys) = true := by kernel_rfl
theorem k24 : Rows.poseMonotoneRow.shortTexts.isNone = true := by kernel_rfl
theorem k27 : (Rows.poseMonotoneRow.lifted == Try.prog.liftsFinal) = true := by rw [Go.RX.Seat.lifts]; rfl
theorem k28 : (Try.prog.make == some Rows.poseMonotoneRow.make) = true := by rw [Go.RX.Seat.make]; rfl
theorem k29 : Go.RX.kindsOk Try.prog Try.f11 Rows.poseMonotoneRow = true := by kernel_rfl
theorem k30 : (Rows.poseMonotoneRow.pinned == Rows.poseMonotoneRow.pinnedBy) = true := by kernel_rfl
theorem k31 : (Rows.poseMonotoneRow.veiled == (Try.f11.params.toList ++ Rows.poseMonotoneSpec.plain.varTypes Try.prog ++ Try.f11.resultTypes.toList).any (Try.prog.veiledRec ·)) = true := by kernel_rfl
theorem k32 : Rows.poseMonotoneRow.veiledFits Try.prog Try.f11.params.toList (Try.f11.params.toList ++ Rows.poseMonotoneSpec.plain.varTypes Try.prog ++ Try.f11.resultTypes.toList) = true := by kernel_rfl
theorem facts : joinedFacts Try.prog 11 Try.f11 Rows.poseMonotoneSpec Rows.poseMonotoneRow = true := Go.RX.facts_of (P := Try.prog) (f := 11) (fn := Try.f11) (s := Rows.poseMonotoneSpec) (c := Rows.poseMonotoneRow) k1 Go.RX.Seat.laid Go.RX.Seat.mapsRow k4 k5 k6 Go.RX.Seat.stops k8 Go.RX.Seat.stopKnobs k10 k11 k12 k13 k14 k15 k16 k17 k18 k19 k20 k21 k22 k23 k24 Go.RX.Seat.heard Go.RX.Seat.enter k27 k28 k29 k30 k31 k32

theorem par : Try.f11.params = [22, 22].toArray := by kernel_rfl
theorem res : Try.f11.resultTypes = #[4] := by kernel_rfl
theorem rds : (([22, 22] : List TypeId).all fun t => Try.prog.readableRec t && decide (t < Try.prog.types.size)) = true := by kernel_rfl
theorem tys : Go.RX.tysOk Try.prog 9 [22, 22] [.list (.int .i64), .list (.int .i64)] = true := by kernel_rfl
theorem noInit : Try.prog.inits.idxOf? 11 = none := by kernel_rfl
set_option maxRecDepth 100000 in
theorem lifted (os : Os) (started : os.Started) (H : Type) (enc : TypeId × Value → H) :
    ReturnsInHanded {} Try.checked os 11 .any (Rows.poseMonotoneSpec.pre6 enc Try.prog Try.f11 Rows.poseMonotoneRow.domain false) (Rows.poseMonotoneSpec.post enc Try.prog Try.f11 false true false false) :=
  Go.RX.law_lifted (C := Try.checked) (ts := [22, 22]) (As := [.list (.int .i64), .list (.int .i64)]) (b := 4) (n := 9) Go.RX.Seat.own started noInit Try.func11 (ChangeSpec.witness6 (enc := enc) (C := Try.checked) false ⟨#[], #[.slice none 0 0, .slice none 0 0], []⟩ 8 (by kernel_rfl) (by kernel_rfl) (by kernel_rfl) (by kernel_rfl))
    Go.RX.Seat.laid par rds res Try.underlying4 rfl (fun ds h => match ds, h with
      | [d0, d1], _ => rfl) tys Go.RX.fn_armplanlaw5_PoseMonotone (fun x ok => by have h := Go.RX.pmonotone_law ok.1.1 ok.2.1.1; rw [h.1, h.2]; rfl)

theorem over : Rows.poseMonotoneRow.holds Try.pinned (OpenSpec.ofChange Rows.poseMonotoneSpec) :=
  OpenClaim.holds_of_wide 11 Try.f11 rfl rfl rfl rfl rfl rfl rfl ⟨rfl, rfl, rfl, rfl, rfl⟩ rfl rfl rfl rfl rfl (by kernel_rfl) Try.func11 facts
    (of_decide_eq_true (by kernel_rfl)) (by unfold Func.isWrapper; first | (rw [if_pos (by decide +kernel)]; kernel_rfl) | (rw [if_neg (by decide +kernel)]; exact ⟨rfl, rfl⟩))
    (fun os started H enc _ => lifted os started H enc)

/-- THE STATEMENT -/
theorem proved : Rows.PoseMonotoneSaid :=
  over
end Go.Proofs.Ytkekddbdbfdjeaa.poseMonotone

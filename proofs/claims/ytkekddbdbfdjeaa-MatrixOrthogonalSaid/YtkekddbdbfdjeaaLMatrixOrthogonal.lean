/-
  armplanlaw4.MatrixOrthogonal returns true for every input, and leaves the input as it was. No condition.
-/
import Derived.Test.YtkekddbdbfdjeaaRows
import Derived.Test.YtkekddbdbfdjeaaRy
import Derived.Test.YtkekddbdbfdjeaaMe
namespace Go.Proofs.Ytkekddbdbfdjeaa.matrixOrthogonal
open Go.ChangeShapes Go.WideShapes Go.ChangeAt Go.RowKit

theorem k1 : Rows.matrixOrthogonalRow.wf (OpenSpec.ofChange Rows.matrixOrthogonalSpec) = true := by kernel_rfl
theorem k4 : Try.f4.params.all (Try.prog.readableRec ·) = true := by kernel_rfl
theorem k5 : namedTie Try.prog Rows.matrixOrthogonalRow.named Rows.matrixOrthogonalSpec.vars = true := by kernel_rfl
theorem k6 : (Rows.matrixOrthogonalRow.stops == []) = true := by kernel_rfl
theorem k8 : (Rows.matrixOrthogonalRow.knobs == []) = true := by kernel_rfl
theorem k10 : (Rows.matrixOrthogonalRow.inPlace == Try.prog.inPlace 4) = true := by kernel_rfl
theorem k11 : (Rows.matrixOrthogonalRow.unfollowed == Try.prog.unfollowed 4) = true := by kernel_rfl
theorem k12 : (Rows.matrixOrthogonalRow.recurses == Try.prog.recurses 4) = true := by kernel_rfl
theorem k13 : (Rows.matrixOrthogonalRow.named == Try.prog.varsNamed 4) = true := by kernel_rfl
theorem k14 : (Rows.matrixOrthogonalRow.maps == (Try.f4.params.toList ++ Rows.matrixOrthogonalSpec.plain.varTypes Try.prog).any (Try.prog.mapsRec ·)) = true := by kernel_rfl
theorem k15 : (Rows.matrixOrthogonalRow.ifaces == (Try.f4.params.toList ++ Rows.matrixOrthogonalSpec.plain.varTypes Try.prog).any (Try.prog.ifacesRec ·)) = true := by kernel_rfl
theorem k16 : (Rows.matrixOrthogonalRow.mapsOut == Try.prog.mapsAmong Try.f4.resultTypes.toList) = true := by kernel_rfl
theorem k17 : (Rows.matrixOrthogonalRow.loops == (Try.f4.params.toList ++ Rows.matrixOrthogonalSpec.plain.varTypes Try.prog).any (Try.prog.loopsFrom ·)) = true := by kernel_rfl
theorem k18 : (Rows.matrixOrthogonalRow.wideKeys == (Try.f4.params.toList ++ Rows.matrixOrthogonalSpec.plain.varTypes Try.prog ++ Try.f4.resultTypes.toList).any (Try.prog.wideKeysFrom ·)) = true := by kernel_rfl
theorem k19 : Rows.matrixOrthogonalSpec.vars.all (Try.prog.varReadable ·) = true := by kernel_rfl
theorem k20 : Try.f4.resultTypes.all (fun t => Try.prog.readableRec t && decide (t < Try.prog.types.size)) = true := by kernel_rfl
theorem k21 : (Rows.matrixOrthogonalRow.ifacesOut == Try.f4.resultTypes.toList.any (Try.prog.ifacesRec ·)) = true := by kernel_rfl
theorem k22 : (Rows.matrixOrthogonalRow.loopsOut == Try.f4.resultTypes.toList.any (Try.prog.loopsFrom ·)) = true := by kernel_rfl
theorem k23 : (Rows.matrixOrthogonalRow.plainKeys == Try.prog.plainKeys) = true := by kernel_rfl
theorem k24 : Rows.matrixOrthogonalRow.shortTexts.isNone = true := by kernel_rfl
theorem k27 : (Rows.matrixOrthogonalRow.lifted == Try.prog.liftsFinal) = true := by rw [Go.RX.Seat.lifts]; rfl
theorem k28 : (Try.prog.make == some Rows.matrixOrthogonalRow.make) = true := by rw [Go.RX.Seat.make]; rfl
theorem k29 : Go.RX.kindsOk Try.prog Try.f4 Rows.matrixOrthogonalRow = true := by kernel_rfl
theorem k30 : (Rows.matrixOrthogonalRow.pinned == Rows.matrixOrthogonalRow.pinnedBy) = true := by kernel_rfl
theorem k31 : (Rows.matrixOrthogonalRow.veiled == (Try.f4.params.toList ++ Rows.matrixOrthogonalSpec.plain.varTypes Try.prog ++ Try.f4.resultTypes.toList).any (Try.prog.veiledRec ·)) = true := by kernel_rfl
theorem k32 : Rows.matrixOrthogonalRow.veiledFits Try.prog Try.f4.params.toList (Try.f4.params.toList ++ Rows.matrixOrthogonalSpec.plain.varTypes Try.prog ++ Try.f4.resultTypes.toList) = true := by kernel_rfl
theorem facts : joinedFacts Try.prog 4 Try.f4 Rows.matrixOrthogonalSpec Rows.matrixOrthogonalRow = true := Go.RX.facts_of (P := Try.prog) (f := 4) (fn := Try.f4) (s := Rows.matrixOrthogonalSpec) (c := Rows.matrixOrthogonalRow) k1 Go.RX.Seat.laid Go.RX.Seat.mapsRow k4 k5 k6 Go.RX.Seat.stops k8 Go.RX.Seat.stopKnobs k10 k11 k12 k13 k14 k15 k16 k17 k18 k19 k20 k21 k22 k23 k24 Go.RX.Seat.heard Go.RX.Seat.enter k27 k28 k29 k30 k31 k32

theorem par : Try.f4.params = [22].toArray := by kernel_rfl
theorem res : Try.f4.resultTypes = #[4] := by kernel_rfl
theorem rds : (([22] : List TypeId).all fun t => Try.prog.readableRec t && decide (t < Try.prog.types.size)) = true := by kernel_rfl
theorem tys : Go.RX.tysOk Try.prog 9 [22] [.list (.int .i64)] = true := by kernel_rfl
theorem noInit : Try.prog.inits.idxOf? 4 = none := by kernel_rfl
set_option maxRecDepth 100000 in
theorem lifted (os : Os) (started : os.Started) (H : Type) (enc : TypeId × Value → H) :
    ReturnsInHanded {} Try.checked os 4 .any (Rows.matrixOrthogonalSpec.pre6 enc Try.prog Try.f4 Rows.matrixOrthogonalRow.domain false) (Rows.matrixOrthogonalSpec.post enc Try.prog Try.f4 false true false false) :=
  Go.RX.law_lifted (C := Try.checked) (ts := [22]) (As := [.list (.int .i64)]) (b := 4) (n := 9) Go.RX.Seat.own started noInit Try.func4 (ChangeSpec.witness6 (enc := enc) (C := Try.checked) false ⟨#[], #[.slice none 0 0], []⟩ 8 (by kernel_rfl) (by kernel_rfl) (by kernel_rfl) (by kernel_rfl))
    Go.RX.Seat.laid par rds res Try.underlying4 rfl (fun ds h => match ds, h with
      | [d0], _ => rfl) tys Go.RX.fn_armplanlaw4_MatrixOrthogonal (fun x ok => by have h := Go.RX.orthogonal_law ok.1.1; rw [h.1, h.2]; rfl)

theorem over : Rows.matrixOrthogonalRow.holds Try.pinned (OpenSpec.ofChange Rows.matrixOrthogonalSpec) :=
  OpenClaim.holds_of_wide 4 Try.f4 rfl rfl rfl rfl rfl rfl rfl ⟨rfl, rfl, rfl, rfl, rfl⟩ rfl rfl rfl rfl rfl (by kernel_rfl) Try.func4 facts
    (of_decide_eq_true (by kernel_rfl)) (by unfold Func.isWrapper; first | (rw [if_pos (by decide +kernel)]; kernel_rfl) | (rw [if_neg (by decide +kernel)]; exact ⟨rfl, rfl⟩))
    (fun os started H enc _ => lifted os started H enc)

/-- THE STATEMENT -/
theorem proved : Rows.MatrixOrthogonalSaid :=
  over
end Go.Proofs.Ytkekddbdbfdjeaa.matrixOrthogonal

/-
  armplanlaw4.MatrixLength returns true for every input, and leaves the input as it was. No condition.
-/
import Derived.Test.YtkekddbdbfdjeaaRows
import Derived.Test.YtkekddbdbfdjeaaRy
import Derived.Test.YtkekddbdbfdjeaaMe
namespace Go.Proofs.Ytkekddbdbfdjeaa.matrixLength
open Go.ChangeShapes Go.WideShapes Go.ChangeAt Go.RowKit

theorem k1 : Rows.matrixLengthRow.wf (OpenSpec.ofChange Rows.matrixLengthSpec) = true := by kernel_rfl
theorem k4 : Try.f3.params.all (Try.prog.readableRec ·) = true := by kernel_rfl
theorem k5 : namedTie Try.prog Rows.matrixLengthRow.named Rows.matrixLengthSpec.vars = true := by kernel_rfl
theorem k6 : (Rows.matrixLengthRow.stops == []) = true := by kernel_rfl
theorem k8 : (Rows.matrixLengthRow.knobs == []) = true := by kernel_rfl
theorem k10 : (Rows.matrixLengthRow.inPlace == Try.prog.inPlace 3) = true := by kernel_rfl
theorem k11 : (Rows.matrixLengthRow.unfollowed == Try.prog.unfollowed 3) = true := by kernel_rfl
theorem k12 : (Rows.matrixLengthRow.recurses == Try.prog.recurses 3) = true := by kernel_rfl
theorem k13 : (Rows.matrixLengthRow.named == Try.prog.varsNamed 3) = true := by kernel_rfl
theorem k14 : (Rows.matrixLengthRow.maps == (Try.f3.params.toList ++ Rows.matrixLengthSpec.plain.varTypes Try.prog).any (Try.prog.mapsRec ·)) = true := by kernel_rfl
theorem k15 : (Rows.matrixLengthRow.ifaces == (Try.f3.params.toList ++ Rows.matrixLengthSpec.plain.varTypes Try.prog).any (Try.prog.ifacesRec ·)) = true := by kernel_rfl
theorem k16 : (Rows.matrixLengthRow.mapsOut == Try.prog.mapsAmong Try.f3.resultTypes.toList) = true := by kernel_rfl
theorem k17 : (Rows.matrixLengthRow.loops == (Try.f3.params.toList ++ Rows.matrixLengthSpec.plain.varTypes Try.prog).any (Try.prog.loopsFrom ·)) = true := by kernel_rfl
theorem k18 : (Rows.matrixLengthRow.wideKeys == (Try.f3.params.toList ++ Rows.matrixLengthSpec.plain.varTypes Try.prog ++ Try.f3.resultTypes.toList).any (Try.prog.wideKeysFrom ·)) = true := by kernel_rfl
theorem k19 : Rows.matrixLengthSpec.vars.all (Try.prog.varReadable ·) = true := by kernel_rfl
theorem k20 : Try.f3.resultTypes.all (fun t => Try.prog.readableRec t && decide (t < Try.prog.types.size)) = true := by kernel_rfl
theorem k21 : (Rows.matrixLengthRow.ifacesOut == Try.f3.resultTypes.toList.any (Try.prog.ifacesRec ·)) = true := by kernel_rfl
theorem k22 : (Rows.matrixLengthRow.loopsOut == Try.f3.resultTypes.toList.any (Try.prog.loopsFrom ·)) = true := by kernel_rfl
theorem k23 : (Rows.matrixLengthRow.plainKeys == Try.prog.plainKeys) = true := by kernel_rfl
theorem k24 : Rows.matrixLengthRow.shortTexts.isNone = true := by kernel_rfl
theorem k27 : (Rows.matrixLengthRow.lifted == Try.prog.liftsFinal) = true := by rw [Go.RX.Seat.lifts]; rfl
theorem k28 : (Try.prog.make == some Rows.matrixLengthRow.make) = true := by rw [Go.RX.Seat.make]; rfl
theorem k29 : Go.RX.kindsOk Try.prog Try.f3 Rows.matrixLengthRow = true := by kernel_rfl
theorem k30 : (Rows.matrixLengthRow.pinned == Rows.matrixLengthRow.pinnedBy) = true := by kernel_rfl
theorem k31 : (Rows.matrixLengthRow.veiled == (Try.f3.params.toList ++ Rows.matrixLengthSpec.plain.varTypes Try.prog ++ Try.f3.resultTypes.toList).any (Try.prog.veiledRec ·)) = true := by kernel_rfl
theorem k32 : Rows.matrixLengthRow.veiledFits Try.prog Try.f3.params.toList (Try.f3.params.toList ++ Rows.matrixLengthSpec.plain.varTypes Try.prog ++ Try.f3.resultTypes.toList) = true := by kernel_rfl
theorem facts : joinedFacts Try.prog 3 Try.f3 Rows.matrixLengthSpec Rows.matrixLengthRow = true := Go.RX.facts_of (P := Try.prog) (f := 3) (fn := Try.f3) (s := Rows.matrixLengthSpec) (c := Rows.matrixLengthRow) k1 Go.RX.Seat.laid Go.RX.Seat.mapsRow k4 k5 k6 Go.RX.Seat.stops k8 Go.RX.Seat.stopKnobs k10 k11 k12 k13 k14 k15 k16 k17 k18 k19 k20 k21 k22 k23 k24 Go.RX.Seat.heard Go.RX.Seat.enter k27 k28 k29 k30 k31 k32

theorem par : Try.f3.params = [22].toArray := by kernel_rfl
theorem res : Try.f3.resultTypes = #[4] := by kernel_rfl
theorem rds : (([22] : List TypeId).all fun t => Try.prog.readableRec t && decide (t < Try.prog.types.size)) = true := by kernel_rfl
theorem tys : Go.RX.tysOk Try.prog 9 [22] [.list (.int .i64)] = true := by kernel_rfl
theorem noInit : Try.prog.inits.idxOf? 3 = none := by kernel_rfl
set_option maxRecDepth 100000 in
theorem lifted (os : Os) (started : os.Started) (H : Type) (enc : TypeId × Value → H) :
    ReturnsInHanded {} Try.checked os 3 .any (Rows.matrixLengthSpec.pre6 enc Try.prog Try.f3 Rows.matrixLengthRow.domain false) (Rows.matrixLengthSpec.post enc Try.prog Try.f3 false true false false) :=
  Go.RX.law_lifted (C := Try.checked) (ts := [22]) (As := [.list (.int .i64)]) (b := 4) (n := 9) Go.RX.Seat.own started noInit Try.func3 (ChangeSpec.witness6 (enc := enc) (C := Try.checked) false ⟨#[], #[.slice none 0 0], []⟩ 8 (by kernel_rfl) (by kernel_rfl) (by kernel_rfl) (by kernel_rfl))
    Go.RX.Seat.laid par rds res Try.underlying4 rfl (fun ds h => match ds, h with
      | [d0], _ => rfl) tys Go.RX.fn_armplanlaw4_MatrixLength (fun x ok => by have h := Go.RX.length_law ok.1.1; rw [h.1, h.2]; rfl)

theorem over : Rows.matrixLengthRow.holds Try.pinned (OpenSpec.ofChange Rows.matrixLengthSpec) :=
  OpenClaim.holds_of_wide 3 Try.f3 rfl rfl rfl rfl rfl rfl rfl ⟨rfl, rfl, rfl, rfl, rfl⟩ rfl rfl rfl rfl rfl (by kernel_rfl) Try.func3 facts
    (of_decide_eq_true (by kernel_rfl)) (by unfold Func.isWrapper; first | (rw [if_pos (by decide +kernel)]; kernel_rfl) | (rw [if_neg (by decide +kernel)]; exact ⟨rfl, rfl⟩))
    (fun os started H enc _ => lifted os started H enc)

/-- THE STATEMENT -/
theorem proved : Rows.MatrixLengthSaid :=
  over
end Go.Proofs.Ytkekddbdbfdjeaa.matrixLength

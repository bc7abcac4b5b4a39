/-
  armplanlaw4.MatrixMonotone returns true for every input, and leaves the input as it was. No condition.
-/
import Derived.Test.YtlikaaohkecccaaRows
import Derived.Test.YtlikaaohkecccaaRy
import Derived.Test.YtlikaaohkecccaaMd
namespace Go.Proofs.Ytlikaaohkecccaa.matrixMonotone
open Go.ChangeShapes Go.WideShapes Go.ChangeAt Go.RowKit

theorem k1 : Rows.matrixMonotoneRow.wf (OpenSpec.ofChange Rows.matrixMonotoneSpec) = true := by kernel_rfl
theorem k4 : Try.f19.params.all (Try.prog.readableRec ·) = true := by kernel_rfl
theorem k5 : namedTie Try.prog Rows.matrixMonotoneRow.named Rows.matrixMonotoneSpec.vars = true := by kernel_rfl
theorem k6 : (Rows.matrixMonotoneRow.stops == []) = true := by kernel_rfl
theorem k8 : (Rows.matrixMonotoneRow.knobs == []) = true := by kernel_rfl
theorem k10 : (Rows.matrixMonotoneRow.inPlace == Try.prog.inPlace 19) = true := by kernel_rfl
theorem k11 : (Rows.matrixMonotoneRow.unfollowed == Try.prog.unfollowed 19) = true := by kernel_rfl
theorem k12 : (Rows.matrixMonotoneRow.recurses == Try.prog.recurses 19) = true := by kernel_rfl
theorem k13 : (Rows.matrixMonotoneRow.named == Try.prog.varsNamed 19) = true := by kernel_rfl
theorem k14 : (Rows.matrixMonotoneRow.maps == (Try.f19.params.toList ++ Rows.matrixMonotoneSpec.plain.varTypes Try.prog).any (Try.prog.mapsRec ·)) = true := by kernel_rfl
theorem k15 : (Rows.matrixMonotoneRow.ifaces == (Try.f19.params.toList ++ Rows.matrixMonotoneSpec.plain.varTypes Try.prog).any (Try.prog.ifacesRec ·)) = true := by kernel_rfl
theorem k16 : (Rows.matrixMonotoneRow.mapsOut == Try.prog.mapsAmong Try.f19.resultTypes.toList) = true := by kernel_rfl
theorem k17 : (Rows.matrixMonotoneRow.loops == (Try.f19.params.toList ++ Rows.matrixMonotoneSpec.plain.varTypes Try.prog).any (Try.prog.loopsFrom ·)) = true := by kernel_rfl
theorem k18 : (Rows.matrixMonotoneRow.wideKeys == (Try.f19.params.toList ++ Rows.matrixMonotoneSpec.plain.varTypes Try.prog ++ Try.f19.resultTypes.toList).any (Try.prog.wideKeysFrom ·)) = true := by kernel_rfl
theorem k19 : Rows.matrixMonotoneSpec.vars.all (Try.prog.varReadable ·) = true := by kernel_rfl
theorem k20 : Try.f19.resultTypes.all (fun t => Try.prog.readableRec t && decide (t < Try.prog.types.size)) = true := by kernel_rfl
theorem k21 : (Rows.matrixMonotoneRow.ifacesOut == Try.f19.resultTypes.toList.any (Try.prog.ifacesRec ·)) = true := by kernel_rfl
theorem k22 : (Rows.matrixMonotoneRow.loopsOut == Try.f19.resultTypes.toList.any (Try.prog.loopsFrom ·)) = true := by kernel_rfl
theorem k23 : (Rows.matrixMonotoneRow.plainKeys == Try.prog.plainKeys) = true := by kernel_rfl
theorem k24 : Rows.matrixMonotoneRow.shortTexts.isNone = true := by kernel_rfl
theorem k27 : (Rows.matrixMonotoneRow.lifted == Try.prog.liftsFinal) = true := by rw [Go.RX.Seat.lifts]; rfl
theorem k28 : (Try.prog.make == some Rows.matrixMonotoneRow.make) = true := by rw [Go.RX.Seat.make]; rfl
theorem k29 : Go.RX.kindsOk Try.prog Try.f19 Rows.matrixMonotoneRow = true := by kernel_rfl
theorem k30 : (Rows.matrixMonotoneRow.pinned == Rows.matrixMonotoneRow.pinnedBy) = true := by kernel_rfl
theorem k31 : (Rows.matrixMonotoneRow.veiled == (Try.f19.params.toList ++ Rows.matrixMonotoneSpec.plain.varTypes Try.prog ++ Try.f19.resultTypes.toList).any (Try.prog.veiledRec ·)) = true := by kernel_rfl
theorem k32 : Rows.matrixMonotoneRow.veiledFits Try.prog Try.f19.params.toList (Try.f19.params.toList ++ Rows.matrixMonotoneSpec.plain.varTypes Try.prog ++ Try.f19.resultTypes.toList) = true := by kernel_rfl
theorem facts : joinedFacts Try.prog 19 Try.f19 Rows.matrixMonotoneSpec Rows.matrixMonotoneRow = true := Go.RX.facts_of (P := Try.prog) (f := 19) (fn := Try.f19) (s := Rows.matrixMonotoneSpec) (c := Rows.matrixMonotoneRow) k1 Go.RX.Seat.laid Go.RX.Seat.mapsRow k4 k5 k6 Go.RX.Seat.stops k8 Go.RX.Seat.stopKnobs k10 k11 k12 k13 k14 k15 k16 k17 k18 k19 k20 k21 k22 k23 k24 Go.RX.Seat.heard Go.RX.Seat.enter k27 k28 k29 k30 k31 k32

theorem par : Try.f19.params = [48, 48].toArray := by kernel_rfl
theorem res : Try.f19.resultTypes = #[4] := by kernel_rfl
theorem rds : (([48, 48] : List TypeId).all fun t => Try.prog.readableRec t && decide (t < Try.prog.types.size)) = true := by kernel_rfl
theorem tys : Go.RX.tysOk Try.prog 9 [48, 48] [.list (.int .i64), .list (.int .i64)] = true := by kernel_rfl
theorem noInit : Try.prog.inits.idxOf? 19 = none := by kernel_rfl
set_option maxRecDepth 100000 in
theorem lifted (os : Os) (started : os.Started) (H : Type) (enc : TypeId × Value → H) :
    ReturnsInHanded {} Try.checked os 19 .any (Rows.matrixMonotoneSpec.pre6 enc Try.prog Try.f19 Rows.matrixMonotoneRow.domain false) (Rows.matrixMonotoneSpec.post enc Try.prog Try.f19 false true false false) :=
  Go.RX.law_lifted (C := Try.checked) (ts := [48, 48]) (As := [.list (.int .i64), .list (.int .i64)]) (b := 4) (n := 9) Go.RX.Seat.own started noInit Try.func19 (ChangeSpec.witness6 (enc := enc) (C := Try.checked) false ⟨#[], #[.slice none 0 0, .slice none 0 0], []⟩ 8 (by kernel_rfl) (by kernel_rfl) (by kernel_rfl) (by kernel_rfl))
    Go.RX.Seat.laid par rds res Try.underlying4 rfl (fun ds h => match ds, h with
      | [d0, d1], _ => rfl) tys Go.RX.fn_armplanlaw4_MatrixMonotone (fun x ok => by have h := Go.RX.monotone_law ok.1.1 ok.2.1.1; rw [h.1, h.2]; rfl)

theorem over : Rows.matrixMonotoneRow.holds Try.pinned (OpenSpec.ofChange Rows.matrixMonotoneSpec) :=
  OpenClaim.holds_of_wide 19 Try.f19 rfl rfl rfl rfl rfl rfl rfl ⟨rfl, rfl, rfl, rfl, rfl⟩ rfl rfl rfl rfl rfl (by kernel_rfl) Try.func19 facts
    (of_decide_eq_true (by kernel_rfl)) (by unfold Func.isWrapper; first | (rw [if_pos (by decide +kernel)]; kernel_rfl) | (rw [if_neg (by decide +kernel)]; exact ⟨rfl, rfl⟩))
    (fun os started H enc _ => lifted os started H enc)

/-- THE STATEMENT -/
theorem proved : Rows.MatrixMonotoneSaid :=
  over
end Go.Proofs.Ytlikaaohkecccaa.matrixMonotone

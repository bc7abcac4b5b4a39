/-
  armplanlaw4.MatrixAdds returns true for every input, and leaves the input as it was. No condition.
-/
import Derived.Test.YtlikaaohkecccaaRows
import Derived.Test.YtlikaaohkecccaaRy
import Derived.Test.YtlikaaohkecccaaMg
namespace Go.Proofs.Ytlikaaohkecccaa.matrixAdds
open Go.ChangeShapes Go.WideShapes Go.ChangeAt Go.RowKit

theorem k1 : Rows.matrixAddsRow.wf (OpenSpec.ofChange Rows.matrixAddsSpec) = true := by kernel_rfl
theorem k4 : Try.f16.params.all (Try.prog.readableRec ·) = true := by kernel_rfl
theorem k5 : namedTie Try.prog Rows.matrixAddsRow.named Rows.matrixAddsSpec.vars = true := by kernel_rfl
theorem k6 : (Rows.matrixAddsRow.stops == []) = true := by kernel_rfl
theorem k8 : (Rows.matrixAddsRow.knobs == []) = true := by kernel_rfl
theorem k10 : (Rows.matrixAddsRow.inPlace == Try.prog.inPlace 16) = true := by kernel_rfl
theorem k11 : (Rows.matrixAddsRow.unfollowed == Try.prog.unfollowed 16) = true := by kernel_rfl
theorem k12 : (Rows.matrixAddsRow.recurses == Try.prog.recurses 16) = true := by kernel_rfl
theorem k13 : (Rows.matrixAddsRow.named == Try.prog.varsNamed 16) = true := by kernel_rfl
theorem k14 : (Rows.matrixAddsRow.maps == (Try.f16.params.toList ++ Rows.matrixAddsSpec.plain.varTypes Try.prog).any (Try.prog.mapsRec ·)) = true := by kernel_rfl
theorem k15 : (Rows.matrixAddsRow.ifaces == (Try.f16.params.toList ++ Rows.matrixAddsSpec.plain.varTypes Try.prog).any (Try.prog.ifacesRec ·)) = true := by kernel_rfl
theorem k16 : (Rows.matrixAddsRow.mapsOut == Try.prog.mapsAmong Try.f16.resultTypes.toList) = true := by kernel_rfl
theorem k17 : (Rows.matrixAddsRow.loops == (Try.f16.params.toList ++ Rows.matrixAddsSpec.plain.varTypes Try.prog).any (Try.prog.loopsFrom ·)) = true := by kernel_rfl
theorem k18 : (Rows.matrixAddsRow.wideKeys == (Try.f16.params.toList ++ Rows.matrixAddsSpec.plain.varTypes Try.prog ++ Try.f16.resultTypes.toList).any (Try.prog.wideKeysFrom ·)) = true := by kernel_rfl
theorem k19 : Rows.matrixAddsSpec.vars.all (Try.prog.varReadable ·) = true := by kernel_rfl
theorem k20 : Try.f16.resultTypes.all (fun t => Try.prog.readableRec t && decide (t < Try.prog.types.size)) = true := by kernel_rfl
theorem k21 : (Rows.matrixAddsRow.ifacesOut == Try.f16.resultTypes.toList.any (Try.prog.ifacesRec ·)) = true := by kernel_rfl
theorem k22 : (Rows.matrixAddsRow.loopsOut == Try.f16.resultTypes.toList.any (Try.prog.loopsFrom ·)) = true := by kernel_rfl
theorem k23 : (Rows.matrixAddsRow.plainKeys == Try.prog.plainKeys) = true := by kernel_rfl
theorem k24 : Rows.matrixAddsRow.shortTexts.isNone = true := by kernel_rfl
theorem k27 : (Rows.matrixAddsRow.lifted == Try.prog.liftsFinal) = true := by rw [Go.RX.Seat.lifts]; rfl
theorem k28 : (Try.prog.make == some Rows.matrixAddsRow.make) = true := by rw [Go.RX.Seat.make]; rfl
theorem k29 : Go.RX.kindsOk Try.prog Try.f16 Rows.matrixAddsRow = true := by kernel_rfl
theorem k30 : (Rows.matrixAddsRow.pinned == Rows.matrixAddsRow.pinnedBy) = true := by kernel_rfl
theorem k31 : (Rows.matrixAddsRow.veiled == (Try.f16.params.toList ++ Rows.matrixAddsSpec.plain.varTypes Try.prog ++ Try.f16.resultTypes.toList).any (Try.prog.veiledRec ·)) = true := by kernel_rfl
theorem k32 : Rows.matrixAddsRow.veiledFits Try.prog Try.f16.params.toList (Try.f16.params.toList ++ Rows.matrixAddsSpec.plain.varTypes Try.prog ++ Try.f16.resultTypes.toList) = true := by kernel_rfl
theorem facts : joinedFacts Try.prog 16 Try.f16 Rows.matrixAddsSpec Rows.matrixAddsRow = true := Go.RX.facts_of (P := Try.prog) (f := 16) (fn := Try.f16) (s := Rows.matrixAddsSpec) (c := Rows.matrixAddsRow) k1 Go.RX.Seat.laid Go.RX.Seat.mapsRow k4 k5 k6 Go.RX.Seat.stops k8 Go.RX.Seat.stopKnobs k10 k11 k12 k13 k14 k15 k16 k17 k18 k19 k20 k21 k22 k23 k24 Go.RX.Seat.heard Go.RX.Seat.enter k27 k28 k29 k30 k31 k32

theorem par : Try.f16.params = [3, 3, 3].toArray := by kernel_rfl
theorem res : Try.f16.resultTypes = #[4] := by kernel_rfl
theorem rds : (([3, 3, 3] : List TypeId).all fun t => Try.prog.readableRec t && decide (t < Try.prog.types.size)) = true := by kernel_rfl
theorem tys : Go.RX.tysOk Try.prog 9 [3, 3, 3] [.int .i64, .int .i64, .int .i64] = true := by kernel_rfl
theorem noInit : Try.prog.inits.idxOf? 16 = none := by kernel_rfl
set_option maxRecDepth 100000 in
theorem lifted (os : Os) (started : os.Started) (H : Type) (enc : TypeId × Value → H) :
    ReturnsInHanded {} Try.checked os 16 .any (Rows.matrixAddsSpec.pre6 enc Try.prog Try.f16 Rows.matrixAddsRow.domain false) (Rows.matrixAddsSpec.post enc Try.prog Try.f16 false true false false) :=
  Go.RX.law_lifted (C := Try.checked) (ts := [3, 3, 3]) (As := [.int .i64, .int .i64, .int .i64]) (b := 4) (n := 9) Go.RX.Seat.own started noInit Try.func16 (ChangeSpec.witness6 (enc := enc) (C := Try.checked) false ⟨#[], #[.int .i64 0, .int .i64 0, .int .i64 0], []⟩ 8 (by kernel_rfl) (by kernel_rfl) (by kernel_rfl) (by kernel_rfl))
    Go.RX.Seat.laid par rds res Try.underlying4 rfl (fun ds h => match ds, h with
      | [d0, d1, d2], _ => rfl) tys Go.RX.fn_armplanlaw4_MatrixAdds (fun x ok => by rw [Go.RX.adds4_law x.1 x.2.1 x.2.2.1])

theorem over : Rows.matrixAddsRow.holds Try.pinned (OpenSpec.ofChange Rows.matrixAddsSpec) :=
  OpenClaim.holds_of_wide 16 Try.f16 rfl rfl rfl rfl rfl rfl rfl ⟨rfl, rfl, rfl, rfl, rfl⟩ rfl rfl rfl rfl rfl (by kernel_rfl) Try.func16 facts
    (of_decide_eq_true (by kernel_rfl)) (by unfold Func.isWrapper; first | (rw [if_pos (by decide +kernel)]; kernel_rfl) | (rw [if_neg (by decide +kernel)]; exact ⟨rfl, rfl⟩))
    (fun os started H enc _ => lifted os started H enc)

/-- THE STATEMENT -/
theorem proved : Rows.MatrixAddsSaid :=
  over
end Go.Proofs.Ytlikaaohkecccaa.matrixAdds

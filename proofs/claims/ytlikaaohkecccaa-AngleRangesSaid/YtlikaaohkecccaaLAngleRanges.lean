/-
  armplanlaw3.AngleRanges returns true for every input, and leaves the input as it was. No condition.
-/
import Derived.Test.YtlikaaohkecccaaRows
import Derived.Test.YtlikaaohkecccaaRy
import Derived.Test.YtlikaaohkecccaaPg
namespace Go.Proofs.Ytlikaaohkecccaa.angleRanges
open Go.ChangeShapes Go.WideShapes Go.ChangeAt Go.RowKit

theorem k1 : Rows.angleRangesRow.wf (OpenSpec.ofChange Rows.angleRangesSpec) = true := by kernel_rfl
theorem k4 : Try.f9.params.all (Try.prog.readableRec ·) = true := by kernel_rfl
theorem k5 : namedTie Try.prog Rows.angleRangesRow.named Rows.angleRangesSpec.vars = true := by kernel_rfl
theorem k6 : (Rows.angleRangesRow.stops == []) = true := by kernel_rfl
theorem k8 : (Rows.angleRangesRow.knobs == []) = true := by kernel_rfl
theorem k10 : (Rows.angleRangesRow.inPlace == Try.prog.inPlace 9) = true := by kernel_rfl
theorem k11 : (Rows.angleRangesRow.unfollowed == Try.prog.unfollowed 9) = true := by kernel_rfl
theorem k12 : (Rows.angleRangesRow.recurses == Try.prog.recurses 9) = true := by kernel_rfl
theorem k13 : (Rows.angleRangesRow.named == Try.prog.varsNamed 9) = true := by kernel_rfl
theorem k14 : (Rows.angleRangesRow.maps == (Try.f9.params.toList ++ Rows.angleRangesSpec.plain.varTypes Try.prog).any (Try.prog.mapsRec ·)) = true := by kernel_rfl
theorem k15 : (Rows.angleRangesRow.ifaces == (Try.f9.params.toList ++ Rows.angleRangesSpec.plain.varTypes Try.prog).any (Try.prog.ifacesRec ·)) = true := by kernel_rfl
theorem k16 : (Rows.angleRangesRow.mapsOut == Try.prog.mapsAmong Try.f9.resultTypes.toList) = true := by kernel_rfl
theorem k17 : (Rows.angleRangesRow.loops == (Try.f9.params.toList ++ Rows.angleRangesSpec.plain.varTypes Try.prog).any (Try.prog.loopsFrom ·)) = true := by kernel_rfl
theorem k18 : (Rows.angleRangesRow.wideKeys == (Try.f9.params.toList ++ Rows.angleRangesSpec.plain.varTypes Try.prog ++ Try.f9.resultTypes.toList).any (Try.prog.wideKeysFrom ·)) = true := by kernel_rfl
theorem k19 : Rows.angleRangesSpec.vars.all (Try.prog.varReadable ·) = true := by kernel_rfl
theorem k20 : Try.f9.resultTypes.all (fun t => Try.prog.readableRec t && decide (t < Try.prog.types.size)) = true := by kernel_rfl
theorem k21 : (Rows.angleRangesRow.ifacesOut == Try.f9.resultTypes.toList.any (Try.prog.ifacesRec ·)) = true := by kernel_rfl
theorem k22 : (Rows.angleRangesRow.loopsOut == Try.f9.resultTypes.toList.any (Try.prog.loopsFrom ·)) = true := by kernel_rfl
theorem k23 : (Rows.angleRangesRow.plainKeys == Try.prog.plainKeys) = true := by kernel_rfl
theorem k24 : Rows.angleRangesRow.shortTexts.isNone = true := by kernel_rfl
theorem k27 : (Rows.angleRangesRow.lifted == Try.prog.liftsFinal) = true := by rw [Go.RX.Seat.lifts]; rfl
theorem k28 : (Try.prog.make == some Rows.angleRangesRow.make) = true := by rw [Go.RX.Seat.make]; rfl
theorem k29 : Go.RX.kindsOk Try.prog Try.f9 Rows.angleRangesRow = true := by kernel_rfl
theorem k30 : (Rows.angleRangesRow.pinned == Rows.angleRangesRow.pinnedBy) = true := by kernel_rfl
theorem k31 : (Rows.angleRangesRow.veiled == (Try.f9.params.toList ++ Rows.angleRangesSpec.plain.varTypes Try.prog ++ Try.f9.resultTypes.toList).any (Try.prog.veiledRec ·)) = true := by kernel_rfl
theorem k32 : Rows.angleRangesRow.veiledFits Try.prog Try.f9.params.toList (Try.f9.params.toList ++ Rows.angleRangesSpec.plain.varTypes Try.prog ++ Try.f9.resultTypes.toList) = true := by kernel_rfl
theorem facts : joinedFacts Try.prog 9 Try.f9 Rows.angleRangesSpec Rows.angleRangesRow = true := Go.RX.facts_of (P := Try.prog) (f := 9) (fn := Try.f9) (s := Rows.angleRangesSpec) (c := Rows.angleRangesRow) k1 Go.RX.Seat.laid Go.RX.Seat.mapsRow k4 k5 k6 Go.RX.Seat.stops k8 Go.RX.Seat.stopKnobs k10 k11 k12 k13 k14 k15 k16 k17 k18 k19 k20 k21 k22 k23 k24 Go.RX.Seat.heard Go.RX.Seat.enter k27 k28 k29 k30 k31 k32

theorem par : Try.f9.params = [24, 3, 3].toArray := by kernel_rfl
theorem res : Try.f9.resultTypes = #[4] := by kernel_rfl
theorem rds : (([24, 3, 3] : List TypeId).all fun t => Try.prog.readableRec t && decide (t < Try.prog.types.size)) = true := by kernel_rfl
theorem tys : Go.RX.tysOk Try.prog 9 [24, 3, 3] [.pair (.int .i64) (.int .i64), .int .i64, .int .i64] = true := by kernel_rfl
theorem noInit : Try.prog.inits.idxOf? 9 = none := by kernel_rfl
set_option maxRecDepth 100000 in
theorem lifted (os : Os) (started : os.Started) (H : Type) (enc : TypeId × Value → H) :
    ReturnsInHanded {} Try.checked os 9 .any (Rows.angleRangesSpec.pre6 enc Try.prog Try.f9 Rows.angleRangesRow.domain false) (Rows.angleRangesSpec.post enc Try.prog Try.f9 false true false false) :=
  Go.RX.law_lifted (C := Try.checked) (ts := [24, 3, 3]) (As := [.pair (.int .i64) (.int .i64), .int .i64, .int .i64]) (b := 4) (n := 9) Go.RX.Seat.own started noInit Try.func9 (ChangeSpec.witness6 (enc := enc) (C := Try.checked) false ⟨#[], #[.agg #[.int .i64 0, .int .i64 0], .int .i64 0, .int .i64 0], []⟩ 8 (by kernel_rfl) (by kernel_rfl) (by kernel_rfl) (by kernel_rfl))
    Go.RX.Seat.laid par rds res Try.underlying4 rfl (fun ds h => match ds, h with
      | [d0, d1, d2], _ => rfl) tys Go.RX.fn_armplanlaw3_AngleRanges (fun x ok => by have h := Go.RX.ranges_law x.1 x.2.1 x.2.2.1; rw [h.1, h.2]; rfl)

theorem over : Rows.angleRangesRow.holds Try.pinned (OpenSpec.ofChange Rows.angleRangesSpec) :=
  OpenClaim.holds_of_wide 9 Try.f9 rfl rfl rfl rfl rfl rfl rfl ⟨rfl, rfl, rfl, rfl, rfl⟩ rfl rfl rfl rfl rfl (by kernel_rfl) Try.func9 facts
    (of_decide_eq_true (by kernel_rfl)) (by unfold Func.isWrapper; first | (rw [if_pos (by decide +kernel)]; kernel_rfl) | (rw [if_neg (by decide +kernel)]; exact ⟨rfl, rfl⟩))
    (fun os started H enc _ => lifted os started H enc)

/-- THE STATEMENT -/
theorem proved : Rows.AngleRangesSaid :=
  over
end Go.Proofs.Ytlikaaohkecccaa.angleRanges

/-
  armplanlaw3.AngleChord returns true for every input, and leaves the input as it was. No condition.
-/
import Derived.Test.YtlikaaohkecccaaRows
import Derived.Test.YtlikaaohkecccaaRy
import Derived.Test.YtlikaaohkecccaaPb
namespace Go.Proofs.Ytlikaaohkecccaa.angleChord
open Go.ChangeShapes Go.WideShapes Go.ChangeAt Go.RowKit

theorem k1 : Rows.angleChordRow.wf (OpenSpec.ofChange Rows.angleChordSpec) = true := by kernel_rfl
theorem k4 : Try.f3.params.all (Try.prog.readableRec ·) = true := by kernel_rfl
theorem k5 : namedTie Try.prog Rows.angleChordRow.named Rows.angleChordSpec.vars = true := by kernel_rfl
theorem k6 : (Rows.angleChordRow.stops == []) = true := by kernel_rfl
theorem k8 : (Rows.angleChordRow.knobs == []) = true := by kernel_rfl
theorem k10 : (Rows.angleChordRow.inPlace == Try.prog.inPlace 3) = true := by kernel_rfl
theorem k11 : (Rows.angleChordRow.unfollowed == Try.prog.unfollowed 3) = true := by kernel_rfl
theorem k12 : (Rows.angleChordRow.recurses == Try.prog.recurses 3) = true := by kernel_rfl
theorem k13 : (Rows.angleChordRow.named == Try.prog.varsNamed 3) = true := by kernel_rfl
theorem k14 : (Rows.angleChordRow.maps == (Try.f3.params.toList ++ Rows.angleChordSpec.plain.varTypes Try.prog).any (Try.prog.mapsRec ·)) = true := by kernel_rfl
theorem k15 : (Rows.angleChordRow.ifaces == (Try.f3.params.toList ++ Rows.angleChordSpec.plain.varTypes Try.prog).any (Try.prog.ifacesRec ·)) = true := by kernel_rfl
theorem k16 : (Rows.angleChordRow.mapsOut == Try.prog.mapsAmong Try.f3.resultTypes.toList) = true := by kernel_rfl
theorem k17 : (Rows.angleChordRow.loops == (Try.f3.params.toList ++ Rows.angleChordSpec.plain.varTypes Try.prog).any (Try.prog.loopsFrom ·)) = true := by kernel_rfl
theorem k18 : (Rows.angleChordRow.wideKeys == (Try.f3.params.toList ++ Rows.angleChordSpec.plain.varTypes Try.prog ++ Try.f3.resultTypes.toList).any (Try.prog.wideKeysFrom ·)) = true := by kernel_rfl
theorem k19 : Rows.angleChordSpec.vars.all (Try.prog.varReadable ·) = true := by kernel_rfl
theorem k20 : Try.f3.resultTypes.all (fun t => Try.prog.readableRec t && decide (t < Try.prog.types.size)) = true := by kernel_rfl
theorem k21 : (Rows.angleChordRow.ifacesOut == Try.f3.resultTypes.toList.any (Try.prog.ifacesRec ·)) = true := by kernel_rfl
theorem k22 : (Rows.angleChordRow.loopsOut == Try.f3.resultTypes.toList.any (Try.prog.loopsFrom ·)) = true := by kernel_rfl
theorem k23 : (Rows.angleChordRow.plainKeys == Try.prog.plainKeys) = true := by kernel_rfl
theorem k24 : Rows.angleChordRow.shortTexts.isNone = true := by kernel_rfl
theorem k27 : (Rows.angleChordRow.lifted == Try.prog.liftsFinal) = true := by rw [Go.RX.Seat.lifts]; rfl
theorem k28 : (Try.prog.make == some Rows.angleChordRow.make) = true := by rw [Go.RX.Seat.make]; rfl
theorem k29 : Go.RX.kindsOk Try.prog Try.f3 Rows.angleChordRow = true := by kernel_rfl
theorem k30 : (Rows.angleChordRow.pinned == Rows.angleChordRow.pinnedBy) = true := by kernel_rfl
theorem k31 : (Rows.angleChordRow.veiled == (Try.f3.params.toList ++ Rows.angleChordSpec.plain.varTypes Try.prog ++ Try.f3.resultTypes.toList).any (Try.prog.veiledRec ·)) = true := by kernel_rfl
theorem k32 : Rows.angleChordRow.veiledFits Try.prog Try.f3.params.toList (Try.f3.params.toList ++ Rows.angleChordSpec.plain.varTypes Try.prog ++ Try.f3.resultTypes.toList) = true := by kernel_rfl
theorem facts : joinedFacts Try.prog 3 Try.f3 Rows.angleChordSpec Rows.angleChordRow = true := Go.RX.facts_of (P := Try.prog) (f := 3) (fn := Try.f3) (s := Rows.angleChordSpec) (c := Rows.angleChordRow) k1 Go.RX.Seat.laid Go.RX.Seat.mapsRow k4 k5 k6 Go.RX.Seat.stops k8 Go.RX.Seat.stopKnobs k10 k11 k12 k13 k14 k15 k16 k17 k18 k19 k20 k21 k22 k23 k24 Go.RX.Seat.heard Go.RX.Seat.enter k27 k28 k29 k30 k31 k32

theorem par : Try.f3.params = [3].toArray := by kernel_rfl
theorem res : Try.f3.resultTypes = #[4] := by kernel_rfl
theorem rds : (([3] : List TypeId).all fun t => Try.prog.readableRec t && decide (t < Try.prog.types.size)) = true := by kernel_rfl
theorem tys : Go.RX.tysOk Try.prog 9 [3] [.int .i64] = true := by kernel_rfl
theorem noInit : Try.prog.inits.idxOf? 3 = none := by kernel_rfl
set_option maxRecDepth 100000 in
theorem lifted (os : Os) (started : os.Started) (H : Type) (enc : TypeId × Value → H) :
    ReturnsInHanded {} Try.checked os 3 .any (Rows.angleChordSpec.pre6 enc Try.prog Try.f3 Rows.angleChordRow.domain false) (Rows.angleChordSpec.post enc Try.prog Try.f3 false true false false) :=
  Go.RX.law_lifted (C := Try.checked) (ts := [3]) (As := [.int .i64]) (b := 4) (n := 9) Go.RX.Seat.own started noInit Try.func3 (ChangeSpec.witness6 (enc := enc) (C := Try.checked) false ⟨#[], #[.int .i64 0], []⟩ 8 (by kernel_rfl) (by kernel_rfl) (by kernel_rfl) (by kernel_rfl))
    Go.RX.Seat.laid par rds res Try.underlying4 rfl (fun ds h => match ds, h with
      | [d0], _ => rfl) tys Go.RX.fn_armplanlaw3_AngleChord (fun x ok => by rw [Go.RX.chord_law x.1])

theorem over : Rows.angleChordRow.holds Try.pinned (OpenSpec.ofChange Rows.angleChordSpec) :=
  OpenClaim.holds_of_wide 3 Try.f3 rfl rfl rfl rfl rfl rfl rfl ⟨rfl, rfl, rfl, rfl, rfl⟩ rfl rfl rfl rfl rfl (by kernel_rfl) Try.func3 facts
    (of_decide_eq_true (by kernel_rfl)) (by unfold Func.isWrapper; first | (rw [if_pos (by decide +kernel)]; kernel_rfl) | (rw [if_neg (by decide +kernel)]; exact ⟨rfl, rfl⟩))
    (fun os started H enc _ => lifted os started H enc)

/-- THE STATEMENT -/
theorem proved : Rows.AngleChordSaid :=
  over
end Go.Proofs.Ytlikaaohkecccaa.angleChord

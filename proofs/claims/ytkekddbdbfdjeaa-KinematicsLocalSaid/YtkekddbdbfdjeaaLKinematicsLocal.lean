/-
  armplanlaw11.KinematicsLocal returns true for every input, and leaves the input as it was. No condition.
-/
import Derived.Test.YtkekddbdbfdjeaaRows
import Derived.Test.YtkekddbdbfdjeaaRy
import Derived.Test.YtkekddbdbfdjeaaG8
namespace Go.Proofs.Ytkekddbdbfdjeaa.kinematicsLocal
open Go.ChangeShapes Go.WideShapes Go.ChangeAt Go.RowKit

theorem k1 : Rows.kinematicsLocalRow.wf (OpenSpec.ofChange Rows.kinematicsLocalSpec) = true := by kernel_rfl
theorem k4 : Try.f13.params.all (Try.prog.readableRec ·) = true := by kernel_rfl
theorem k5 : namedTie Try.prog Rows.kinematicsLocalRow.named Rows.kinematicsLocalSpec.vars = true := by kernel_rfl
theorem k6 : (Rows.kinematicsLocalRow.stops == []) = true := by kernel_rfl
theorem k8 : (Rows.kinematicsLocalRow.knobs == []) = true := by kernel_rfl
theorem k10 : (Rows.kinematicsLocalRow.inPlace == Try.prog.inPlace 13) = true := by kernel_rfl
theorem k11 : (Rows.kinematicsLocalRow.unfollowed == Try.prog.unfollowed 13) = true := by kernel_rfl
theorem k12 : (Rows.kinematicsLocalRow.recurses == Try.prog.recurses 13) = true := by kernel_rfl
theorem k13 : (Rows.kinematicsLocalRow.named == Try.prog.varsNamed 13) = true := by kernel_rfl
theorem k14 : (Rows.kinematicsLocalRow.maps == (Try.f13.params.toList ++ Rows.kinematicsLocalSpec.plain.varTypes Try.prog).any (Try.prog.mapsRec ·)) = true := by kernel_rfl
theorem k15 : (Rows.kinematicsLocalRow.ifaces == (Try.f13.params.toList ++ Rows.kinematicsLocalSpec.plain.varTypes Try.prog).any (Try.prog.ifacesRec ·)) = true := by kernel_rfl
theorem k16 : (Rows.kinematicsLocalRow.mapsOut == Try.prog.mapsAmong Try.f13.resultTypes.toList) = true := by kernel_rfl
theorem k17 : (Rows.kinematicsLocalRow.loops == (Try.f13.params.toList ++ Rows.kinematicsLocalSpec.plain.varTypes Try.prog).any (Try.prog.loopsFrom ·)) = true := by kernel_rfl
theorem k18 : (Rows.kinematicsLocalRow.wideKeys == (Try.f13.params.toList ++ Rows.kinematicsLocalSpec.plain.varTypes Try.prog ++ Try.f13.resultTypes.toList).any (Try.prog.wideKeysFrom ·)) = true := by kernel_rfl
theorem k19 : Rows.kinematicsLocalSpec.vars.all (Try.prog.varReadable ·) = true := by kernel_rfl
theorem k20 : Try.f13.resultTypes.all (fun t => Try.prog.readableRec t && decide (t < Try.prog.types.size)) = true := by kernel_rfl
theorem k21 : (Rows.kinematicsLocalRow.ifacesOut == Try.f13.resultTypes.toList.any (Try.prog.ifacesRec ·)) = true := by kernel_rfl
theorem k22 : (Rows.kinematicsLocalRow.loopsOut == Try.f13.resultTypes.toList.any (Try.prog.loopsFrom ·)) = true := by kernel_rfl
theorem k23 : (Rows.kinematicsLocalRow.plainKeys == Try.prog.plainKeys) = true := by kernel_rfl
theorem k24 : Rows.kinematicsLocalRow.shortTexts.isNone = true := by kernel_rfl
theorem k27 : (Rows.kinematicsLocalRow.lifted == Try.prog.liftsFinal) = true := by rw [Go.RX.Seat.lifts]; rfl
theorem k28 : (Try.prog.make == some Rows.kinematicsLocalRow.make) = true := by rw [Go.RX.Seat.make]; rfl
theorem k29 : Go.RX.kindsOk Try.prog Try.f13 Rows.kinematicsLocalRow = true := by kernel_rfl
theorem k30 : (Rows.kinematicsLocalRow.pinned == Rows.kinematicsLocalRow.pinnedBy) = true := by kernel_rfl
theorem k31 : (Rows.kinematicsLocalRow.veiled == (Try.f13.params.toList ++ Rows.kinematicsLocalSpec.plain.varTypes Try.prog ++ Try.f13.resultTypes.toList).any (Try.prog.veiledRec ·)) = true := by kernel_rfl
theorem k32 : Rows.kinematicsLocalRow.veiledFits Try.prog Try.f13.params.toList (Try.f13.params.toList ++ Rows.kinematicsLocalSpec.plain.varTypes Try.prog ++ Try.f13.resultTypes.toList) = true := by kernel_rfl
theorem facts : joinedFacts Try.prog 13 Try.f13 Rows.kinematicsLocalSpec Rows.kinematicsLocalRow = true := Go.RX.facts_of (P := Try.prog) (f := 13) (fn := Try.f13) (s := Rows.kinematicsLocalSpec) (c := Rows.kinematicsLocalRow) k1 Go.RX.Seat.laid Go.RX.Seat.mapsRow k4 k5 k6 Go.RX.Seat.stops k8 Go.RX.Seat.stopKnobs k10 k11 k12 k13 k14 k15 k16 k17 k18 k19 k20 k21 k22 k23 k24 Go.RX.Seat.heard Go.RX.Seat.enter k27 k28 k29 k30 k31 k32

theorem par : Try.f13.params = [22, 22, 3, 3, 3].toArray := by kernel_rfl
theorem res : Try.f13.resultTypes = #[4] := by kernel_rfl
theorem rds : (([22, 22, 3, 3, 3] : List TypeId).all fun t => Try.prog.readableRec t && decide (t < Try.prog.types.size)) = true := by kernel_rfl
theorem tys : Go.RX.tysOk Try.prog 9 [22, 22, 3, 3, 3] [.list (.int .i64), .list (.int .i64), .int .i64, .int .i64, .int .i64] = true := by kernel_rfl
theorem noInit : Try.prog.inits.idxOf? 13 = none := by kernel_rfl
set_option maxRecDepth 100000 in
theorem lifted (os : Os) (started : os.Started) (H : Type) (enc : TypeId × Value → H) :
    ReturnsInHanded {} Try.checked os 13 .any (Rows.kinematicsLocalSpec.pre6 enc Try.prog Try.f13 Rows.kinematicsLocalRow.domain false) (Rows.kinematicsLocalSpec.post enc Try.prog Try.f13 false true false false) :=
  Go.RX.law_lifted (C := Try.checked) (ts := [22, 22, 3, 3, 3]) (As := [.list (.int .i64), .list (.int .i64), .int .i64, .int .i64, .int .i64]) (b := 4) (n := 9) Go.RX.Seat.own started noInit Try.func13 (ChangeSpec.witness6 (enc := enc) (C := Try.checked) false ⟨#[], #[.slice none 0 0, .slice none 0 0, .int .i64 0, .int .i64 0, .int .i64 0], []⟩ 8 (by kernel_rfl) (by kernel_rfl) (by kernel_rfl) (by kernel_rfl))
    Go.RX.Seat.laid par rds res Try.underlying4 rfl (fun ds h => match ds, h with
      | [d0, d1, d2, d3, d4], _ => rfl) tys Go.RX.fn_armplanlaw11_KinematicsLocal (fun x ok => by have h := Go.RX.klocal_law ok.1.1 ok.2.1.1 x.2.2.1 x.2.2.2.1 x.2.2.2.2.1; rw [h.1, h.2]; rfl)

theorem over : Rows.kinematicsLocalRow.holds Try.pinned (OpenSpec.ofChange Rows.kinematicsLocalSpec) :=
  OpenClaim.holds_of_wide 13 Try.f13 rfl rfl rfl rfl rfl rfl rfl ⟨rfl, rfl, rfl, rfl, rfl⟩ rfl rfl rfl rfl rfl (by kernel_rfl) Try.func13 facts
    (of_decide_eq_true (by kernel_rfl)) (by unfold Func.isWrapper; first | (rw [if_pos (by decide +kernel)]; kernel_rfl) | (rw [if_neg (by decide +kernel)]; exact ⟨rfl, rfl⟩))
    (fun os started H enc _ => lifted os started H enc)

/-- THE STATEMENT -/
theorem proved : Rows.KinematicsLocalSaid :=
  over
end Go.Proofs.Ytkekddbdbfdjeaa.kinematicsLocal

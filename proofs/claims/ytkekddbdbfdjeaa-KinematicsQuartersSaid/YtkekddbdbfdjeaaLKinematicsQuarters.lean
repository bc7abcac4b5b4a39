/-
  armplanlaw11.KinematicsQuarters returns true for every input, and leaves the input as it was. No condition.
-/
import Derived.Test.YtkekddbdbfdjeaaRows
import Derived.Test.YtkekddbdbfdjeaaRy
import Derived.Test.YtkekddbdbfdjeaaKs
namespace Go.Proofs.Ytkekddbdbfdjeaa.kinematicsQuarters
open Go.ChangeShapes Go.WideShapes Go.ChangeAt Go.RowKit

theorem k1 : Rows.kinematicsQuartersRow.wf (OpenSpec.ofChange Rows.kinematicsQuartersSpec) = true := by kernel_rfl
theorem k4 : Try.f14.params.all (Try.prog.readableRec ·) = true := by kernel_rfl
theorem k5 : namedTie Try.prog Rows.kinematicsQuartersRow.named Rows.kinematicsQuartersSpec.vars = true := by kernel_rfl
theorem k6 : (Rows.kinematicsQuartersRow.stops == []) = true := by kernel_rfl
theorem k8 : (Rows.kinematicsQuartersRow.knobs == []) = true := by kernel_rfl
theorem k10 : (Rows.kinematicsQuartersRow.inPlace == Try.prog.inPlace 14) = true := by kernel_rfl
theorem k11 : (Rows.kinematicsQuartersRow.unfollowed == Try.prog.unfollowed 14) = true := by kernel_rfl
theorem k12 : (Rows.kinematicsQuartersRow.recurses == Try.prog.recurses 14) = true := by kernel_rfl
theorem k13 : (Rows.kinematicsQuartersRow.named == Try.prog.varsNamed 14) = true := by kernel_rfl
theorem k14 : (Rows.kinematicsQuartersRow.maps == (Try.f14.params.toList ++ Rows.kinematicsQuartersSpec.plain.varTypes Try.prog).any (Try.prog.mapsRec ·)) = true := by kernel_rfl
theorem k15 : (Rows.kinematicsQuartersRow.ifaces == (Try.f14.params.toList ++ Rows.kinematicsQuartersSpec.plain.varTypes Try.prog).any (Try.prog.ifacesRec ·)) = true := by kernel_rfl
theorem k16 : (Rows.kinematicsQuartersRow.mapsOut == Try.prog.mapsAmong Try.f14.resultTypes.toList) = true := by kernel_rfl
theorem k17 : (Rows.kinematicsQuartersRow.loops == (Try.f14.params.toList ++ Rows.kinematicsQuartersSpec.plain.varTypes Try.prog).any (Try.prog.loopsFrom ·)) = true := by kernel_rfl
theorem k18 : (Rows.kinematicsQuartersRow.wideKeys == (Try.f14.params.toList ++ Rows.kinematicsQuartersSpec.plain.varTypes Try.prog ++ Try.f14.resultTypes.toList).any (Try.prog.wideKeysFrom ·)) = true := by kernel_rfl
theorem k19 : Rows.kinematicsQuartersSpec.vars.all (Try.prog.varReadable ·) = true := by kernel_rfl
theorem k20 : Try.f14.resultTypes.all (fun t => Try.prog.readableRec t && decide (t < Try.prog.types.size)) = true := by kernel_rfl
theorem k21 : (Rows.kinematicsQuartersRow.ifacesOut == Try.f14.resultTypes.toList.any (Try.prog.ifacesRec ·)) = true := by kernel_rfl
theorem k22 : (Rows.kinematicsQuartersRow.loopsOut == Try.f14.resultTypes.toList.any (Try.prog.loopsFrom ·)) = true := by kernel_rfl
theorem k23 : (Rows.kinematicsQuartersRow.plainKeys == Try.prog.plainKeys) = true := by kernel_rfl
theorem k24 : Rows.kinematicsQuartersRow.shortTexts.isNone = true := by kernel_rfl
theorem k27 : (Rows.kinematicsQuartersRow.lifted == Try.prog.liftsFinal) = true := by rw [Go.RX.Seat.lifts]; rfl
theorem k28 : (Try.prog.make == some Rows.kinematicsQuartersRow.make) = true := by rw [Go.RX.Seat.make]; rfl
theorem k29 : Go.RX.kindsOk Try.prog Try.f14 Rows.kinematicsQuartersRow = true := by kernel_rfl
theorem k30 : (Rows.kinematicsQuartersRow.pinned == Rows.kinematicsQuartersRow.pinnedBy) = true := by kernel_rfl
theorem k31 : (Rows.kinematicsQuartersRow.veiled == (Try.f14.params.toList ++ Rows.kinematicsQuartersSpec.plain.varTypes Try.prog ++ Try.f14.resultTypes.toList).any (Try.prog.veiledRec ·)) = true := by kernel_rfl
theorem k32 : Rows.kinematicsQuartersRow.veiledFits Try.prog Try.f14.params.toList (Try.f14.params.toList ++ Rows.kinematicsQuartersSpec.plain.varTypes Try.prog ++ Try.f14.resultTypes.toList) = true := by kernel_rfl
theorem facts : joinedFacts Try.prog 14 Try.f14 Rows.kinematicsQuartersSpec Rows.kinematicsQuartersRow = true := Go.RX.facts_of (P := Try.prog) (f := 14) (fn := Try.f14) (s := Rows.kinematicsQuartersSpec) (c := Rows.kinematicsQuartersRow) k1 Go.RX.Seat.laid Go.RX.Seat.mapsRow k4 k5 k6 Go.RX.Seat.stops k8 Go.RX.Seat.stopKnobs k10 k11 k12 k13 k14 k15 k16 k17 k18 k19 k20 k21 k22 k23 k24 Go.RX.Seat.heard Go.RX.Seat.enter k27 k28 k29 k30 k31 k32

theorem par : Try.f14.params = [22, 22].toArray := by kernel_rfl
theorem res : Try.f14.resultTypes = #[4] := by kernel_rfl
theorem rds : (([22, 22] : List TypeId).all fun t => Try.prog.readableRec t && decide (t < Try.prog.types.size)) = true := by kernel_rfl
theorem tys : Go.RX.tysOk Try.prog 9 [22, 22] [.list (.int .i64), .list (.int .i64)] = true := by kernel_rfl
theorem noInit : Try.prog.inits.idxOf? 14 = none := by kernel_rfl
set_option maxRecDepth 100000 in
theorem lifted (os : Os) (started : os.Started) (H : Type) (enc : TypeId × Value → H) :
    ReturnsInHanded {} Try.checked os 14 .any (Rows.kinematicsQuartersSpec.pre6 enc Try.prog Try.f14 Rows.kinematicsQuartersRow.domain false) (Rows.kinematicsQuartersSpec.post enc Try.prog Try.f14 false true false false) :=
  Go.RX.law_lifted (C := Try.checked) (ts := [22, 22]) (As := [.list (.int .i64), .list (.int .i64)]) (b := 4) (n := 9) Go.RX.Seat.own started noInit Try.func14 (ChangeSpec.witness6 (enc := enc) (C := Try.checked) false ⟨#[], #[.slice none 0 0, .slice none 0 0], []⟩ 8 (by kernel_rfl) (by kernel_rfl) (by kernel_rfl) (by kernel_rfl))
    Go.RX.Seat.laid par rds res Try.underlying4 rfl (fun ds h => match ds, h with
      | [d0, d1], _ => rfl) tys Go.RX.fn_armplanlaw11_KinematicsQuarters (fun x ok => by have h := Go.RX.kquarters_law ok.1.1 ok.2.1.1; rw [h.1, h.2]; rfl)

theorem over : Rows.kinematicsQuartersRow.holds Try.pinned (OpenSpec.ofChange Rows.kinematicsQuartersSpec) :=
  OpenClaim.holds_of_wide 14 Try.f14 rfl rfl rfl rfl rfl rfl rfl ⟨rfl, rfl, rfl, rfl, rfl⟩ rfl rfl rfl rfl rfl (by kernel_rfl) Try.func14 facts
    (of_decide_eq_true (by kernel_rfl)) (by unfold Func.isWrapper; first | (rw [if_pos (by decide +kernel)]; kernel_rfl) | (rw [if_neg (by decide +kernel)]; exact ⟨rfl, rfl⟩))
    (fun os started H enc _ => lifted os started H enc)

/-- THE STATEMENT -/
theorem proved : Rows.KinematicsQuartersSaid :=
  over
end Go.Proofs.Ytkekddbdbfdjeaa.kinematicsQuarters

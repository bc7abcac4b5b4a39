/-
  armplanlaw11.KinematicsPlaced returns true for every input, and leaves the input as it was. No condition.
-/
import Derived.Test.YtkekddbdbfdjeaaGreatRows
import Derived.Test.YtkekddbdbfdjeaaGreatRy
import Derived.Test.YtkekddbdbfdjeaaGreatG8
namespace Go.Proofs.YtkekddbdbfdjeaaGreat.kinematicsPlaced
open Go.ChangeShapes Go.WideShapes Go.ChangeAt Go.RowKit

theorem k1 : Rows.kinematicsPlacedRow.wf (OpenSpec.ofChange Rows.kinematicsPlacedSpec) = true := by kernel_rfl
theorem k4 : Tryz.f5.params.all (Tryz.prog.readableRec ·) = true := by kernel_rfl
theorem k5 : namedTie Tryz.prog Rows.kinematicsPlacedRow.named Rows.kinematicsPlacedSpec.vars = true := by kernel_rfl
theorem k6 : (Rows.kinematicsPlacedRow.stops == []) = true := by kernel_rfl
theorem k8 : (Rows.kinematicsPlacedRow.knobs == []) = true := by kernel_rfl
theorem k10 : (Rows.kinematicsPlacedRow.inPlace == Tryz.prog.inPlace 5) = true := by kernel_rfl
theorem k11 : (Rows.kinematicsPlacedRow.unfollowed == Tryz.prog.unfollowed 5) = true := by kernel_rfl
theorem k12 : (Rows.kinematicsPlacedRow.recurses == Tryz.prog.recurses 5) = true := by kernel_rfl
theorem k13 : (Rows.kinematicsPlacedRow.named == Tryz.prog.varsNamed 5) = true := by kernel_rfl
theorem k14 : (Rows.kinematicsPlacedRow.maps == (Tryz.f5.params.toList ++ Rows.kinematicsPlacedSpec.plain.varTypes Tryz.prog).any (Tryz.prog.mapsRec ·)) = true := by kernel_rfl
theorem k15 : (Rows.kinematicsPlacedRow.ifaces == (Tryz.f5.params.toList ++ Rows.kinematicsPlacedSpec.plain.varTypes Tryz.prog).any (Tryz.prog.ifacesRec ·)) = true := by kernel_rfl
theorem k16 : (Rows.kinematicsPlacedRow.mapsOut == Tryz.prog.mapsAmong Tryz.f5.resultTypes.toList) = true := by kernel_rfl
theorem k17 : (Rows.kinematicsPlacedRow.loops == (Tryz.f5.params.toList ++ Rows.kinematicsPlacedSpec.plain.varTypes Tryz.prog).any (Tryz.prog.loopsFrom ·)) = true := by kernel_rfl
theorem k18 : (Rows.kinematicsPlacedRow.wideKeys == (Tryz.f5.params.toList ++ Rows.kinematicsPlacedSpec.plain.varTypes Tryz.prog ++ Tryz.f5.resultTypes.toList).any (Tryz.prog.wideKeysFrom ·)) = true := by kernel_rfl
theorem k19 : Rows.kinematicsPlacedSpec.vars.all (Tryz.prog.varReadable ·) = true := by kernel_rfl
theorem k20 : Tryz.f5.resultTypes.all (fun t => Tryz.prog.readableRec t && decide (t < Tryz.prog.types.size)) = true := by kernel_rfl
theorem k21 : (Rows.kinematicsPlacedRow.ifacesOut == Tryz.f5.resultTypes.toList.any (Tryz.prog.ifacesRec ·)) = true := by kernel_rfl
theorem k22 : (Rows.kinematicsPlacedRow.loopsOut == Tryz.f5.resultTypes.toList.any (Tryz.prog.loopsFrom ·)) = true := by kernel_rfl
theorem k23 : (Rows.kinematicsPlacedRow.plainKeys == Tryz.prog.plainKeys) = true := by kernel_rfl
theorem k24 : Rows.kinematicsPlacedRow.shortTexts.isNone = true := by kernel_rfl
theorem k27 : (Rows.kinematicsPlacedRow.lifted == Tryz.prog.liftsFinal) = true := by rw [Go.RX.Seat.lifts]; rfl
theorem k28 : (Tryz.prog.make == some Rows.kinematicsPlacedRow.make) = true := by rw [Go.RX.Seat.make]; rfl
theorem k29 : Go.RX.kindsOk Tryz.prog Tryz.f5 Rows.kinematicsPlacedRow = true := by kernel_rfl
theorem k30 : (Rows.kinematicsPlacedRow.pinned == Rows.kinematicsPlacedRow.pinnedBy) = true := by kernel_rfl
theorem k31 : (Rows.kinematicsPlacedRow.veiled == (Tryz.f5.params.toList ++ Rows.kinematicsPlacedSpec.plain.varTypes Tryz.prog ++ Tryz.f5.resultTypes.toList).any (Tryz.prog.veiledRec ·)) = true := by kernel_rfl
theorem k32 : Rows.kinematicsPlacedRow.veiledFits Tryz.prog Tryz.f5.params.toList (Tryz.f5.params.toList ++ Rows.kinematicsPlacedSpec.plain.varTypes Tryz.prog ++ Tryz.f5.resultTypes.toList) = true := by kernel_rfl
theorem facts : joinedFacts Tryz.prog 5 Tryz.f5 Rows.kinematicsPlacedSpec Rows.kinematicsPlacedRow = true := Go.RX.facts_of (P := Tryz.prog) (f := 5) (fn := Tryz.f5) (s := Rows.kinematicsPlacedSpec) (c := Rows.kinematicsPlacedRow) k1 Go.RX.Seat.laid Go.RX.Seat.mapsRow k4 k5 k6 Go.RX.Seat.stops k8 Go.RX.Seat.stopKnobs k10 k11 k12 k13 k14 k15 k16 k17 k18 k19 k20 k21 k22 k23 k24 Go.RX.Seat.heard Go.RX.Seat.enter k27 k28 k29 k30 k31 k32

theorem par : Tryz.f5.params = [31, 31].toArray := by kernel_rfl
theorem res : Tryz.f5.resultTypes = #[4] := by kernel_rfl
theorem rds : (([31, 31] : List TypeId).all fun t => Tryz.prog.readableRec t && decide (t < Tryz.prog.types.size)) = true := by kernel_rfl
theorem tys : Go.RX.tysOk Tryz.prog 9 [31, 31] [.list (.int .i64), .list (.int .i64)] = true := by kernel_rfl
theorem noInit : Tryz.prog.inits.idxOf? 5 = none := by kernel_rfl
set_option maxRecDepth 100000 in
theorem lifted (os : Os) (started : os.Started) (H : Type) (enc : TypeId × Value → H) :
    ReturnsInHanded {} Tryz.checked os 5 .any (Rows.kinematicsPlacedSpec.pre6 enc Tryz.prog Tryz.f5 Rows.kinematicsPlacedRow.domain false) (Rows.kinematicsPlacedSpec.post enc Tryz.prog Tryz.f5 false true false false) :=
  Go.RX.law_lifted (C := Tryz.checked) (ts := [31, 31]) (As := [.list (.int .i64), .list (.int .i64)]) (b := 4) (n := 9) Go.RX.Seat.own started noInit Tryz.func5 (ChangeSpec.witness6 (enc := enc) (C := Tryz.checked) false ⟨#[], #[.slice none 0 0, .slice none 0 0], []⟩ 8 (by kernel_rfl) (by kernel_rfl) (by kernel_rfl) (by kernel_rfl))
    Go.RX.Seat.laid par rds res Tryz.underlying4 rfl (fun ds h => match ds, h with
      | [d0, d1], _ => rfl) tys Go.RX.fn_armplanlaw11_KinematicsPlaced (fun x ok => by have h := Go.RX.kplaced_law ok.1.1 ok.2.1.1; rw [h.1, h.2]; rfl)

theorem over : Rows.kinematicsPlacedRow.holds Tryz.pinned (OpenSpec.ofChange Rows.kinematicsPlacedSpec) :=
  OpenClaim.holds_of_wide 5 Tryz.f5 rfl rfl rfl rfl rfl rfl rfl ⟨rfl, rfl, rfl, rfl, rfl⟩ rfl rfl rfl rfl rfl (by kernel_rfl) Tryz.func5 facts
    (of_decide_eq_true (by kernel_rfl)) (by unfold Func.isWrapper; first | (rw [if_pos (by decide +kernel)]; kernel_rfl) | (rw [if_neg (by decide +kernel)]; exact ⟨rfl, rfl⟩))
    (fun os started H enc _ => lifted os started H enc)

/-- THE STATEMENT -/
theorem proved : Rows.KinematicsPlacedSaid :=
  over
end Go.Proofs.YtkekddbdbfdjeaaGreat.kinematicsPlaced

/-
  armplanlaw11.KinematicsMonotone returns true for every input, and leaves the input as it was. No condition.
-/
import Derived.Test.YtkekddbdbfdjeaaGreatRows
import Derived.Test.YtkekddbdbfdjeaaGreatRy
import Derived.Test.YtkekddbdbfdjeaaGreatG8
namespace Go.Proofs.YtkekddbdbfdjeaaGreat.kinematicsMonotone
open Go.ChangeShapes Go.WideShapes Go.ChangeAt Go.RowKit

theorem k1 : Rows.kinematicsMonotoneRow.wf (OpenSpec.ofChange Rows.kinematicsMonotoneSpec) = true := by kernel_rfl
theorem k4 : Tryz.f4.params.all (Tryz.prog.readableRec ·) = true := by kernel_rfl
theorem k5 : namedTie Tryz.prog Rows.kinematicsMonotoneRow.named Rows.kinematicsMonotoneSpec.vars = true := by kernel_rfl
theorem k6 : (Rows.kinematicsMonotoneRow.stops == []) = true := by kernel_rfl
theorem k8 : (Rows.kinematicsMonotoneRow.knobs == []) = true := by kernel_rfl
theorem k10 : (Rows.kinematicsMonotoneRow.inPlace == Tryz.prog.inPlace 4) = true := by kernel_rfl
theorem k11 : (Rows.kinematicsMonotoneRow.unfollowed == Tryz.prog.unfollowed 4) = true := by kernel_rfl
theorem k12 : (Rows.kinematicsMonotoneRow.recurses == Tryz.prog.recurses 4) = true := by kernel_rfl
theorem k13 : (Rows.kinematicsMonotoneRow.named == Tryz.prog.varsNamed 4) = true := by kernel_rfl
theorem k14 : (Rows.kinematicsMonotoneRow.maps == (Tryz.f4.params.toList ++ Rows.kinematicsMonotoneSpec.plain.varTypes Tryz.prog).any (Tryz.prog.mapsRec ·)) = true := by kernel_rfl
theorem k15 : (Rows.kinematicsMonotoneRow.ifaces == (Tryz.f4.params.toList ++ Rows.kinematicsMonotoneSpec.plain.varTypes Tryz.prog).any (Tryz.prog.ifacesRec ·)) = true := by kernel_rfl
theorem k16 : (Rows.kinematicsMonotoneRow.mapsOut == Tryz.prog.mapsAmong Tryz.f4.resultTypes.toList) = true := by kernel_rfl
theorem k17 : (Rows.kinematicsMonotoneRow.loops == (Tryz.f4.params.toList ++ Rows.kinematicsMonotoneSpec.plain.varTypes Tryz.prog).any (Tryz.prog.loopsFrom ·)) = true := by kernel_rfl
theorem k18 : (Rows.kinematicsMonotoneRow.wideKeys == (Tryz.f4.params.toList ++ Rows.kinematicsMonotoneSpec.plain.varTypes Tryz.prog ++ Tryz.f4.resultTypes.toList).any (Tryz.prog.wideKeysFrom ·)) = true := by kernel_rfl
theorem k19 : Rows.kinematicsMonotoneSpec.vars.all (Tryz.prog.varReadable ·) = true := by kernel_rfl
theorem k20 : Tryz.f4.resultTypes.all (fun t => Tryz.prog.readableRec t && decide (t < Tryz.prog.types.size)) = true := by kernel_rfl
theorem k21 : (Rows.kinematicsMonotoneRow.ifacesOut == Tryz.f4.resultTypes.toList.any (Tryz.prog.ifacesRec ·)) = true := by kernel_rfl
theorem k22 : (Rows.kinematicsMonotoneRow.loopsOut == Tryz.f4.resultTypes.toList.any (Tryz.prog.loopsFrom ·)) = true := by kernel_rfl
theorem k23 : (Rows.kinematicsMonotoneRow.plainKeys == Tryz.prog.plainKeys) = true := by kernel_rfl
theorem k24 : Rows.kinematicsMonotoneRow.shortTexts.isNone = true := by kernel_rfl
theorem k27 : (Rows.kinematicsMonotoneRow.lifted == Tryz.prog.liftsFinal) = true := by rw [Go.RX.Seat.lifts]; rfl
theorem k28 : (Tryz.prog.make == some Rows.kinematicsMonotoneRow.make) = true := by rw [Go.RX.Seat.make]; rfl
theorem k29 : Go.RX.kindsOk Tryz.prog Tryz.f4 Rows.kinematicsMonotoneRow = true := by kernel_rfl
theorem k30 : (Rows.kinematicsMonotoneRow.pinned == Rows.kinematicsMonotoneRow.pinnedBy) = true := by kernel_rfl
theorem k31 : (Rows.kinematicsMonotoneRow.veiled == (Tryz.f4.params.toList ++ Rows.kinematicsMonotoneSpec.plain.varTypes Tryz.prog ++ Tryz.f4.resultTypes.toList).any (Tryz.prog.veiledRec ·)) = true := by kernel_rfl
theorem k32 : Rows.kinematicsMonotoneRow.veiledFits Tryz.prog Tryz.f4.params.toList (Tryz.f4.params.toList ++ Rows.kinematicsMonotoneSpec.plain.varTypes Tryz.prog ++ Tryz.f4.resultTypes.toList) = true := by kernel_rfl
theorem facts : joinedFacts Tryz.prog 4 Tryz.f4 Rows.kinematicsMonotoneSpec Rows.kinematicsMonotoneRow = true := Go.RX.facts_of (P := Tryz.prog) (f := 4) (fn := Tryz.f4) (s := Rows.kinematicsMonotoneSpec) (c := Rows.kinematicsMonotoneRow) k1 Go.RX.Seat.laid Go.RX.Seat.mapsRow k4 k5 k6 Go.RX.Seat.stops k8 Go.RX.Seat.stopKnobs k10 k11 k12 k13 k14 k15 k16 k17 k18 k19 k20 k21 k22 k23 k24 Go.RX.Seat.heard Go.RX.Seat.enter k27 k28 k29 k30 k31 k32

theorem par : Tryz.f4.params = [31, 31, 31].toArray := by kernel_rfl
theorem res : Tryz.f4.resultTypes = #[4] := by kernel_rfl
theorem rds : (([31, 31, 31] : List TypeId).all fun t => Tryz.prog.readableRec t && decide (t < Tryz.prog.types.size)) = true := by kernel_rfl
theorem tys : Go.RX.tysOk Tryz.prog 9 [31, 31, 31] [.list (.int .i64), .list (.int .i64), .list (.int .i64)] = true := by kernel_rfl
theorem noInit : Tryz.prog.inits.idxOf? 4 = none := by kernel_rfl
set_option maxRecDepth 100000 in
theorem lifted (os : Os) (started : os.Started) (H : Type) (enc : TypeId × Value → H) :
    ReturnsInHanded {} Tryz.checked os 4 .any (Rows.kinematicsMonotoneSpec.pre6 enc Tryz.prog Tryz.f4 Rows.kinematicsMonotoneRow.domain false) (Rows.kinematicsMonotoneSpec.post enc Tryz.prog Tryz.f4 false true false false) :=
  Go.RX.law_lifted (C := Tryz.checked) (ts := [31, 31, 31]) (As := [.list (.int .i64), .list (.int .i64), .list (.int .i64)]) (b := 4) (n := 9) Go.RX.Seat.own started noInit Tryz.func4 (ChangeSpec.witness6 (enc := enc) (C := Tryz.checked) false ⟨#[], #[.slice none 0 0, .slice none 0 0, .slice none 0 0], []⟩ 8 (by kernel_rfl) (by kernel_rfl) (by kernel_rfl) (by kernel_rfl))
    Go.RX.Seat.laid par rds res Tryz.underlying4 rfl (fun ds h => match ds, h with
      | [d0, d1, d2], _ => rfl) tys Go.RX.fn_armplanlaw11_KinematicsMonotone (fun x ok => by have h := Go.RX.kmonotone_law ok.1.1 ok.2.1.1 ok.2.2.1.1; rw [h.1, h.2]; rfl)

theorem over : Rows.kinematicsMonotoneRow.holds Tryz.pinned (OpenSpec.ofChange Rows.kinematicsMonotoneSpec) :=
  OpenClaim.holds_of_wide 4 Tryz.f4 rfl rfl rfl rfl rfl rfl rfl ⟨rfl, rfl, rfl, rfl, rfl⟩ rfl rfl rfl rfl rfl (by kernel_rfl) Tryz.func4 facts
    (of_decide_eq_true (by kernel_rfl)) (by unfold Func.isWrapper; first | (rw [if_pos (by decide +kernel)]; kernel_rfl) | (rw [if_neg (by decide +kernel)]; exact ⟨rfl, rfl⟩))
    (fun os started H enc _ => lifted os started H enc)

/-- THE STATEMENT -/
theorem proved : Rows.KinematicsMonotoneSaid :=
  over
end Go.Proofs.YtkekddbdbfdjeaaGreat.kinematicsMonotone

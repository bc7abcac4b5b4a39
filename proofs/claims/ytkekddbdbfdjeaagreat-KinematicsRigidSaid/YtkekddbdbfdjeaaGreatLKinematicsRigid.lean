/-
  armplanlaw11.KinematicsRigid returns true for every input, and leaves the input as it was. No condition.
-/
import Derived.Test.YtkekddbdbfdjeaaGreatRows
import Derived.Test.YtkekddbdbfdjeaaGreatRy
import Derived.Test.YtkekddbdbfdjeaaGreatKq
namespace Go.Proofs.YtkekddbdbfdjeaaGreat.kinematicsRigid
open Go.ChangeShapes Go.WideShapes Go.ChangeAt Go.RowKit

theorem k1 : Rows.kinematicsRigidRow.wf (OpenSpec.ofChange Rows.kinematicsRigidSpec) = true := by kernel_rfl
theorem k4 : Tryz.f6.params.all (Tryz.prog.readableRec ·) = true := by kernel_rfl
theorem k5 : namedTie Tryz.prog Rows.kinematicsRigidRow.named Rows.kinematicsRigidSpec.vars = true := by kernel_rfl
theorem k6 : (Rows.kinematicsRigidRow.stops == []) = true := by kernel_rfl
theorem k8 : (Rows.kinematicsRigidRow.knobs == []) = true := by kernel_rfl
theorem k10 : (Rows.kinematicsRigidRow.inPlace == Tryz.prog.inPlace 6) = true := by kernel_rfl
theorem k11 : (Rows.kinematicsRigidRow.unfollowed == Tryz.prog.unfollowed 6) = true := by kernel_rfl
theorem k12 : (Rows.kinematicsRigidRow.recurses == Tryz.prog.recurses 6) = true := by kernel_rfl
theorem k13 : (Rows.kinematicsRigidRow.named == Tryz.prog.varsNamed 6) = true := by kernel_rfl
theorem k14 : (Rows.kinematicsRigidRow.maps == (Tryz.f6.params.toList ++ Rows.kinematicsRigidSpec.plain.varTypes Tryz.prog).any (Tryz.prog.mapsRec ·)) = true := by kernel_rfl
theorem k15 : (Rows.kinematicsRigidRow.ifaces == (Tryz.f6.params.toList ++ Rows.kinematicsRigidSpec.plain.varTypes Tryz.prog).any (Tryz.prog.ifacesRec ·)) = true := by kernel_rfl
theorem k16 : (Rows.kinematicsRigidRow.mapsOut == Tryz.prog.mapsAmong Tryz.f6.resultTypes.toList) = true := by kernel_rfl
theorem k17 : (Rows.kinematicsRigidRow.loops == (Tryz.f6.params.toList ++ Rows.kinematicsRigidSpec.plain.varTypes Tryz.prog).any (Tryz.prog.loopsFrom ·)) = true := by kernel_rfl
theorem k18 : (Rows.kinematicsRigidRow.wideKeys == (Tryz.f6.params.toList ++ Rows.kinematicsRigidSpec.plain.varTypes Tryz.prog ++ Tryz.f6.resultTypes.toList).any (Tryz.prog.wideKeysFrom ·)) = true := by kernel_rfl
theorem k19 : Rows.kinematicsRigidSpec.vars.all (Tryz.prog.varReadable ·) = true := by kernel_rfl
theorem k20 : Tryz.f6.resultTypes.all (fun t => Tryz.prog.readableRec t && decide (t < Tryz.prog.types.size)) = true := by kernel_rfl
theorem k21 : (Rows.kinematicsRigidRow.ifacesOut == Tryz.f6.resultTypes.toList.any (Tryz.prog.ifacesRec ·)) = true := by kernel_rfl
theorem k22 : (Rows.kinematicsRigidRow.loopsOut == Tryz.f6.resultTypes.toList.any (Tryz.prog.loopsFrom ·)) = true := by kernel_rfl
theorem k23 : (Rows.kinematicsRigidRow.plainKeys == Tryz.prog.plainKeys) = true := by kernel_rfl
theorem k24 : Rows.kinematicsRigidRow.shortTexts.isNone = true := by kernel_rfl
theorem k27 : (Rows.kinematicsRigidRow.lifted == Tryz.prog.liftsFinal) = true := by rw [Go.RX.Seat.lifts]; rfl
theorem k28 : (Tryz.prog.make == some Rows.kinematicsRigidRow.make) = true := by rw [Go.RX.Seat.make]; rfl
theorem k29 : Go.RX.kindsOk Tryz.prog Tryz.f6 Rows.kinematicsRigidRow = true := by kernel_rfl
theorem k30 : (Rows.kinematicsRigidRow.pinned == Rows.kinematicsRigidRow.pinnedBy) = true := by kernel_rfl
theorem k31 : (Rows.kinematicsRigidRow.veiled == (Tryz.f6.params.toList ++ Rows.kinematicsRigidSpec.plain.varTypes Tryz.prog ++ Tryz.f6.resultTypes.toList).any (Tryz.prog.veiledRec ·)) = true := by kernel_rfl
theorem k32 : Rows.kinematicsRigidRow.veiledFits Tryz.prog Tryz.f6.params.toList (Tryz.f6.params.toList ++ Rows.kinematicsRigidSpec.plain.varTypes Tryz.prog ++ Tryz.f6.resultTypes.toList) = true := by kernel_rfl
theorem facts : joinedFacts Tryz.prog 6 Tryz.f6 Rows.kinematicsRigidSpec Rows.kinematicsRigidRow = true := Go.RX.facts_of (P := Tryz.prog) (f := 6) (fn := Tryz.f6) (s := Rows.kinematicsRigidSpec) (c := Rows.kinematicsRigidRow) k1 Go.RX.Seat.laid Go.RX.Seat.mapsRow k4 k5 k6 Go.RX.Seat.stops k8 Go.RX.Seat.stopKnobs k10 k11 k12 k13 k14 k15 k16 k17 k18 k19 k20 k21 k22 k23 k24 Go.RX.Seat.heard Go.RX.Seat.enter k27 k28 k29 k30 k31 k32

theorem par : Tryz.f6.params = [31, 31, 3].toArray := by kernel_rfl
theorem res : Tryz.f6.resultTypes = #[4] := by kernel_rfl
theorem rds : (([31, 31, 3] : List TypeId).all fun t => Tryz.prog.readableRec t && decide (t < Tryz.prog.types.size)) = true := by kernel_rfl
theorem tys : Go.RX.tysOk Tryz.prog 9 [31, 31, 3] [.list (.int .i64), .list (.int .i64), .int .i64] = true := by kernel_rfl
theorem noInit : Tryz.prog.inits.idxOf? 6 = none := by kernel_rfl
set_option maxRecDepth 100000 in
theorem lifted (os : Os) (started : os.Started) (H : Type) (enc : TypeId × Value → H) :
    ReturnsInHanded {} Tryz.checked os 6 .any (Rows.kinematicsRigidSpec.pre6 enc Tryz.prog Tryz.f6 Rows.kinematicsRigidRow.domain false) (Rows.kinematicsRigidSpec.post enc Tryz.prog Tryz.f6 false true false false) :=
  Go.RX.law_lifted (C := Tryz.checked) (ts := [31, 31, 3]) (As := [.list (.int .i64), .list (.int .i64), .int .i64]) (b := 4) (n := 9) Go.RX.Seat.own started noInit Tryz.func6 (ChangeSpec.witness6 (enc := enc) (C := Tryz.checked) false ⟨#[], #[.slice none 0 0, .slice none 0 0, .int .i64 0], []⟩ 8 (by kernel_rfl) (by kernel_rfl) (by kernel_rfl) (by kernel_rfl))
    Go.RX.Seat.laid par rds res Tryz.underlying4 rfl (fun ds h => match ds, h with
      | [d0, d1, d2], _ => rfl) tys Go.RX.fn_armplanlaw11_KinematicsRigid (fun x ok => by have h := Go.RX.krigid_law ok.1.1 ok.2.1.1 x.2.2.1; rw [h.1, h.2]; rfl)

theorem over : Rows.kinematicsRigidRow.holds Tryz.pinned (OpenSpec.ofChange Rows.kinematicsRigidSpec) :=
  OpenClaim.holds_of_wide 6 Tryz.f6 rfl rfl rfl rfl rfl rfl rfl ⟨rfl, rfl, rfl, rfl, rfl⟩ rfl rfl rfl rfl rfl (by kernel_rfl) Tryz.func6 facts
    (of_decide_eq_true (by kernel_rfl)) (by unfold Func.isWrapper; first | (rw [if_pos (by decide +kernel)]; kernel_rfl) | (rw [if_neg (by decide +kernel)]; exact ⟨rfl, rfl⟩))
    (fun os started H enc _ => lifted os started H enc)

/-- THE STATEMENT -/
theorem proved : Rows.KinematicsRigidSaid :=
  over
end Go.Proofs.YtkekddbdbfdjeaaGreat.kinematicsRigid

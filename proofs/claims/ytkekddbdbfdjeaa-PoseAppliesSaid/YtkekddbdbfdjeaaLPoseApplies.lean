/-
  armplanlaw5.PoseApplies returns true for every input, and leaves the input as it was. No condition.
-/
import Derived.Test.YtkekddbdbfdjeaaRows
import Derived.Test.YtkekddbdbfdjeaaRy
import Derived.Test.YtkekddbdbfdjeaaMf
namespace Go.Proofs.Ytkekddbdbfdjeaa.poseApplies
open Go.ChangeShapes Go.WideShapes Go.ChangeAt Go.RowKit

theorem k1 : Rows.poseAppliesRow.wf (OpenSpec.ofChange Rows.poseAppliesSpec) = true := by kernel_rfl
theorem k4 : Try.f10.params.all (Try.prog.readableRec ·) = true := by kernel_rfl
theorem k5 : namedTie Try.prog Rows.poseAppliesRow.named Rows.poseAppliesSpec.vars = true := by kernel_rfl
theorem k6 : (Rows.poseAppliesRow.stops == []) = true := by kernel_rfl
theorem k8 : (Rows.poseAppliesRow.knobs == []) = true := by kernel_rfl
theorem k10 : (Rows.poseAppliesRow.inPlace == Try.prog.inPlace 10) = true := by kernel_rfl
theorem k11 : (Rows.poseAppliesRow.unfollowed == Try.prog.unfollowed 10) = true := by kernel_rfl
theorem k12 : (Rows.poseAppliesRow.recurses == Try.prog.recurses 10) = true := by kernel_rfl
theorem k13 : (Rows.poseAppliesRow.named == Try.prog.varsNamed 10) = true := by kernel_rfl
theorem k14 : (Rows.poseAppliesRow.maps == (Try.f10.params.toList ++ Rows.poseAppliesSpec.plain.varTypes Try.prog).any (Try.prog.mapsRec ·)) = true := by kernel_rfl
theorem k15 : (Rows.poseAppliesRow.ifaces == (Try.f10.params.toList ++ Rows.poseAppliesSpec.plain.varTypes Try.prog).any (Try.prog.ifacesRec ·)) = true := by kernel_rfl
theorem k16 : (Rows.poseAppliesRow.mapsOut == Try.prog.mapsAmong Try.f10.resultTypes.toList) = true := by kernel_rfl
theorem k17 : (Rows.poseAppliesRow.loops == (Try.f10.params.toList ++ Rows.poseAppliesSpec.plain.varTypes Try.prog).any (Try.prog.loopsFrom ·)) = true := by kernel_rfl
theorem k18 : (Rows.poseAppliesRow.wideKeys == (Try.f10.params.toList ++ Rows.poseAppliesSpec.plain.varTypes Try.prog ++ Try.f10.resultTypes.toList).any (Try.prog.wideKeysFrom ·)) = true := by kernel_rfl
theorem k19 : Rows.poseAppliesSpec.vars.all (Try.prog.varReadable ·) = true := by kernel_rfl
theorem k20 : Try.f10.resultTypes.all (fun t => Try.prog.readableRec t && decide (t < Try.prog.types.size)) = true := by kernel_rfl
theorem k21 : (Rows.poseAppliesRow.ifacesOut == Try.f10.resultTypes.toList.any (Try.prog.ifacesRec ·)) = true := by kernel_rfl
theorem k22 : (Rows.poseAppliesRow.loopsOut == Try.f10.resultTypes.toList.any (Try.prog.loopsFrom ·)) = true := by kernel_rfl
theorem k23 : (Rows.poseAppliesRow.plainKeys == Try.prog.plainKeys) = true := by kernel_rfl
theorem k24 : Rows.poseAppliesRow.shortTexts.isNone = true := by kernel_rfl
theorem k27 : (Rows.poseAppliesRow.lifted == Try.prog.liftsFinal) = true := by rw [Go.RX.Seat.lifts]; rfl
theorem k28 : (Try.prog.make == some Rows.poseAppliesRow.make) = true := by rw [Go.RX.Seat.make]; rfl
theorem k29 : Go.RX.kindsOk Try.prog Try.f10 Rows.poseAppliesRow = true := by kernel_rfl
theorem k30 : (Rows.poseAppliesRow.pinned == Rows.poseAppliesRow.pinnedBy) = true := by kernel_rfl
theorem k31 : (Rows.poseAppliesRow.veiled == (Try.f10.params.toList ++ Rows.poseAppliesSpec.plain.varTypes Try.prog ++ Try.f10.resultTypes.toList).any (Try.prog.veiledRec ·)) = true := by kernel_rfl
theorem k32 : Rows.poseAppliesRow.veiledFits Try.prog Try.f10.params.toList (Try.f10.params.toList ++ Rows.poseAppliesSpec.plain.varTypes Try.prog ++ Try.f10.resultTypes.toList) = true := by kernel_rfl
theorem facts : joinedFacts Try.prog 10 Try.f10 Rows.poseAppliesSpec Rows.poseAppliesRow = true := Go.RX.facts_of (P := Try.prog) (f := 10) (fn := Try.f10) (s := Rows.poseAppliesSpec) (c := Rows.poseAppliesRow) k1 Go.RX.Seat.laid Go.RX.Seat.mapsRow k4 k5 k6 Go.RX.Seat.stops k8 Go.RX.Seat.stopKnobs k10 k11 k12 k13 k14 k15 k16 k17 k18 k19 k20 k21 k22 k23 k24 Go.RX.Seat.heard Go.RX.Seat.enter k27 k28 k29 k30 k31 k32

theorem par : Try.f10.params = [49, 49, 28, 22].toArray := by kernel_rfl
theorem res : Try.f10.resultTypes = #[4] := by kernel_rfl
theorem rds : (([49, 49, 28, 22] : List TypeId).all fun t => Try.prog.readableRec t && decide (t < Try.prog.types.size)) = true := by kernel_rfl
theorem tys : Go.RX.tysOk Try.prog 9 [49, 49, 28, 22] [.pair (.pair (.pair (.pair (.int .i64) (.int .i64)) (.pair (.pair (.int .i64) (.int .i64)) (.pair (.int .i64) (.int .i64)))) (.pair (.pair (.pair (.int .i64) (.int .i64)) (.pair (.pair (.int .i64) (.int .i64)) (.pair (.int .i64) (.int .i64)))) (.pair (.pair (.int .i64) (.int .i64)) (.pair (.pair (.int .i64) (.int .i64)) (.pair (.int .i64) (.int .i64)))))) (.pair (.pair (.int .i64) (.int .i64)) (.pair (.pair (.int .i64) (.int .i64)) (.pair (.int .i64) (.int .i64)))), .pair (.pair (.pair (.pair (.int .i64) (.int .i64)) (.pair (.pair (.int .i64) (.int .i64)) (.pair (.int .i64) (.int .i64)))) (.pair (.pair (.pair (.int .i64) (.int .i64)) (.pair (.pair (.int .i64) (.int .i64)) (.pair (.int .i64) (.int .i64)))) (.pair (.pair (.int .i64) (.int .i64)) (.pair (.pair (.int .i64) (.int .i64)) (.pair (.int .i64) (.int .i64)))))) (.pair (.pair (.int .i64) (.int .i64)) (.pair (.pair (.int .i64) (.int .i64)) (.pair (.int .i64) (.int .i64)))), .pair (.pair (.int .i64) (.int .i64)) (.pair (.pair (.int .i64) (.int .i64)) (.pair (.int .i64) (.int .i64))), .list (.int .i64)] = true := by kernel_rfl
theorem noInit : Try.prog.inits.idxOf? 10 = none := by kernel_rfl
set_option maxRecDepth 100000 in
theorem lifted (os : Os) (started : os.Started) (H : Type) (enc : TypeId × Value → H) :
    ReturnsInHanded {} Try.checked os 10 .any (Rows.poseAppliesSpec.pre6 enc Try.prog Try.f10 Rows.poseAppliesRow.domain false) (Rows.poseAppliesSpec.post enc Try.prog Try.f10 false true false false) :=
  Go.RX.law_lifted (C := Try.checked) (ts := [49, 49, 28, 22]) (As := [.pair (.pair (.pair (.pair (.int .i64) (.int .i64)) (.pair (.pair (.int .i64) (.int .i64)) (.pair (.int .i64) (.int .i64)))) (.pair (.pair (.pair (.int .i64) (.int .i64)) (.pair (.pair (.int .i64) (.int .i64)) (.pair (.int .i64) (.int .i64)))) (.pair (.pair (.int .i64) (.int .i64)) (.pair (.pair (.int .i64) (.int .i64)) (.pair (.int .i64) (.int .i64)))))) (.pair (.pair (.int .i64) (.int .i64)) (.pair (.pair (.int .i64) (.int .i64)) (.pair (.int .i64) (.int .i64)))), .pair (.pair (.pair (.pair (.int .i64) (.int .i64)) (.pair (.pair (.int .i64) (.int .i64)) (.pair (.int .i64) (.int .i64)))) (.pair (.pair (.pair (.int .i64) (.int .i64)) (.pair (.pair (.int .i64) (.int .i64)) (.pair (.int .i64) (.int .i64)))) (.pair (.pair (.int .i64) (.int .i64)) (.pair (.pair (.int .i64) (.int .i64)) (.pair (.int .i64) (.int .i64)))))) (.pair (.pair (.int .i64) (.int .i64)) (.pair (.pair (.int .i64) (.int .i64)) (.pair (.int .i64) (.int .i64)))), .pair (.pair (.int .i64) (.int .i64)) (.pair (.pair (.int .i64) (.int .i64)) (.pair (.int .i64) (.int .i64))), .list (.int .i64)]) (b := 4) (n := 9) Go.RX.Seat.own started noInit Try.func10 (ChangeSpec.witness6 (enc := enc) (C := Try.checked) false ⟨#[], #[.agg #[.int .i64 0, .int .i64 0, .int .i64 0, .int .i64 0, .int .i64 0, .int .i64 0, .int .i64 0, .int .i64 0, .int .i64 0, .int .i64 0, .int .i64 0, .int .i64 0, .int .i64 0, .int .i64 0, .int .i64 0, .int .i64 0, .int .i64 0, .int .i64 0, .int .i64 0, .int .i64 0, .int .i64 0, .int .i64 0, .int .i64 0, .int .i64 0], .agg #[.int .i64 0, .int .i64 0, .int .i64 0, .int .i64 0, .int .i64 0, .int .i64 0, .int .i64 0, .int .i64 0, .int .i64 0, .int .i64 0, .int .i64 0, .int .i64 0, .int .i64 0, .int .i64 0, .int .i64 0, .int .i64 0, .int .i64 0, .int .i64 0, .int .i64 0, .int .i64 0, .int .i64 0, .int .i64 0, .int .i64 0, .int .i64 0], .agg #[.int .i64 0, .int .i64 0, .int .i64 0, .int .i64 0, .int .i64 0, .int .i64 0], .slice none 0 0], []⟩ 8 (by kernel_rfl) (by kernel_rfl) (by kernel_rfl) (by kernel_rfl))
    Go.RX.Seat.laid par rds res Try.underlying4 rfl (fun ds h => match ds, h with
      | [d0, d1, d2, d3], _ => rfl) tys Go.RX.fn_armplanlaw5_PoseApplies (fun x ok => by have h := Go.RX.papplies_law x.1 x.2.1 x.2.2.1 ok.2.2.2.1.1; rw [h.1, h.2]; rfl)

theorem over : Rows.poseAppliesRow.holds Try.pinned (OpenSpec.ofChange Rows.poseAppliesSpec) :=
  OpenClaim.holds_of_wide 10 Try.f10 rfl rfl rfl rfl rfl rfl rfl ⟨rfl, rfl, rfl, rfl, rfl⟩ rfl rfl rfl rfl rfl (by kernel_rfl) Try.func10 facts
    (of_decide_eq_true (by kernel_rfl)) (by unfold Func.isWrapper; first | (rw [if_pos (by decide +kernel)]; kernel_rfl) | (rw [if_neg (by decide +kernel)]; exact ⟨rfl, rfl⟩))
    (fun os started H enc _ => lifted os started H enc)

/-- THE STATEMENT -/
theorem proved : Rows.PoseAppliesSaid :=
  over
end Go.Proofs.Ytkekddbdbfdjeaa.poseApplies

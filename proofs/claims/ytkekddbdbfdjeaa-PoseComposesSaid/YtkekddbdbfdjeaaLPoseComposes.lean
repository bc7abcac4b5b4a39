/-
  armplanlaw5.PoseComposes returns true for every input, and leaves the input as it was. No condition.
-/
import Derived.Test.YtkekddbdbfdjeaaRows
import Derived.Test.YtkekddbdbfdjeaaRy
import Derived.Test.YtkekddbdbfdjeaaMf
namespace Go.Proofs.Ytkekddbdbfdjeaa.poseComposes
open Go.ChangeShapes Go.WideShapes Go.ChangeAt Go.RowKit

theorem k1 : Rows.poseComposesRow.wf (OpenSpec.ofChange Rows.poseComposesSpec) = true := by kernel_rfl
theorem k4 : Try.f7.params.all (Try.prog.readableRec ·) = true := by kernel_rfl
theorem k5 : namedTie Try.prog Rows.poseComposesRow.named Rows.poseComposesSpec.vars = true := by kernel_rfl
theorem k6 : (Rows.poseComposesRow.stops == []) = true := by kernel_rfl
theorem k8 : (Rows.poseComposesRow.knobs == []) = true := by kernel_rfl
theorem k10 : (Rows.poseComposesRow.inPlace == Try.prog.inPlace 7) = true := by kernel_rfl
theorem k11 : (Rows.poseComposesRow.unfollowed == Try.prog.unfollowed 7) = true := by kernel_rfl
theorem k12 : (Rows.poseComposesRow.recurses == Try.prog.recurses 7) = true := by kernel_rfl
theorem k13 : (Rows.poseComposesRow.named == Try.prog.varsNamed 7) = true := by kernel_rfl
theorem k14 : (Rows.poseComposesRow.maps == (Try.f7.params.toList ++ Rows.poseComposesSpec.plain.varTypes Try.prog).any (Try.prog.mapsRec ·)) = true := by kernel_rfl
theorem k15 : (Rows.poseComposesRow.ifaces == (Try.f7.params.toList ++ Rows.poseComposesSpec.plain.varTypes Try.prog).any (Try.prog.ifacesRec ·)) = true := by kernel_rfl
theorem k16 : (Rows.poseComposesRow.mapsOut == Try.prog.mapsAmong Try.f7.resultTypes.toList) = true := by kernel_rfl
theorem k17 : (Rows.poseComposesRow.loops == (Try.f7.params.toList ++ Rows.poseComposesSpec.plain.varTypes Try.prog).any (Try.prog.loopsFrom ·)) = true := by kernel_rfl
theorem k18 : (Rows.poseComposesRow.wideKeys == (Try.f7.params.toList ++ Rows.poseComposesSpec.plain.varTypes Try.prog ++ Try.f7.resultTypes.toList).any (Try.prog.wideKeysFrom ·)) = true := by kernel_rfl
theorem k19 : Rows.poseComposesSpec.vars.all (Try.prog.varReadable ·) = true := by kernel_rfl
theorem k20 : Try.f7.resultTypes.all (fun t => Try.prog.readableRec t && decide (t < Try.prog.types.size)) = true := by kernel_rfl
theorem k21 : (Rows.poseComposesRow.ifacesOut == Try.f7.resultTypes.toList.any (Try.prog.ifacesRec ·)) = true := by kernel_rfl
theorem k22 : (Rows.poseComposesRow.loopsOut == Try.f7.resultTypes.toList.any (Try.prog.loopsFrom ·)) = true := by kernel_rfl
theorem k23 : (Rows.poseComposesRow.plainKeys == Try.prog.plainKeys) = true := by kernel_rfl
theorem k24 : Rows.poseComposesRow.shortTexts.isNone = true := by kernel_rfl
theorem k27 : (Rows.poseComposesRow.lifted == Try.prog.liftsFinal) = true := by rw [Go.RX.Seat.lifts]; rfl
theorem k28 : (Try.prog.make == some Rows.poseComposesRow.make) = true := by rw [Go.RX.Seat.make]; rfl
theorem k29 : Go.RX.kindsOk Try.prog Try.f7 Rows.poseComposesRow = true := by kernel_rfl
theorem k30 : (Rows.poseComposesRow.pinned == Rows.poseComposesRow.pinnedBy) = true := by kernel_rfl
theorem k31 : (Rows.poseComposesRow.veiled == (Try.f7.params.toList ++ Rows.poseComposesSpec.plain.varTypes Try.prog ++ Try.f7.resultTypes.toList).any (Try.prog.veiledRec ·)) = true := by kernel_rfl
theorem k32 : Rows.poseComposesRow.veiledFits Try.prog Try.f7.params.toList (Try.f7.params.toList ++ Rows.poseComposesSpec.plain.varTypes Try.prog ++ Try.f7.resultTypes.toList) = true := by kernel_rfl
theorem facts : joinedFacts Try.prog 7 Try.f7 Rows.poseComposesSpec Rows.poseComposesRow = true := Go.RX.facts_of (P := Try.prog) (f := 7) (fn := Try.f7) (s := Rows.poseComposesSpec) (c := Rows.poseComposesRow) k1 Go.RX.Seat.laid Go.RX.Seat.mapsRow k4 k5 k6 Go.RX.Seat.stops k8 Go.RX.Seat.stopKnobs k10 k11 k12 k13 k14 k15 k16 k17 k18 k19 k20 k21 k22 k23 k24 Go.RX.Seat.heard Go.RX.Seat.enter k27 k28 k29 k30 k31 k32

theorem par : Try.f7.params = [49, 49, 28, 3, 26, 22].toArray := by kernel_rfl
theorem res : Try.f7.resultTypes = #[4] := by kernel_rfl
theorem rds : (([49, 49, 28, 3, 26, 22] : List TypeId).all fun t => Try.prog.readableRec t && decide (t < Try.prog.types.size)) = true := by kernel_rfl
theorem tys : Go.RX.tysOk Try.prog 9 [49, 49, 28, 3, 26, 22] [.pair (.pair (.pair (.pair (.int .i64) (.int .i64)) (.pair (.pair (.int .i64) (.int .i64)) (.pair (.int .i64) (.int .i64)))) (.pair (.pair (.pair (.int .i64) (.int .i64)) (.pair (.pair (.int .i64) (.int .i64)) (.pair (.int .i64) (.int .i64)))) (.pair (.pair (.int .i64) (.int .i64)) (.pair (.pair (.int .i64) (.int .i64)) (.pair (.int .i64) (.int .i64)))))) (.pair (.pair (.int .i64) (.int .i64)) (.pair (.pair (.int .i64) (.int .i64)) (.pair (.int .i64) (.int .i64)))), .pair (.pair (.pair (.pair (.int .i64) (.int .i64)) (.pair (.pair (.int .i64) (.int .i64)) (.pair (.int .i64) (.int .i64)))) (.pair (.pair (.pair (.int .i64) (.int .i64)) (.pair (.pair (.int .i64) (.int .i64)) (.pair (.int .i64) (.int .i64)))) (.pair (.pair (.int .i64) (.int .i64)) (.pair (.pair (.int .i64) (.int .i64)) (.pair (.int .i64) (.int .i64)))))) (.pair (.pair (.int .i64) (.int .i64)) (.pair (.pair (.int .i64) (.int .i64)) (.pair (.int .i64) (.int .i64)))), .pair (.pair (.int .i64) (.int .i64)) (.pair (.pair (.int .i64) (.int .i64)) (.pair (.int .i64) (.int .i64))), .int .i64, .pair (.int .i64) (.int .i64), .list (.int .i64)] = true := by kernel_rfl
theorem noInit : Try.prog.inits.idxOf? 7 = none := by kernel_rfl
set_option maxRecDepth 100000 in
theorem lifted (os : Os) (started : os.Started) (H : Type) (enc : TypeId × Value → H) :
    ReturnsInHanded {} Try.checked os 7 .any (Rows.poseComposesSpec.pre6 enc Try.prog Try.f7 Rows.poseComposesRow.domain false) (Rows.poseComposesSpec.post enc Try.prog Try.f7 false true false false) :=
  Go.RX.law_lifted (C := Try.checked) (ts := [49, 49, 28, 3, 26, 22]) (As := [.pair (.pair (.pair (.pair (.int .i64) (.int .i64)) (.pair (.pair (.int .i64) (.int .i64)) (.pair (.int .i64) (.int .i64)))) (.pair (.pair (.pair (.int .i64) (.int .i64)) (.pair (.pair (.int .i64) (.int .i64)) (.pair (.int .i64) (.int .i64)))) (.pair (.pair (.int .i64) (.int .i64)) (.pair (.pair (.int .i64) (.int .i64)) (.pair (.int .i64) (.int .i64)))))) (.pair (.pair (.int .i64) (.int .i64)) (.pair (.pair (.int .i64) (.int .i64)) (.pair (.int .i64) (.int .i64)))), .pair (.pair (.pair (.pair (.int .i64) (.int .i64)) (.pair (.pair (.int .i64) (.int .i64)) (.pair (.int .i64) (.int .i64)))) (.pair (.pair (.pair (.int .i64) (.int .i64)) (.pair (.pair (.int .i64) (.int .i64)) (.pair (.int .i64) (.int .i64)))) (.pair (.pair (.int .i64) (.int .i64)) (.pair (.pair (.int .i64) (.int .i64)) (.pair (.int .i64) (.int .i64)))))) (.pair (.pair (.int .i64) (.int .i64)) (.pair (.pair (.int .i64) (.int .i64)) (.pair (.int .i64) (.int .i64)))), .pair (.pair (.int .i64) (.int .i64)) (.pair (.pair (.int .i64) (.int .i64)) (.pair (.int .i64) (.int .i64))), .int .i64, .pair (.int .i64) (.int .i64), .list (.int .i64)]) (b := 4) (n := 9) Go.RX.Seat.own started noInit Try.func7 (ChangeSpec.witness6 (enc := enc) (C := Try.checked) false ⟨#[], #[.agg #[.int .i64 0, .int .i64 0, .int .i64 0, .int .i64 0, .int .i64 0, .int .i64 0, .int .i64 0, .int .i64 0, .int .i64 0, .int .i64 0, .int .i64 0, .int .i64 0, .int .i64 0, .int .i64 0, .int .i64 0, .int .i64 0, .int .i64 0, .int .i64 0, .int .i64 0, .int .i64 0, .int .i64 0, .int .i64 0, .int .i64 0, .int .i64 0], .agg #[.int .i64 0, .int .i64 0, .int .i64 0, .int .i64 0, .int .i64 0, .int .i64 0, .int .i64 0, .int .i64 0, .int .i64 0, .int .i64 0, .int .i64 0, .int .i64 0, .int .i64 0, .int .i64 0, .int .i64 0, .int .i64 0, .int .i64 0, .int .i64 0, .int .i64 0, .int .i64 0, .int .i64 0, .int .i64 0, .int .i64 0, .int .i64 0], .agg #[.int .i64 0, .int .i64 0, .int .i64 0, .int .i64 0, .int .i64 0, .int .i64 0], .int .i64 0, .agg #[.int .i64 0, .int .i64 0], .slice none 0 0], []⟩ 8 (by kernel_rfl) (by kernel_rfl) (by kernel_rfl) (by kernel_rfl))
    Go.RX.Seat.laid par rds res Try.underlying4 rfl (fun ds h => match ds, h with
      | [d0, d1, d2, d3, d4, d5], _ => rfl) tys Go.RX.fn_armplanlaw5_PoseComposes (fun x ok => by have h := Go.RX.pcomposes_law x.1 x.2.1 x.2.2.1 x.2.2.2.1 x.2.2.2.2.1 ok.2.2.2.2.2.1.1; rw [h.1, h.2]; rfl)

theorem over : Rows.poseComposesRow.holds Try.pinned (OpenSpec.ofChange Rows.poseComposesSpec) :=
  OpenClaim.holds_of_wide 7 Try.f7 rfl rfl rfl rfl rfl rfl rfl ⟨rfl, rfl, rfl, rfl, rfl⟩ rfl rfl rfl rfl rfl (by kernel_rfl) Try.func7 facts
    (of_decide_eq_true (by kernel_rfl)) (by unfold Func.isWrapper; first | (rw [if_pos (by decide +kernel)]; kernel_rfl) | (rw [if_neg (by decide +kernel)]; exact ⟨rfl, rfl⟩))
    (fun os started H enc _ => lifted os started H enc)

/-- THE STATEMENT -/
theorem proved : Rows.PoseComposesSaid :=
  over
end Go.Proofs.Ytkekddbdbfdjeaa.poseComposes

/-
  armplanlaw5.PoseChain returns true for every input, and leaves the input as it was. No condition.
-/
import Derived.Test.YtkekddbdbfdjeaaRows
import Derived.Test.YtkekddbdbfdjeaaRy
import Derived.Test.YtkekddbdbfdjeaaMi
namespace Go.Proofs.Ytkekddbdbfdjeaa.poseChain
open Go.ChangeShapes Go.WideShapes Go.ChangeAt Go.RowKit

theorem k1 : Rows.poseChainRow.wf (OpenSpec.ofChange Rows.poseChainSpec) = true := by kernel_rfl
theorem k4 : Try.f5.params.all (Try.prog.readableRec ·) = true := by kernel_rfl
theorem k5 : namedTie Try.prog Rows.poseChainRow.named Rows.poseChainSpec.vars = true := by kernel_rfl
theorem k6 : (Rows.poseChainRow.stops == []) = true := by kernel_rfl
theorem k8 : (Rows.poseChainRow.knobs == []) = true := by kernel_rfl
theorem k10 : (Rows.poseChainRow.inPlace == Try.prog.inPlace 5) = true := by kernel_rfl
theorem k11 : (Rows.poseChainRow.unfollowed == Try.prog.unfollowed 5) = true := by kernel_rfl
theorem k12 : (Rows.poseChainRow.recurses == Try.prog.recurses 5) = true := by kernel_rfl
theorem k13 : (Rows.poseChainRow.named == Try.prog.varsNamed 5) = true := by kernel_rfl
theorem k14 : (Rows.poseChainRow.maps == (Try.f5.params.toList ++ Rows.poseChainSpec.plain.varTypes Try.prog).any (Try.prog.mapsRec ·)) = true := by kernel_rfl
theorem k15 : (Rows.poseChainRow.ifaces == (Try.f5.params.toList ++ Rows.poseChainSpec.plain.varTypes Try.prog).any (Try.prog.ifacesRec ·)) = true := by kernel_rfl
theorem k16 : (Rows.poseChainRow.mapsOut == Try.prog.mapsAmong Try.f5.resultTypes.toList) = true := by kernel_rfl
theorem k17 : (Rows.poseChainRow.loops == (Try.f5.params.toList ++ Rows.poseChainSpec.plain.varTypes Try.prog).any (Try.prog.loopsFrom ·)) = true := by kernel_rfl
theorem k18 : (Rows.poseChainRow.wideKeys == (Try.f5.params.toList ++ Rows.poseChainSpec.plain.varTypes Try.prog ++ Try.f5.resultTypes.toList).any (Try.prog.wideKeysFrom ·)) = true := by kernel_rfl
theorem k19 : Rows.poseChainSpec.vars.all (Try.prog.varReadable ·) = true := by kernel_rfl
theorem k20 : Try.f5.resultTypes.all (fun t => Try.prog.readableRec t && decide (t < Try.prog.types.size)) = true := by kernel_rfl
theorem k21 : (Rows.poseChainRow.ifacesOut == Try.f5.resultTypes.toList.any (Try.prog.ifacesRec ·)) = true := by kernel_rfl
theorem k22 : (Rows.poseChainRow.loopsOut == Try.f5.resultTypes.toList.any (Try.prog.loopsFrom ·)) = true := by kernel_rfl
theorem k23 : (Rows.poseChainRow.plainKeys == Try.prog.plainKeys) = true := by kernel_rfl
theorem k24 : Rows.poseChainRow.shortTexts.isNone = true := by kernel_rfl
theorem k27 : (Rows.poseChainRow.lifted == Try.prog.liftsFinal) = true := by rw [Go.RX.Seat.lifts]; rfl
theorem k28 : (Try.prog.make == some Rows.poseChainRow.make) = true := by rw [Go.RX.Seat.make]; rfl
theorem k29 : Go.RX.kindsOk Try.prog Try.f5 Rows.poseChainRow = true := by kernel_rfl
theorem k30 : (Rows.poseChainRow.pinned == Rows.poseChainRow.pinnedBy) = true := by kernel_rfl
theorem k31 : (Rows.poseChainRow.veiled == (Try.f5.params.toList ++ Rows.poseChainSpec.plain.varTypes Try.prog ++ Try.f5.resultTypes.toList).any (Try.prog.veiledRec ·)) = true := by kernel_rfl
theorem k32 : Rows.poseChainRow.veiledFits Try.prog Try.f5.params.toList (Try.f5.params.toList ++ Rows.poseChainSpec.plain.varTypes Try.prog ++ Try.f5.resultTypes.toList) = true := by kernel_rfl
theorem facts : joinedFacts Try.prog 5 Try.f5 Rows.poseChainSpec Rows.poseChainRow = true := Go.RX.facts_of (P := Try.prog) (f := 5) (fn := Try.f5) (s := Rows.poseChainSpec) (c := Rows.poseChainRow) k1 Go.RX.Seat.laid Go.RX.Seat.mapsRow k4 k5 k6 Go.RX.Seat.stops k8 Go.RX.Seat.stopKnobs k10 k11 k12 k13 k14 k15 k16 k17 k18 k19 k20 k21 k22 k23 k24 Go.RX.Seat.heard Go.RX.Seat.enter k27 k28 k29 k30 k31 k32

theorem par : Try.f5.params = [22].toArray := by kernel_rfl
theorem res : Try.f5.resultTypes = #[4] := by kernel_rfl
theorem rds : (([22] : List TypeId).all fun t => Try.prog.readableRec t && decide (t < Try.prog.types.size)) = true := by kernel_rfl
theorem tys : Go.RX.tysOk Try.prog 9 [22] [.list (.int .i64)] = true := by kernel_rfl
theorem noInit : Try.prog.inits.idxOf? 5 = none := by kernel_rfl
set_option maxRecDepth 100000 in
theorem lifted (os : Os) (started : os.Started) (H : Type) (enc : TypeId × Value → H) :
    ReturnsInHanded {} Try.checked os 5 .any (Rows.poseChainSpec.pre6 enc Try.prog Try.f5 Rows.poseChainRow.domain false) (Rows.poseChainSpec.post enc Try.prog Try.f5 false true false false) :=
  Go.RX.law_lifted (C := Try.checked) (ts := [22]) (As := [.list (.int .i64)]) (b := 4) (n := 9) Go.RX.Seat.own started noInit Try.func5 (ChangeSpec.witness6 (enc := enc) (C := Try.checked) false ⟨#[], #[.slice none 0 0], []⟩ 8 (by kernel_rfl) (by kernel_rfl) (by kernel_rfl) (by kernel_rfl))
    Go.RX.Seat.laid par rds res Try.underlying4 rfl (fun ds h => match ds, h with
      | [d0], _ => rfl) tys Go.RX.fn_armplanlaw5_PoseChain (fun x ok => by have h := Go.RX.chain_law ok.1.1; rw [h.1, h.2]; rfl)

theorem over : Rows.poseChainRow.holds Try.pinned (OpenSpec.ofChange Rows.poseChainSpec) :=
  OpenClaim.holds_of_wide 5 Try.f5 rfl rfl rfl rfl rfl rfl rfl ⟨rfl, rfl, rfl, rfl, rfl⟩ rfl rfl rfl rfl rfl (by kernel_rfl) Try.func5 facts
    (of_decide_eq_true (by kernel_rfl)) (by unfold Func.isWrapper; first | (rw [if_pos (by decide +kernel)]; kernel_rfl) | (rw [if_neg (by decide +kernel)]; exact ⟨rfl, rfl⟩))
    (fun os started H enc _ => lifted os started H enc)

/-- THE STATEMENT -/
theorem proved : Rows.PoseChainSaid :=
  over
end Go.Proofs.Ytkekddbdbfdjeaa.poseChain

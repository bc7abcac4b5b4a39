/-
  armplanlaw3.AngleNested returns true for every input, and leaves the input as it was. No condition.
-/
import Derived.Test.YtlikaaohkecccaaRows
import Derived.Test.YtlikaaohkecccaaRy
import Derived.Test.YtlikaaohkecccaaPg
namespace Go.Proofs.Ytlikaaohkecccaa.angleNested
open Go.ChangeShapes Go.WideShapes Go.ChangeAt Go.RowKit

theorem k1 : Rows.angleNestedRow.wf (OpenSpec.ofChange Rows.angleNestedSpec) = true := by kernel_rfl
theorem k4 : Try.f11.params.all (Try.prog.readableRec ·) = true := by kernel_rfl
theorem k5 : namedTie Try.prog Rows.angleNestedRow.named Rows.angleNestedSpec.vars = true := by kernel_rfl
theorem k6 : (Rows.angleNestedRow.stops == []) = true := by kernel_rfl
theorem k8 : (Rows.angleNestedRow.knobs == []) = true := by kernel_rfl
theorem k10 : (Rows.angleNestedRow.inPlace == Try.prog.inPlace 11) = true := by kernel_rfl
theorem k11 : (Rows.angleNestedRow.unfollowed == Try.prog.unfollowed 11) = true := by kernel_rfl
theorem k12 : (Rows.angleNestedRow.recurses == Try.prog.recurses 11) = true := by kernel_rfl
theorem k13 : (Rows.angleNestedRow.named == Try.prog.varsNamed 11) = true := by kernel_rfl
theorem k14 : (Rows.angleNestedRow.maps == (Try.f11.params.toList ++ Rows.angleNestedSpec.plain.varTypes Try.prog).any (Try.prog.mapsRec ·)) = true := by kernel_rfl
theorem k15 : (Rows.angleNestedRow.ifaces == (Try.f11.params.toList ++ Rows.angleNestedSpec.plain.varTypes Try.prog).any (Try.prog.ifacesRec ·)) = true := by kernel_rfl
theorem k16 : (Rows.angleNestedRow.mapsOut == Try.prog.mapsAmong Try.f11.resultTypes.toList) = true := by kernel_rfl
theorem k17 : (Rows.angleNestedRow.loops == (Try.f11.params.toList ++ Rows.angleNestedSpec.plain.varTypes Try.prog).any (Try.prog.loopsFrom ·)) = true := by kernel_rfl
theorem k18 : (Rows.angleNestedRow.wideKeys == (Try.f11.params.toList ++ Rows.angleNestedSpec.plain.varTypes Try.prog ++ Try.f11.resultTypes.toList).any (Try.prog.wideKeysFrom ·)) = true := by kernel_rfl
theorem k19 : Rows.angleNestedSpec.vars.all (Try.prog.varReadable ·) = true := by kernel_rfl
theorem k20 : Try.f11.resultTypes.all (fun t => Try.prog.readableRec t && decide (t < Try.prog.types.size)) = true := by kernel_rfl
theorem k21 : (Rows.angleNestedRow.ifacesOut == Try.f11.resultTypes.toList.any (Try.prog.ifacesRec ·)) = true := by kernel_rfl
theorem k22 : (Rows.angleNestedRow.loopsOut == Try.f11.resultTypes.toList.any (Try.prog.loopsFrom ·)) = true := by kernel_rfl
theorem k23 : (Rows.angleNestedRow.plainKeys == Try.prog.plainKeys) = true := by kernel_rfl
theorem k24 : Rows.angleNestedRow.shortTexts.isNone = true := by kernel_rfl
theorem k27 : (Rows.angleNestedRow.lifted == Try.prog.liftsFinal) = true := by rw [Go.RX.Seat.lifts]; rfl
theorem k28 : (Try.prog.make == some Rows.angleNestedRow.make) = true := by rw [Go.RX.Seat.make]; rfl
theorem k29 : Go.RX.kindsOk Try.prog Try.f11 Rows.angleNestedRow = true := by kernel_rfl
theorem k30 : (Rows.angleNestedRow.pinned == Rows.angleNestedRow.pinnedBy) = true := by kernel_rfl
theorem k31 : (Rows.angleNestedRow.veiled == (Try.f11.params.toList ++ Rows.angleNestedSpec.plain.varTypes Try.prog ++ Try.f11.resultTypes.toList).any (Try.prog.veiledRec ·)) = true := by kernel_rfl
theorem k32 : Rows.angleNestedRow.veiledFits Try.prog Try.f11.params.toList (Try.f11.params.toList ++ Rows.angleNestedSpec.plain.varTypes Try.prog ++ Try.f11.resultTypes.toList) = true := by kernel_rfl
theorem facts : joinedFacts Try.prog 11 Try.f11 Rows.angleNestedSpec Rows.angleNestedRow = true := Go.RX.facts_of (P := Try.prog) (f := 11) (fn := Try.f11) (s := Rows.angleNestedSpec) (c := Rows.angleNestedRow) k1 Go.RX.Seat.laid Go.RX.Seat.mapsRow k4 k5 k6 Go.RX.Seat.stops k8 Go.RX.Seat.stopKnobs k10 k11 k12 k13 k14 k15 k16 k17 k18 k19 k20 k21 k22 k23 k24 Go.RX.Seat.heard Go.RX.Seat.enter k27 k28 k29 k30 k31 k32

theorem par : Try.f11.params = [3, 3, 3, 3].toArray := by kernel_rfl
theorem res : Try.f11.resultTypes = #[4] := by kernel_rfl
theorem rds : (([3, 3, 3, 3] : List TypeId).all fun t => Try.prog.readableRec t && decide (t < Try.prog.types.size)) = true := by kernel_rfl
theorem tys : Go.RX.tysOk Try.prog 9 [3, 3, 3, 3] [.int .i64, .int .i64, .int .i64, .int .i64] = true := by kernel_rfl
theorem noInit : Try.prog.inits.idxOf? 11 = none := by kernel_rfl
set_option maxRecDepth 100000 in
theorem lifted (os : Os) (started : os.Started) (H : Type) (enc : TypeId × Value → H) :
    ReturnsInHanded {} Try.checked os 11 .any (Rows.angleNestedSpec.pre6 enc Try.prog Try.f11 Rows.angleNestedRow.domain false) (Rows.angleNestedSpec.post enc Try.prog Try.f11 false true false false) :=
  Go.RX.law_lifted (C := Try.checked) (ts := [3, 3, 3, 3]) (As := [.int .i64, .int .i64, .int .i64, .int .i64]) (b := 4) (n := 9) Go.RX.Seat.own started noInit Try.func11 (ChangeSpec.witness6 (enc := enc) (C := Try.checked) false ⟨#[], #[.int .i64 0, .int .i64 0, .int .i64 0, .int .i64 0], []⟩ 8 (by kernel_rfl) (by kernel_rfl) (by kernel_rfl) (by kernel_rfl))
    Go.RX.Seat.laid par rds res Try.underlying4 rfl (fun ds h => match ds, h with
      | [d0, d1, d2, d3], _ => rfl) tys Go.RX.fn_armplanlaw3_AngleNested (fun x ok => by have h := Go.RX.nested_law x.1 x.2.1 x.2.2.1 x.2.2.2.1; rw [h.1, h.2]; rfl)

theorem over : Rows.angleNestedRow.holds Try.pinned (OpenSpec.ofChange Rows.angleNestedSpec) :=
  OpenClaim.holds_of_wide 11 Try.f11 rfl rfl rfl rfl rfl rfl rfl ⟨rfl, rfl, rfl, rfl, rfl⟩ rfl rfl rfl rfl rfl (by kernel_rfl) Try.func11 facts
    (of_decide_eq_true (by kernel_rfl)) (by unfold Func.isWrapper; first | (rw [if_pos (by decide +kernel)]; kernel_rfl) | (rw [if_neg (by decide +kernel)]; exact ⟨rfl, rfl⟩))
    (fun os started H enc _ => lifted os started H enc)

/-- THE STATEMENT -/
theorem proved : Rows.AngleNestedSaid :=
  over
end Go.Proofs.Ytlikaaohkecccaa.angleNested

/-
  armplanlaw11.KinematicsLinks returns true for every input, and leaves the input as it was. Where what it reads is of bounded bulk.
-/
import Derived.Test.YtkekddbdbfdjeaaGreatRows
import Derived.Test.YtkekddbdbfdjeaaGreatRy
import Derived.Test.YtkekddbdbfdjeaaGreatUp
import Derived.Test.YtkekddbdbfdjeaaGreatG8
namespace Go.Proofs.YtkekddbdbfdjeaaGreat.kinematicsLinks
open Go.ChangeShapes Go.WideShapes Go.ChangeAt Go.RowKit

theorem k1 : Rows.kinematicsLinksUptoRow.wf (OpenSpec.ofChange Rows.kinematicsLinksSpec) = true := by kernel_rfl
theorem k4 : Tryz.f3.params.all (Tryz.prog.readableRec ·) = true := by kernel_rfl
theorem k5 : namedTie Tryz.prog Rows.kinematicsLinksUptoRow.named Rows.kinematicsLinksSpec.vars = true := by kernel_rfl
theorem k6 : (Rows.kinematicsLinksUptoRow.stops == []) = true := by kernel_rfl
theorem k8 : (Rows.kinematicsLinksUptoRow.knobs == []) = true := by kernel_rfl
theorem k10 : (Rows.kinematicsLinksUptoRow.inPlace == Tryz.prog.inPlace 3) = true := by kernel_rfl
theorem k11 : (Rows.kinematicsLinksUptoRow.unfollowed == Tryz.prog.unfollowed 3) = true := by kernel_rfl
theorem k12 : (Rows.kinematicsLinksUptoRow.recurses == Tryz.prog.recurses 3) = true := by kernel_rfl
theorem k13 : (Rows.kinematicsLinksUptoRow.named == Tryz.prog.varsNamed 3) = true := by kernel_rfl
theorem k14 : (Rows.kinematicsLinksUptoRow.maps == (Tryz.f3.params.toList ++ Rows.kinematicsLinksSpec.plain.varTypes Tryz.prog).any (Tryz.prog.mapsRec ·)) = true := by kernel_rfl
theorem k15 : (Rows.kinematicsLinksUptoRow.ifaces == (Tryz.f3.params.toList ++ Rows.kinematicsLinksSpec.plain.varTypes Tryz.prog).any (Tryz.prog.ifacesRec ·)) = true := by kernel_rfl
theorem k16 : (Rows.kinematicsLinksUptoRow.mapsOut == Tryz.prog.mapsAmong Tryz.f3.resultTypes.toList) = true := by kernel_rfl
theorem k17 : (Rows.kinematicsLinksUptoRow.loops == (Tryz.f3.params.toList ++ Rows.kinematicsLinksSpec.plain.varTypes Tryz.prog).any (Tryz.prog.loopsFrom ·)) = true := by kernel_rfl
theorem k18 : (Rows.kinematicsLinksUptoRow.wideKeys == (Tryz.f3.params.toList ++ Rows.kinematicsLinksSpec.plain.varTypes Tryz.prog ++ Tryz.f3.resultTypes.toList).any (Tryz.prog.wideKeysFrom ·)) = true := by kernel_rfl
theorem k19 : Rows.kinematicsLinksSpec.vars.all (Tryz.prog.varReadable ·) = true := by kernel_rfl
theorem k20 : Tryz.f3.resultTypes.all (fun t => Tryz.prog.readableRec t && decide (t < Tryz.prog.types.size)) = true := by kernel_rfl
theorem k21 : (Rows.kinematicsLinksUptoRow.ifacesOut == Tryz.f3.resultTypes.toList.any (Tryz.prog.ifacesRec ·)) = true := by kernel_rfl
theorem k22 : (Rows.kinematicsLinksUptoRow.loopsOut == Tryz.f3.resultTypes.toList.any (Tryz.prog.loopsFrom ·)) = true := by kernel_rfl
theorem k23 : (Rows.kinematicsLinksUptoRow.plainKeys == Tryz.prog.plainKeys) = true := by kernel_rfl
theorem k24 : Rows.kinematicsLinksUptoRow.shortTexts.isNone = true := by kernel_rfl
theorem k27 : (Rows.kinematicsLinksUptoRow.lifted == Tryz.prog.liftsFinal) = true := by rw [Go.RX.Seat.lifts]; rfl
theorem k28 : (Tryz.prog.make == some Rows.kinematicsLinksUptoRow.make) = true := by rw [Go.RX.Seat.make]; rfl
theorem k29 : Go.RX.kindsOk Tryz.prog Tryz.f3 Rows.kinematicsLinksUptoRow = true := by kernel_rfl
theorem k30 : (Rows.kinematicsLinksUptoRow.pinned == Rows.kinematicsLinksUptoRow.pinnedBy) = true := by kernel_rfl
theorem k31 : (Rows.kinematicsLinksUptoRow.veiled == (Tryz.f3.params.toList ++ Rows.kinematicsLinksSpec.plain.varTypes Tryz.prog ++ Tryz.f3.resultTypes.toList).any (Tryz.prog.veiledRec ·)) = true := by kernel_rfl
theorem k32 : Rows.kinematicsLinksUptoRow.veiledFits Tryz.prog Tryz.f3.params.toList (Tryz.f3.params.toList ++ Rows.kinematicsLinksSpec.plain.varTypes Tryz.prog ++ Tryz.f3.resultTypes.toList) = true := by kernel_rfl
theorem facts : joinedFacts Tryz.prog 3 Tryz.f3 (Rows.OpenSpec.upto Rows.kinematicsLinksSpec).bare Rows.kinematicsLinksUptoRow = true := Go.RX.facts_of (P := Tryz.prog) (f := 3) (fn := Tryz.f3) (s := Rows.kinematicsLinksSpec) (c := Rows.kinematicsLinksUptoRow) k1 Go.RX.Seat.laid Go.RX.Seat.mapsRow k4 k5 k6 Go.RX.Seat.stops k8 Go.RX.Seat.stopKnobs k10 k11 k12 k13 k14 k15 k16 k17 k18 k19 k20 k21 k22 k23 k24 Go.RX.Seat.heard Go.RX.Seat.enter k27 k28 k29 k30 k31 k32

theorem par : Tryz.f3.params = [29, 30, 31, 31].toArray := by kernel_rfl
theorem res : Tryz.f3.resultTypes = #[4] := by kernel_rfl
theorem rds : (([29, 30, 31, 31] : List TypeId).all fun t => Tryz.prog.readableRec t && decide (t < Tryz.prog.types.size)) = true := by kernel_rfl
theorem tys : Go.RX.tysOk Tryz.prog 9 [29, 30, 31, 31] [.pair (.pair (.list (.pair (.str) (.pair (.int .i64) (.pair (.int .i64) (.pair (.pair (.int .i64) (.pair (.int .i64) (.int .i64))) (.pair (.int .i64) (.pair (.int .i64) (.pair (.int .i64) (.pair (.int .i64) (.pair (.int .i64) (.int .i64))))))))))) (.list (.pair (.int .i64) (.pair (.int .i64) (.pair (.int .i64) (.pair (.int .i64) (.int .i64))))))) (.pair (.list (.pair (.int .i64) (.pair (.int .i64) (.list (.pair (.int .i64) (.pair (.int .i64) (.int .i64))))))) (.list (.pair (.int .i64) (.int .i64)))), .list (.pair (.int .i64) (.int .i64)), .list (.int .i64), .list (.int .i64)] = true := by kernel_rfl
theorem noInit : Tryz.prog.inits.idxOf? 3 = none := by kernel_rfl

set_option maxRecDepth 100000 in
theorem lifted (os : Os) (started : os.Started) (H : Type) (enc : TypeId × Value → H) (I : Stop.Interp) :
    ReturnsInHanded {} Tryz.checked os 3 .any ((Rows.OpenSpec.upto Rows.kinematicsLinksSpec).pre6 enc Tryz.prog Tryz.f3 Rows.kinematicsLinksUptoRow.domain false) (((Rows.OpenSpec.upto Rows.kinematicsLinksSpec).at I).post enc Tryz.prog Tryz.f3 false true false false) :=
  Go.RX.law_upto (C := Tryz.checked) (ts := [29, 30, 31, 31]) (As := [.pair (.pair (.list (.pair (.str) (.pair (.int .i64) (.pair (.int .i64) (.pair (.pair (.int .i64) (.pair (.int .i64) (.int .i64))) (.pair (.int .i64) (.pair (.int .i64) (.pair (.int .i64) (.pair (.int .i64) (.pair (.int .i64) (.int .i64))))))))))) (.list (.pair (.int .i64) (.pair (.int .i64) (.pair (.int .i64) (.pair (.int .i64) (.int .i64))))))) (.pair (.list (.pair (.int .i64) (.pair (.int .i64) (.list (.pair (.int .i64) (.pair (.int .i64) (.int .i64))))))) (.list (.pair (.int .i64) (.int .i64)))), .list (.pair (.int .i64) (.int .i64)), .list (.int .i64), .list (.int .i64)]) (b := 4) (n := 9) Go.RX.Seat.own started noInit Tryz.func3
    (OpenSpec.witness (enc := enc) (C := Tryz.checked) (s := Rows.OpenSpec.upto Rows.kinematicsLinksSpec) (k := Rows.uptoSmall) rfl false ⟨#[], #[.agg #[.slice none 0 0, .slice none 0 0, .slice none 0 0, .slice none 0 0], .slice none 0 0, .slice none 0 0, .slice none 0 0], []⟩ 8 (by kernel_rfl) (by kernel_rfl) (by kernel_rfl)
      (x := ([.agg [.agg [.nil, .nil], .nil, .nil], .nil, .nil, .nil], [], [])) (by kernel_rfl) (by kernel_rfl) (by kernel_rfl))
    Go.RX.Seat.laid par rds res Tryz.underlying4 rfl (fun ds h => match ds, h with
      | [d0, d1, d2, d3], _ => rfl) tys Go.RX.fn_armplanlaw11_KinematicsLinks (fun x ok lx => by have h := Go.RX.klinks_law x.1 lx.2.1 ok.2.2.1.1 ok.2.2.2.1.1; rw [h.1, h.2]; rfl)

theorem over : Rows.kinematicsLinksUptoRow.holds Tryz.pinned (Rows.OpenSpec.upto Rows.kinematicsLinksSpec) :=
  OpenClaim.holds_of_cond 3 Tryz.f3 rfl rfl rfl rfl rfl rfl rfl ⟨rfl, rfl, rfl, rfl, rfl⟩ rfl rfl rfl rfl rfl (by kernel_rfl) Tryz.func3 facts
    (of_decide_eq_true (by kernel_rfl)) (by unfold Func.isWrapper; first | (rw [if_pos (by decide +kernel)]; kernel_rfl) | (rw [if_neg (by decide +kernel)]; exact ⟨rfl, rfl⟩))
    (fun os started H enc _ I => lifted os started H enc I)

/-- THE STATEMENT -/
theorem proved : Rows.KinematicsLinksUptoSaid :=
  over
end Go.Proofs.YtkekddbdbfdjeaaGreat.kinematicsLinks

/-
  What holds of the whole program of the seat.
-/
import Derived.Test.YtkekddbdbfdjeaaGreatRv
import Derived.Test.YtkekddbdbfdjeaaGreatProg
namespace Go.RX.Seat
open Go.Proofs

theorem own : ownKnob Tryz.prog.godebug = none := by kernel_rfl
theorem laid : laidOutB Tryz.prog = true := by kernel_rfl
theorem mapsRow : mapsRowed Tryz.prog = true := by kernel_rfl
theorem stops : (Tryz.prog.stops == []) = true := by kernel_rfl
theorem stopKnobs : (Tryz.prog.stopKnobs == []) = true := by kernel_rfl
theorem heard : Tryz.prog.stopsHeard = true := by kernel_rfl

/- The head of the translation, sign by sign. -/
def initS : List Nat := [104, 97, 114, 110, 101, 115, 115, 32, 48, 49, 101, 102, 53, 99, 100, 55, 54, 52, 49, 55, 99, 102, 99, 52, 55, 48, 55, 102, 99, 54, 57, 57, 54, 97, 53, 51, 54, 51, 57, 100, 97, 99, 56, 100, 49, 52, 98, 49, 54, 57, 101, 99, 53, 98, 99, 98, 50, 56, 98, 100, 98, 56, 99, 57, 53, 55, 99, 54, 49, 101, 57, 101, 32, 99, 117, 116, 32, 97, 116, 32, 97, 114, 109, 112, 108, 97, 110, 47, 97, 114, 109, 112, 108, 97, 110, 108, 97, 119, 49, 49, 46, 75, 105, 110, 101, 109, 97, 116, 105, 99, 115, 76, 105, 110, 107, 115, 32, 97, 114, 109, 112, 108, 97, 110, 47, 97, 114, 109, 112, 108, 97, 110, 108, 97, 119, 49, 49, 46, 75, 105, 110, 101, 109, 97, 116, 105, 99, 115, 77, 111, 110, 111, 116, 111, 110, 101, 32, 97, 114, 109, 112, 108, 97, 110, 47, 97, 114, 109, 112, 108, 97, 110, 108, 97, 119, 49, 49, 46, 75, 105, 110, 101, 109, 97, 116, 105, 99, 115, 80, 108, 97, 99, 101, 100, 32, 97, 114, 109, 112, 108, 97, 110, 47, 97, 114, 109, 112, 108, 97, 110, 108, 97, 119, 49, 49, 46, 75, 105, 110, 101, 109, 97, 116, 105, 99, 115, 82, 105, 103, 105, 100]
theorem init1 : Tryz.prog.initOrder = String.ofList (initS.map Char.ofNat) := by kernel_rfl
def initC : List Nat := [99, 117, 116]
def initR : List (List Nat) := [[97, 116], [97, 114, 109, 112, 108, 97, 110, 47, 97, 114, 109, 112, 108, 97, 110, 108, 97, 119, 49, 49, 46, 75, 105, 110, 101, 109, 97, 116, 105, 99, 115, 76, 105, 110, 107, 115], [97, 114, 109, 112, 108, 97, 110, 47, 97, 114, 109, 112, 108, 97, 110, 108, 97, 119, 49, 49, 46, 75, 105, 110, 101, 109, 97, 116, 105, 99, 115, 77, 111, 110, 111, 116, 111, 110, 101], [97, 114, 109, 112, 108, 97, 110, 47, 97, 114, 109, 112, 108, 97, 110, 108, 97, 119, 49, 49, 46, 75, 105, 110, 101, 109, 97, 116, 105, 99, 115, 80, 108, 97, 99, 101, 100], [97, 114, 109, 112, 108, 97, 110, 47, 97, 114, 109, 112, 108, 97, 110, 108, 97, 119, 49, 49, 46, 75, 105, 110, 101, 109, 97, 116, 105, 99, 115, 82, 105, 103, 105, 100]]
theorem init2 : behindMainWord (wordsSigns Tryz.prog.initOrder.toList) = initC.map Char.ofNat :: initR.map (·.map Char.ofNat) := by
  rw [init1, String.toList_ofList]; kernel_rfl
theorem init3 : stripLifts liftWords (initC.map Char.ofNat :: initR.map (·.map Char.ofNat)) = ([], initC.map Char.ofNat :: initR.map (·.map Char.ofNat)) := by kernel_rfl
theorem later : Tryz.prog.laysLater = false := by kernel_rfl
theorem reflect : Tryz.prog.bearsReflect = false := by kernel_rfl
theorem doors : Tryz.prog.doorRows = [] := by kernel_rfl
theorem enter : Tryz.prog.mayEnter = true := mayEnter_of init2 init3 (by kernel_rfl) later reflect doors
theorem lifts : Tryz.prog.liftsFinal = false := lifts_of init2 init3 (by kernel_rfl)
theorem make : Tryz.prog.make = some .cut := make_of init2 (by kernel_rfl) (by kernel_rfl)

end Go.RX.Seat

/-
  What holds of the whole program of the seat.
-/
import Derived.Test.YtleejiihlldflaaGreatRv
import Derived.Test.YtleejiihlldflaaGreatProg
namespace Go.RX.Seat
open Go.Proofs

theorem own : ownKnob Tryz.prog.godebug = none := by kernel_rfl
theorem laid : laidOutB Tryz.prog = true := by kernel_rfl
theorem mapsRow : mapsRowed Tryz.prog = true := by kernel_rfl
theorem stops : (Tryz.prog.stops == []) = true := by kernel_rfl
theorem stopKnobs : (Tryz.prog.stopKnobs == []) = true := by kernel_rfl
theorem heard : Tryz.prog.stopsHeard = true := by kernel_rfl

/- The head of the translation, sign by sign. -/
def initS : List Nat := [104, 97, 114, 110, 101, 115, 115, 32, 98, 54, 55, 50, 102, 57, 56, 48, 99, 56, 51, 55, 50, 99, 102, 49, 50, 48, 102, 98, 54, 52, 57, 100, 56, 102, 51, 99, 98, 101, 48, 55, 101, 99, 53, 57, 55, 100, 52, 53, 52, 101, 48, 97, 49, 99, 101, 99, 52, 101, 54, 55, 48, 51, 99, 56, 56, 56, 49, 54, 50, 50, 98, 98, 32, 99, 117, 116, 32, 97, 116, 32, 97, 114, 109, 112, 108, 97, 110, 47, 97, 114, 109, 112, 108, 97, 110, 108, 97, 119, 51, 50, 46, 77, 97, 110, 105, 102, 111, 108, 100, 86, 97, 108, 117, 101, 115]
theorem init1 : Tryz.prog.initOrder = String.ofList (initS.map Char.ofNat) := by kernel_rfl
def initC : List Nat := [99, 117, 116]
def initR : List (List Nat) := [[97, 116], [97, 114, 109, 112, 108, 97, 110, 47, 97, 114, 109, 112, 108, 97, 110, 108, 97, 119, 51, 50, 46, 77, 97, 110, 105, 102, 111, 108, 100, 86, 97, 108, 117, 101, 115]]
theorem init2 : behindMainWord (wordsSigns Tryz.prog.initOrder.toList) = initC.map Char.ofNat :: initR.map (·.map Char.ofNat) := by
  rw [init1, String.toList_ofList]; kernel_rfl
theorem init3 : stripLifts liftWords (initC.map Char.ofNat :: initR.map (·.map Char.ofNat)) = ([], initC.map Char.ofNat :: initR.map (·.map Char.ofNat)) := by kernel_rfl
theorem later : Tryz.prog.laysLater = false := by kernel_rfl
theorem reflect : Tryz.prog.bearsReflect = false := by kernel_rfl
theorem doors : Tryz.prog.doorRows = [] := by kernel_rfl
theorem enter : Tryz.prog.mayEnter = true := mayEnter_of init2 init3 (by kernel_rfl) later reflect doors
theorem lifts : Tryz.prog.liftsFinal = false := lifts_of init2 init3 (by kernel_rfl)
theorem make : Tryz.prog.make = some .cut := make_of init2 (by kernel_rfl) (by kernel_rfl)

end Go.RX.Seat

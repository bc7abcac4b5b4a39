/-
  No cell of these rows narrows 'for every input' (looked for: loops, veiled, ifaces, maps, wideKeys, modest, calm, conditions, laid).
  DERIVED. THE GIVEN ROWS OF THIS SEAT. 4 by the template 'for every input the law returns true; each argument reads behind the call as it read before'; 0 by the template 'total and deterministic' (their statements: YtkekddbdbfdjeaaGreatTotals.lean).
  GIVEN WITH THE SEED: the statements are not yours to turn. If you find one false, say at which input.
  Laid BY PROGRAM, IN A SANDBOX (cutbox-rows.mjs): the forced cells as the released guide's own fill.sh prints them over the translation d1fd3245b974f336… (all of the seat's roots in one cut). By AI agents, Wed Nov 11 2026. No macro, syntax, notation, axiom, sorry.
-/
import Derived.Test.YtkekddbdbfdjeaaGreatChecked
import GoSem.Claim
import GoSem.ClaimJoined
import GoSem.ClaimMapViews
import Derived.JoinedTies
import Derived.KernelRfl
namespace Go.Proofs.YtkekddbdbfdjeaaGreat
/- THE CELL 'sum', in the pinned program and in every row, IS THE sha256 OF THE DUMP (.gsa) THAT YtkekddbdbfdjeaaGreatProg.lean LOADS. Nothing in Lean hashes anything: it is a label: what it is worth is what the hold of that sum in a sandbox is worth. -/
noncomputable def Tryz.pinned : Pinned := { name := "ytkekddbdbfdjeaagreat", sum := "d1fd3245b974f336b6ea55f7d91a904c9a28600a6b6df8d5259d0610dfbf6375", checked := Tryz.checked }
namespace Rows
def none {H : Type} : Left H := { results := [], args := [] }

/-- 'armplanlaw11.KinematicsLinks': WHATEVER THE INPUT: true; the input reads as it did. -/
def kinematicsLinksSpec : ChangeSpec := { name := "kinematicsLinks", fn := fun _ => fun
  | [d1, d2, d3, d4] => { results := [.lit (.bool true)], args := [d1, d2, d3, d4] }
  | _ => none }
def kinematicsLinksRow : OpenClaim := { program := "ytkekddbdbfdjeaagreat", sum := "d1fd3245b974f336b6ea55f7d91a904c9a28600a6b6df8d5259d0610dfbf6375", func := "armplan/armplanlaw11.KinematicsLinks", spec := "kinematicsLinks", unfollowed := true, recurses := true, apart := false }
def KinematicsLinksSaid : Prop := kinematicsLinksRow.holds Tryz.pinned (OpenSpec.ofChange kinematicsLinksSpec)

/-- ITS FALSE NEIGHBOUR: 'it returns false'. Refute it at one input. -/
def kinematicsLinksWrong : ChangeSpec := { name := "kinematicsLinks", fn := fun _ => fun
  | [d1, d2, d3, d4] => { results := [.lit (.bool false)], args := [d1, d2, d3, d4] }
  | _ => none }
def KinematicsLinksWrongFalsely : Prop := kinematicsLinksRow.holds Tryz.pinned (OpenSpec.ofChange kinematicsLinksWrong)

/-- 'armplanlaw11.KinematicsMonotone': WHATEVER THE INPUT: true; the input reads as it did. -/
def kinematicsMonotoneSpec : ChangeSpec := { name := "kinematicsMonotone", fn := fun _ => fun
  | [d1, d2, d3] => { results := [.lit (.bool true)], args := [d1, d2, d3] }
  | _ => none }
def kinematicsMonotoneRow : OpenClaim := { program := "ytkekddbdbfdjeaagreat", sum := "d1fd3245b974f336b6ea55f7d91a904c9a28600a6b6df8d5259d0610dfbf6375", func := "armplan/armplanlaw11.KinematicsMonotone", spec := "kinematicsMonotone", unfollowed := true, recurses := true, apart := false }
def KinematicsMonotoneSaid : Prop := kinematicsMonotoneRow.holds Tryz.pinned (OpenSpec.ofChange kinematicsMonotoneSpec)

/-- ITS FALSE NEIGHBOUR: 'it returns false'. Refute it at one input. -/
def kinematicsMonotoneWrong : ChangeSpec := { name := "kinematicsMonotone", fn := fun _ => fun
  | [d1, d2, d3] => { results := [.lit (.bool false)], args := [d1, d2, d3] }
  | _ => none }
def KinematicsMonotoneWrongFalsely : Prop := kinematicsMonotoneRow.holds Tryz.pinned (OpenSpec.ofChange kinematicsMonotoneWrong)

/-- 'armplanlaw11.KinematicsPlaced': WHATEVER THE INPUT: true; the input reads as it did. -/
def kinematicsPlacedSpec : ChangeSpec := { name := "kinematicsPlaced", fn := fun _ => fun
  | [d1, d2] => { results := [.lit (.bool true)], args := [d1, d2] }
  | _ => none }
def kinematicsPlacedRow : OpenClaim := { program := "ytkekddbdbfdjeaagreat", sum := "d1fd3245b974f336b6ea55f7d91a904c9a28600a6b6df8d5259d0610dfbf6375", func := "armplan/armplanlaw11.KinematicsPlaced", spec := "kinematicsPlaced", unfollowed := true, recurses := true, apart := false }
def KinematicsPlacedSaid : Prop := kinematicsPlacedRow.holds Tryz.pinned (OpenSpec.ofChange kinematicsPlacedSpec)

/-- ITS FALSE NEIGHBOUR: 'it returns false'. Refute it at one input. -/
def kinematicsPlacedWrong : ChangeSpec := { name := "kinematicsPlaced", fn := fun _ => fun
  | [d1, d2] => { results := [.lit (.bool false)], args := [d1, d2] }
  | _ => none }
def KinematicsPlacedWrongFalsely : Prop := kinematicsPlacedRow.holds Tryz.pinned (OpenSpec.ofChange kinematicsPlacedWrong)

/-- 'armplanlaw11.KinematicsRigid': WHATEVER THE INPUT: true; the input reads as it did. -/
def kinematicsRigidSpec : ChangeSpec := { name := "kinematicsRigid", fn := fun _ => fun
  | [d1, d2, d3] => { results := [.lit (.bool true)], args := [d1, d2, d3] }
  | _ => none }
def kinematicsRigidRow : OpenClaim := { program := "ytkekddbdbfdjeaagreat", sum := "d1fd3245b974f336b6ea55f7d91a904c9a28600a6b6df8d5259d0610dfbf6375", func := "armplan/armplanlaw11.KinematicsRigid", spec := "kinematicsRigid", unfollowed := true, recurses := true, apart := false }
def KinematicsRigidSaid : Prop := kinematicsRigidRow.holds Tryz.pinned (OpenSpec.ofChange kinematicsRigidSpec)

/-- ITS FALSE NEIGHBOUR: 'it returns false'. Refute it at one input. -/
def kinematicsRigidWrong : ChangeSpec := { name := "kinematicsRigid", fn := fun _ => fun
  | [d1, d2, d3] => { results := [.lit (.bool false)], args := [d1, d2, d3] }
  | _ => none }
def KinematicsRigidWrongFalsely : Prop := kinematicsRigidRow.holds Tryz.pinned (OpenSpec.ofChange kinematicsRigidWrong)

/- THE SECOND FORM. 'bulk': how many values and letters a reading holds, each counted each time it is reached (what is shared counts as often as it is met; a slice's spare places count too). A statement '..UptoSaid' is the law's where the arguments, and the package variables that the reading takes, are together of bulk at most 1048576: NARROWER than '..Said'. Prove '..Said' where nothing that the law and all that it calls make is longer than what came in: it says more and counts as full. Else prove '..UptoSaid'. A law counts once. -/
mutual
def uptoBulk {H : Type} : DataW H → Nat
  | .lit (.string bytes) => bytes.length + 1
  | .lit _ => 1
  | .nil => 1
  | .ptr d => uptoBulk d + 1
  | .slice elems spare => uptoBulkAll elems + uptoBulkAll spare + 1
  | .agg parts => uptoBulkAll parts + 1
  | .iface _ d => uptoBulk d + 1
  | .map entries => uptoBulkEntries entries + 1
  | .held _ => 1
def uptoBulkAll {H : Type} : List (DataW H) → Nat
  | [] => 0
  | d :: r => uptoBulk d + uptoBulkAll r
def uptoBulkEntries {H : Type} : List (Lit × DataW H) → Nat
  | [] => 0
  | x :: r => uptoBulkEntry x + uptoBulkEntries r
def uptoBulkEntry {H : Type} : Lit × DataW H → Nat
  | (.string bytes, d) => bytes.length + uptoBulk d + 1
  | (_, d) => uptoBulk d + 1
 end
def uptoSmall : (H : Type) → List (DataW H) → Bool := fun _ ds => decide (uptoBulkAll ds ≤ 1048576)
def OpenSpec.upto (s : _root_.Go.ChangeSpec) : _root_.Go.OpenSpec := { _root_.Go.OpenSpec.ofChange s with cond := some uptoSmall }

/-- 'armplanlaw11.KinematicsLinks', WHERE WHAT IT READS IS OF BULK AT MOST 1048576: true; the input reads as it did. -/
def kinematicsLinksUptoRow : OpenClaim := { program := "ytkekddbdbfdjeaagreat", sum := "d1fd3245b974f336b6ea55f7d91a904c9a28600a6b6df8d5259d0610dfbf6375", func := "armplan/armplanlaw11.KinematicsLinks", spec := "kinematicsLinks", unfollowed := true, recurses := true, apart := false, narrowed := true }
def KinematicsLinksUptoSaid : Prop := kinematicsLinksUptoRow.holds Tryz.pinned (OpenSpec.upto kinematicsLinksSpec)

/-- 'armplanlaw11.KinematicsMonotone', WHERE WHAT IT READS IS OF BULK AT MOST 1048576: true; the input reads as it did. -/
def kinematicsMonotoneUptoRow : OpenClaim := { program := "ytkekddbdbfdjeaagreat", sum := "d1fd3245b974f336b6ea55f7d91a904c9a28600a6b6df8d5259d0610dfbf6375", func := "armplan/armplanlaw11.KinematicsMonotone", spec := "kinematicsMonotone", unfollowed := true, recurses := true, apart := false, narrowed := true }
def KinematicsMonotoneUptoSaid : Prop := kinematicsMonotoneUptoRow.holds Tryz.pinned (OpenSpec.upto kinematicsMonotoneSpec)

/-- 'armplanlaw11.KinematicsPlaced', WHERE WHAT IT READS IS OF BULK AT MOST 1048576: true; the input reads as it did. -/
def kinematicsPlacedUptoRow : OpenClaim := { program := "ytkekddbdbfdjeaagreat", sum := "d1fd3245b974f336b6ea55f7d91a904c9a28600a6b6df8d5259d0610dfbf6375", func := "armplan/armplanlaw11.KinematicsPlaced", spec := "kinematicsPlaced", unfollowed := true, recurses := true, apart := false, narrowed := true }
def KinematicsPlacedUptoSaid : Prop := kinematicsPlacedUptoRow.holds Tryz.pinned (OpenSpec.upto kinematicsPlacedSpec)

/-- 'armplanlaw11.KinematicsRigid', WHERE WHAT IT READS IS OF BULK AT MOST 1048576: true; the input reads as it did. -/
def kinematicsRigidUptoRow : OpenClaim := { program := "ytkekddbdbfdjeaagreat", sum := "d1fd3245b974f336b6ea55f7d91a904c9a28600a6b6df8d5259d0610dfbf6375", func := "armplan/armplanlaw11.KinematicsRigid", spec := "kinematicsRigid", unfollowed := true, recurses := true, apart := false, narrowed := true }
def KinematicsRigidUptoSaid : Prop := kinematicsRigidUptoRow.holds Tryz.pinned (OpenSpec.upto kinematicsRigidSpec)

end Rows
end Go.Proofs.YtkekddbdbfdjeaaGreat

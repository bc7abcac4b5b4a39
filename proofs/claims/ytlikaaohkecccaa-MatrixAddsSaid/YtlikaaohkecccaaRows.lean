/-
  No cell of these rows narrows 'for every input' (looked for: loops, veiled, ifaces, maps, wideKeys, modest, calm, conditions, laid).
  DERIVED. THE GIVEN ROWS OF THIS SEAT. 27 by the template 'for every input the law returns true; each argument reads behind the call as it read before'; 0 by the template 'total and deterministic' (their statements: YtlikaaohkecccaaTotals.lean).
  GIVEN WITH THE SEED: the statements are not yours to turn. If you find one false, say at which input.
  Laid BY PROGRAM, IN A SANDBOX (cutbox-rows.mjs): the forced cells as the released guide's own fill.sh prints them over the translation c3a4788c6d7245ce… (all of the seat's roots in one cut). By AI agents, Wed Nov 11 2026. No macro, syntax, notation, axiom, sorry.
-/
import Derived.Test.YtlikaaohkecccaaChecked
import GoSem.Claim
import GoSem.ClaimJoined
import GoSem.ClaimMapViews
import Derived.JoinedTies
import Derived.KernelRfl
namespace Go.Proofs.Ytlikaaohkecccaa
/- THE CELL 'sum', in the pinned program and in every row, IS THE sha256 OF THE DUMP (.gsa) THAT YtlikaaohkecccaaProg.lean LOADS. Nothing in Lean hashes anything: it is a label: what it is worth is what the hold of that sum in a sandbox is worth. -/
noncomputable def Try.pinned : Pinned := { name := "ytlikaaohkecccaa", sum := "c3a4788c6d7245ce5f56a19b739bf29ddc967fd5fc0ac2cacd645516bb44e947", checked := Try.checked }
namespace Rows
def none {H : Type} : Left H := { results := [], args := [] }

/-- 'armplanlaw3.AngleChord': WHATEVER THE INPUT: true; the input reads as it did. -/
def angleChordSpec : ChangeSpec := { name := "angleChord", fn := fun _ => fun
  | [d] => { results := [.lit (.bool true)], args := [d] }
  | _ => none }
def angleChordRow : OpenClaim := { program := "ytlikaaohkecccaa", sum := "c3a4788c6d7245ce5f56a19b739bf29ddc967fd5fc0ac2cacd645516bb44e947", func := "armplan/armplanlaw3.AngleChord", spec := "angleChord", apart := false }
def AngleChordSaid : Prop := angleChordRow.holds Try.pinned (OpenSpec.ofChange angleChordSpec)

/-- ITS FALSE NEIGHBOUR: 'it returns false'. Refute it at one input. -/
def angleChordWrong : ChangeSpec := { name := "angleChord", fn := fun _ => fun
  | [d] => { results := [.lit (.bool false)], args := [d] }
  | _ => none }
def AngleChordWrongFalsely : Prop := angleChordRow.holds Try.pinned (OpenSpec.ofChange angleChordWrong)

/-- 'armplanlaw3.AngleValues': WHATEVER THE INPUT: true; the input reads as it did. -/
def angleValuesSpec : ChangeSpec := { name := "angleValues", fn := fun _ => fun
  | [d1, d2] => { results := [.lit (.bool true)], args := [d1, d2] }
  | _ => none }
def angleValuesRow : OpenClaim := { program := "ytlikaaohkecccaa", sum := "c3a4788c6d7245ce5f56a19b739bf29ddc967fd5fc0ac2cacd645516bb44e947", func := "armplan/armplanlaw3.AngleValues", spec := "angleValues", apart := false }
def AngleValuesSaid : Prop := angleValuesRow.holds Try.pinned (OpenSpec.ofChange angleValuesSpec)

/-- ITS FALSE NEIGHBOUR: 'it returns false'. Refute it at one input. -/
def angleValuesWrong : ChangeSpec := { name := "angleValues", fn := fun _ => fun
  | [d1, d2] => { results := [.lit (.bool false)], args := [d1, d2] }
  | _ => none }
def AngleValuesWrongFalsely : Prop := angleValuesRow.holds Try.pinned (OpenSpec.ofChange angleValuesWrong)

/-- 'armplanlaw3.AngleSymmetry': WHATEVER THE INPUT: true; the input reads as it did. -/
def angleSymmetrySpec : ChangeSpec := { name := "angleSymmetry", fn := fun _ => fun
  | [d] => { results := [.lit (.bool true)], args := [d] }
  | _ => none }
def angleSymmetryRow : OpenClaim := { program := "ytlikaaohkecccaa", sum := "c3a4788c6d7245ce5f56a19b739bf29ddc967fd5fc0ac2cacd645516bb44e947", func := "armplan/armplanlaw3.AngleSymmetry", spec := "angleSymmetry", apart := false }
def AngleSymmetrySaid : Prop := angleSymmetryRow.holds Try.pinned (OpenSpec.ofChange angleSymmetrySpec)

/-- ITS FALSE NEIGHBOUR: 'it returns false'. Refute it at one input. -/
def angleSymmetryWrong : ChangeSpec := { name := "angleSymmetry", fn := fun _ => fun
  | [d] => { results := [.lit (.bool false)], args := [d] }
  | _ => none }
def AngleSymmetryWrongFalsely : Prop := angleSymmetryRow.holds Try.pinned (OpenSpec.ofChange angleSymmetryWrong)

/-- 'armplanlaw3.AngleCircle': WHATEVER THE INPUT: true; the input reads as it did. -/
def angleCircleSpec : ChangeSpec := { name := "angleCircle", fn := fun _ => fun
  | [d] => { results := [.lit (.bool true)], args := [d] }
  | _ => none }
def angleCircleRow : OpenClaim := { program := "ytlikaaohkecccaa", sum := "c3a4788c6d7245ce5f56a19b739bf29ddc967fd5fc0ac2cacd645516bb44e947", func := "armplan/armplanlaw3.AngleCircle", spec := "angleCircle", apart := false }
def AngleCircleSaid : Prop := angleCircleRow.holds Try.pinned (OpenSpec.ofChange angleCircleSpec)

/-- ITS FALSE NEIGHBOUR: 'it returns false'. Refute it at one input. -/
def angleCircleWrong : ChangeSpec := { name := "angleCircle", fn := fun _ => fun
  | [d] => { results := [.lit (.bool false)], args := [d] }
  | _ => none }
def AngleCircleWrongFalsely : Prop := angleCircleRow.holds Try.pinned (OpenSpec.ofChange angleCircleWrong)

/-- 'armplanlaw3.AngleRises': WHATEVER THE INPUT: true; the input reads as it did. -/
def angleRisesSpec : ChangeSpec := { name := "angleRises", fn := fun _ => fun
  | [d] => { results := [.lit (.bool true)], args := [d] }
  | _ => none }
def angleRisesRow : OpenClaim := { program := "ytlikaaohkecccaa", sum := "c3a4788c6d7245ce5f56a19b739bf29ddc967fd5fc0ac2cacd645516bb44e947", func := "armplan/armplanlaw3.AngleRises", spec := "angleRises", apart := false }
def AngleRisesSaid : Prop := angleRisesRow.holds Try.pinned (OpenSpec.ofChange angleRisesSpec)

/-- ITS FALSE NEIGHBOUR: 'it returns false'. Refute it at one input. -/
def angleRisesWrong : ChangeSpec := { name := "angleRises", fn := fun _ => fun
  | [d] => { results := [.lit (.bool false)], args := [d] }
  | _ => none }
def AngleRisesWrongFalsely : Prop := angleRisesRow.holds Try.pinned (OpenSpec.ofChange angleRisesWrong)

/-- 'armplanlaw3.AngleAdds': WHATEVER THE INPUT: true; the input reads as it did. -/
def angleAddsSpec : ChangeSpec := { name := "angleAdds", fn := fun _ => fun
  | [d1, d2] => { results := [.lit (.bool true)], args := [d1, d2] }
  | _ => none }
def angleAddsRow : OpenClaim := { program := "ytlikaaohkecccaa", sum := "c3a4788c6d7245ce5f56a19b739bf29ddc967fd5fc0ac2cacd645516bb44e947", func := "armplan/armplanlaw3.AngleAdds", spec := "angleAdds", apart := false }
def AngleAddsSaid : Prop := angleAddsRow.holds Try.pinned (OpenSpec.ofChange angleAddsSpec)

/-- ITS FALSE NEIGHBOUR: 'it returns false'. Refute it at one input. -/
def angleAddsWrong : ChangeSpec := { name := "angleAdds", fn := fun _ => fun
  | [d1, d2] => { results := [.lit (.bool false)], args := [d1, d2] }
  | _ => none }
def AngleAddsWrongFalsely : Prop := angleAddsRow.holds Try.pinned (OpenSpec.ofChange angleAddsWrong)

/-- 'armplanlaw3.AngleRanges': WHATEVER THE INPUT: true; the input reads as it did. -/
def angleRangesSpec : ChangeSpec := { name := "angleRanges", fn := fun _ => fun
  | [d1, d2, d3] => { results := [.lit (.bool true)], args := [d1, d2, d3] }
  | _ => none }
def angleRangesRow : OpenClaim := { program := "ytlikaaohkecccaa", sum := "c3a4788c6d7245ce5f56a19b739bf29ddc967fd5fc0ac2cacd645516bb44e947", func := "armplan/armplanlaw3.AngleRanges", spec := "angleRanges", unfollowed := true, recurses := true, apart := false }
def AngleRangesSaid : Prop := angleRangesRow.holds Try.pinned (OpenSpec.ofChange angleRangesSpec)

/-- ITS FALSE NEIGHBOUR: 'it returns false'. Refute it at one input. -/
def angleRangesWrong : ChangeSpec := { name := "angleRanges", fn := fun _ => fun
  | [d1, d2, d3] => { results := [.lit (.bool false)], args := [d1, d2, d3] }
  | _ => none }
def AngleRangesWrongFalsely : Prop := angleRangesRow.holds Try.pinned (OpenSpec.ofChange angleRangesWrong)

/-- 'armplanlaw3.AngleContains': WHATEVER THE INPUT: true; the input reads as it did. -/
def angleContainsSpec : ChangeSpec := { name := "angleContains", fn := fun _ => fun
  | [d1, d2, d3] => { results := [.lit (.bool true)], args := [d1, d2, d3] }
  | _ => none }
def angleContainsRow : OpenClaim := { program := "ytlikaaohkecccaa", sum := "c3a4788c6d7245ce5f56a19b739bf29ddc967fd5fc0ac2cacd645516bb44e947", func := "armplan/armplanlaw3.AngleContains", spec := "angleContains", unfollowed := true, recurses := true, apart := false }
def AngleContainsSaid : Prop := angleContainsRow.holds Try.pinned (OpenSpec.ofChange angleContainsSpec)

/-- ITS FALSE NEIGHBOUR: 'it returns false'. Refute it at one input. -/
def angleContainsWrong : ChangeSpec := { name := "angleContains", fn := fun _ => fun
  | [d1, d2, d3] => { results := [.lit (.bool false)], args := [d1, d2, d3] }
  | _ => none }
def AngleContainsWrongFalsely : Prop := angleContainsRow.holds Try.pinned (OpenSpec.ofChange angleContainsWrong)

/-- 'armplanlaw3.AngleNested': WHATEVER THE INPUT: true; the input reads as it did. -/
def angleNestedSpec : ChangeSpec := { name := "angleNested", fn := fun _ => fun
  | [d1, d2, d3, d4] => { results := [.lit (.bool true)], args := [d1, d2, d3, d4] }
  | _ => none }
def angleNestedRow : OpenClaim := { program := "ytlikaaohkecccaa", sum := "c3a4788c6d7245ce5f56a19b739bf29ddc967fd5fc0ac2cacd645516bb44e947", func := "armplan/armplanlaw3.AngleNested", spec := "angleNested", unfollowed := true, recurses := true, apart := false }
def AngleNestedSaid : Prop := angleNestedRow.holds Try.pinned (OpenSpec.ofChange angleNestedSpec)

/-- ITS FALSE NEIGHBOUR: 'it returns false'. Refute it at one input. -/
def angleNestedWrong : ChangeSpec := { name := "angleNested", fn := fun _ => fun
  | [d1, d2, d3, d4] => { results := [.lit (.bool false)], args := [d1, d2, d3, d4] }
  | _ => none }
def AngleNestedWrongFalsely : Prop := angleNestedRow.holds Try.pinned (OpenSpec.ofChange angleNestedWrong)

/-- 'armplanlaw4.MatrixTurns': WHATEVER THE INPUT: true; the input reads as it did. -/
def matrixTurnsSpec : ChangeSpec := { name := "matrixTurns", fn := fun _ => fun
  | [d1, d2, d3, d4] => { results := [.lit (.bool true)], args := [d1, d2, d3, d4] }
  | _ => none }
def matrixTurnsRow : OpenClaim := { program := "ytlikaaohkecccaa", sum := "c3a4788c6d7245ce5f56a19b739bf29ddc967fd5fc0ac2cacd645516bb44e947", func := "armplan/armplanlaw4.MatrixTurns", spec := "matrixTurns", unfollowed := true, recurses := true, apart := false }
def MatrixTurnsSaid : Prop := matrixTurnsRow.holds Try.pinned (OpenSpec.ofChange matrixTurnsSpec)

/-- ITS FALSE NEIGHBOUR: 'it returns false'. Refute it at one input. -/
def matrixTurnsWrong : ChangeSpec := { name := "matrixTurns", fn := fun _ => fun
  | [d1, d2, d3, d4] => { results := [.lit (.bool false)], args := [d1, d2, d3, d4] }
  | _ => none }
def MatrixTurnsWrongFalsely : Prop := matrixTurnsRow.holds Try.pinned (OpenSpec.ofChange matrixTurnsWrong)

/-- 'armplanlaw4.MatrixLength': WHATEVER THE INPUT: true; the input reads as it did. -/
def matrixLengthSpec : ChangeSpec := { name := "matrixLength", fn := fun _ => fun
  | [d] => { results := [.lit (.bool true)], args := [d] }
  | _ => none }
def matrixLengthRow : OpenClaim := { program := "ytlikaaohkecccaa", sum := "c3a4788c6d7245ce5f56a19b739bf29ddc967fd5fc0ac2cacd645516bb44e947", func := "armplan/armplanlaw4.MatrixLength", spec := "matrixLength", unfollowed := true, recurses := true, apart := false }
def MatrixLengthSaid : Prop := matrixLengthRow.holds Try.pinned (OpenSpec.ofChange matrixLengthSpec)

/-- ITS FALSE NEIGHBOUR: 'it returns false'. Refute it at one input. -/
def matrixLengthWrong : ChangeSpec := { name := "matrixLength", fn := fun _ => fun
  | [d] => { results := [.lit (.bool false)], args := [d] }
  | _ => none }
def MatrixLengthWrongFalsely : Prop := matrixLengthRow.holds Try.pinned (OpenSpec.ofChange matrixLengthWrong)

/-- 'armplanlaw4.MatrixApplies': WHATEVER THE INPUT: true; the input reads as it did. -/
def matrixAppliesSpec : ChangeSpec := { name := "matrixApplies", fn := fun _ => fun
  | [d1, d2, d3, d4, d5] => { results := [.lit (.bool true)], args := [d1, d2, d3, d4, d5] }
  | _ => none }
def matrixAppliesRow : OpenClaim := { program := "ytlikaaohkecccaa", sum := "c3a4788c6d7245ce5f56a19b739bf29ddc967fd5fc0ac2cacd645516bb44e947", func := "armplan/armplanlaw4.MatrixApplies", spec := "matrixApplies", unfollowed := true, recurses := true, apart := false }
def MatrixAppliesSaid : Prop := matrixAppliesRow.holds Try.pinned (OpenSpec.ofChange matrixAppliesSpec)

/-- ITS FALSE NEIGHBOUR: 'it returns false'. Refute it at one input. -/
def matrixAppliesWrong : ChangeSpec := { name := "matrixApplies", fn := fun _ => fun
  | [d1, d2, d3, d4, d5] => { results := [.lit (.bool false)], args := [d1, d2, d3, d4, d5] }
  | _ => none }
def MatrixAppliesWrongFalsely : Prop := matrixAppliesRow.holds Try.pinned (OpenSpec.ofChange matrixAppliesWrong)

/-- 'armplanlaw4.MatrixQuarters': WHATEVER THE INPUT: true; the input reads as it did. -/
def matrixQuartersSpec : ChangeSpec := { name := "matrixQuarters", fn := fun _ => fun
  | [d1, d2] => { results := [.lit (.bool true)], args := [d1, d2] }
  | _ => none }
def matrixQuartersRow : OpenClaim := { program := "ytlikaaohkecccaa", sum := "c3a4788c6d7245ce5f56a19b739bf29ddc967fd5fc0ac2cacd645516bb44e947", func := "armplan/armplanlaw4.MatrixQuarters", spec := "matrixQuarters", unfollowed := true, recurses := true, apart := false }
def MatrixQuartersSaid : Prop := matrixQuartersRow.holds Try.pinned (OpenSpec.ofChange matrixQuartersSpec)

/-- ITS FALSE NEIGHBOUR: 'it returns false'. Refute it at one input. -/
def matrixQuartersWrong : ChangeSpec := { name := "matrixQuarters", fn := fun _ => fun
  | [d1, d2] => { results := [.lit (.bool false)], args := [d1, d2] }
  | _ => none }
def MatrixQuartersWrongFalsely : Prop := matrixQuartersRow.holds Try.pinned (OpenSpec.ofChange matrixQuartersWrong)

/-- 'armplanlaw4.MatrixAdds': WHATEVER THE INPUT: true; the input reads as it did. -/
def matrixAddsSpec : ChangeSpec := { name := "matrixAdds", fn := fun _ => fun
  | [d1, d2, d3] => { results := [.lit (.bool true)], args := [d1, d2, d3] }
  | _ => none }
def matrixAddsRow : OpenClaim := { program := "ytlikaaohkecccaa", sum := "c3a4788c6d7245ce5f56a19b739bf29ddc967fd5fc0ac2cacd645516bb44e947", func := "armplan/armplanlaw4.MatrixAdds", spec := "matrixAdds", unfollowed := true, recurses := true, apart := false }
def MatrixAddsSaid : Prop := matrixAddsRow.holds Try.pinned (OpenSpec.ofChange matrixAddsSpec)

/-- ITS FALSE NEIGHBOUR: 'it returns false'. Refute it at one input. -/
def matrixAddsWrong : ChangeSpec := { name := "matrixAdds", fn := fun _ => fun
  | [d1, d2, d3] => { results := [.lit (.bool false)], args := [d1, d2, d3] }
  | _ => none }
def MatrixAddsWrongFalsely : Prop := matrixAddsRow.holds Try.pinned (OpenSpec.ofChange matrixAddsWrong)

/-- 'armplanlaw4.MatrixOrthogonal': WHATEVER THE INPUT: true; the input reads as it did. -/
def matrixOrthogonalSpec : ChangeSpec := { name := "matrixOrthogonal", fn := fun _ => fun
  | [d] => { results := [.lit (.bool true)], args := [d] }
  | _ => none }
def matrixOrthogonalRow : OpenClaim := { program := "ytlikaaohkecccaa", sum := "c3a4788c6d7245ce5f56a19b739bf29ddc967fd5fc0ac2cacd645516bb44e947", func := "armplan/armplanlaw4.MatrixOrthogonal", spec := "matrixOrthogonal", unfollowed := true, recurses := true, apart := false }
def MatrixOrthogonalSaid : Prop := matrixOrthogonalRow.holds Try.pinned (OpenSpec.ofChange matrixOrthogonalSpec)

/-- ITS FALSE NEIGHBOUR: 'it returns false'. Refute it at one input. -/
def matrixOrthogonalWrong : ChangeSpec := { name := "matrixOrthogonal", fn := fun _ => fun
  | [d] => { results := [.lit (.bool false)], args := [d] }
  | _ => none }
def MatrixOrthogonalWrongFalsely : Prop := matrixOrthogonalRow.holds Try.pinned (OpenSpec.ofChange matrixOrthogonalWrong)

/-- 'armplanlaw4.MatrixComposes': WHATEVER THE INPUT: true; the input reads as it did. -/
def matrixComposesSpec : ChangeSpec := { name := "matrixComposes", fn := fun _ => fun
  | [d1, d2, d3] => { results := [.lit (.bool true)], args := [d1, d2, d3] }
  | _ => none }
def matrixComposesRow : OpenClaim := { program := "ytlikaaohkecccaa", sum := "c3a4788c6d7245ce5f56a19b739bf29ddc967fd5fc0ac2cacd645516bb44e947", func := "armplan/armplanlaw4.MatrixComposes", spec := "matrixComposes", unfollowed := true, recurses := true, apart := false }
def MatrixComposesSaid : Prop := matrixComposesRow.holds Try.pinned (OpenSpec.ofChange matrixComposesSpec)

/-- ITS FALSE NEIGHBOUR: 'it returns false'. Refute it at one input. -/
def matrixComposesWrong : ChangeSpec := { name := "matrixComposes", fn := fun _ => fun
  | [d1, d2, d3] => { results := [.lit (.bool false)], args := [d1, d2, d3] }
  | _ => none }
def MatrixComposesWrongFalsely : Prop := matrixComposesRow.holds Try.pinned (OpenSpec.ofChange matrixComposesWrong)

/-- 'armplanlaw4.MatrixMonotone': WHATEVER THE INPUT: true; the input reads as it did. -/
def matrixMonotoneSpec : ChangeSpec := { name := "matrixMonotone", fn := fun _ => fun
  | [d1, d2] => { results := [.lit (.bool true)], args := [d1, d2] }
  | _ => none }
def matrixMonotoneRow : OpenClaim := { program := "ytlikaaohkecccaa", sum := "c3a4788c6d7245ce5f56a19b739bf29ddc967fd5fc0ac2cacd645516bb44e947", func := "armplan/armplanlaw4.MatrixMonotone", spec := "matrixMonotone", unfollowed := true, recurses := true, apart := false }
def MatrixMonotoneSaid : Prop := matrixMonotoneRow.holds Try.pinned (OpenSpec.ofChange matrixMonotoneSpec)

/-- ITS FALSE NEIGHBOUR: 'it returns false'. Refute it at one input. -/
def matrixMonotoneWrong : ChangeSpec := { name := "matrixMonotone", fn := fun _ => fun
  | [d1, d2] => { results := [.lit (.bool false)], args := [d1, d2] }
  | _ => none }
def MatrixMonotoneWrongFalsely : Prop := matrixMonotoneRow.holds Try.pinned (OpenSpec.ofChange matrixMonotoneWrong)

/-- 'armplanlaw5.PoseChain': WHATEVER THE INPUT: true; the input reads as it did. -/
def poseChainSpec : ChangeSpec := { name := "poseChain", fn := fun _ => fun
  | [d] => { results := [.lit (.bool true)], args := [d] }
  | _ => none }
def poseChainRow : OpenClaim := { program := "ytlikaaohkecccaa", sum := "c3a4788c6d7245ce5f56a19b739bf29ddc967fd5fc0ac2cacd645516bb44e947", func := "armplan/armplanlaw5.PoseChain", spec := "poseChain", unfollowed := true, recurses := true, apart := false }
def PoseChainSaid : Prop := poseChainRow.holds Try.pinned (OpenSpec.ofChange poseChainSpec)

/-- ITS FALSE NEIGHBOUR: 'it returns false'. Refute it at one input. -/
def poseChainWrong : ChangeSpec := { name := "poseChain", fn := fun _ => fun
  | [d] => { results := [.lit (.bool false)], args := [d] }
  | _ => none }
def PoseChainWrongFalsely : Prop := poseChainRow.holds Try.pinned (OpenSpec.ofChange poseChainWrong)

/-- 'armplanlaw5.PoseShifts': WHATEVER THE INPUT: true; the input reads as it did. -/
def poseShiftsSpec : ChangeSpec := { name := "poseShifts", fn := fun _ => fun
  | [d1, d2, d3] => { results := [.lit (.bool true)], args := [d1, d2, d3] }
  | _ => none }
def poseShiftsRow : OpenClaim := { program := "ytlikaaohkecccaa", sum := "c3a4788c6d7245ce5f56a19b739bf29ddc967fd5fc0ac2cacd645516bb44e947", func := "armplan/armplanlaw5.PoseShifts", spec := "poseShifts", unfollowed := true, recurses := true, apart := false }
def PoseShiftsSaid : Prop := poseShiftsRow.holds Try.pinned (OpenSpec.ofChange poseShiftsSpec)

/-- ITS FALSE NEIGHBOUR: 'it returns false'. Refute it at one input. -/
def poseShiftsWrong : ChangeSpec := { name := "poseShifts", fn := fun _ => fun
  | [d1, d2, d3] => { results := [.lit (.bool false)], args := [d1, d2, d3] }
  | _ => none }
def PoseShiftsWrongFalsely : Prop := poseShiftsRow.holds Try.pinned (OpenSpec.ofChange poseShiftsWrong)

/-- 'armplanlaw5.PoseComposes': WHATEVER THE INPUT: true; the input reads as it did. -/
def poseComposesSpec : ChangeSpec := { name := "poseComposes", fn := fun _ => fun
  | [d1, d2, d3, d4, d5, d6] => { results := [.lit (.bool true)], args := [d1, d2, d3, d4, d5, d6] }
  | _ => none }
def poseComposesRow : OpenClaim := { program := "ytlikaaohkecccaa", sum := "c3a4788c6d7245ce5f56a19b739bf29ddc967fd5fc0ac2cacd645516bb44e947", func := "armplan/armplanlaw5.PoseComposes", spec := "poseComposes", unfollowed := true, recurses := true, apart := false }
def PoseComposesSaid : Prop := poseComposesRow.holds Try.pinned (OpenSpec.ofChange poseComposesSpec)

/-- ITS FALSE NEIGHBOUR: 'it returns false'. Refute it at one input. -/
def poseComposesWrong : ChangeSpec := { name := "poseComposes", fn := fun _ => fun
  | [d1, d2, d3, d4, d5, d6] => { results := [.lit (.bool false)], args := [d1, d2, d3, d4, d5, d6] }
  | _ => none }
def PoseComposesWrongFalsely : Prop := poseComposesRow.holds Try.pinned (OpenSpec.ofChange poseComposesWrong)

/-- 'armplanlaw5.PoseNeutral': WHATEVER THE INPUT: true; the input reads as it did. -/
def poseNeutralSpec : ChangeSpec := { name := "poseNeutral", fn := fun _ => fun
  | [d1, d2] => { results := [.lit (.bool true)], args := [d1, d2] }
  | _ => none }
def poseNeutralRow : OpenClaim := { program := "ytlikaaohkecccaa", sum := "c3a4788c6d7245ce5f56a19b739bf29ddc967fd5fc0ac2cacd645516bb44e947", func := "armplan/armplanlaw5.PoseNeutral", spec := "poseNeutral", unfollowed := true, recurses := true, apart := false }
def PoseNeutralSaid : Prop := poseNeutralRow.holds Try.pinned (OpenSpec.ofChange poseNeutralSpec)

/-- ITS FALSE NEIGHBOUR: 'it returns false'. Refute it at one input. -/
def poseNeutralWrong : ChangeSpec := { name := "poseNeutral", fn := fun _ => fun
  | [d1, d2] => { results := [.lit (.bool false)], args := [d1, d2] }
  | _ => none }
def PoseNeutralWrongFalsely : Prop := poseNeutralRow.holds Try.pinned (OpenSpec.ofChange poseNeutralWrong)

/-- 'armplanlaw11.KinematicsJoints': WHATEVER THE INPUT: true; the input reads as it did. -/
def kinematicsJointsSpec : ChangeSpec := { name := "kinematicsJoints", fn := fun _ => fun
  | [d1, d2, d3, d4] => { results := [.lit (.bool true)], args := [d1, d2, d3, d4] }
  | _ => none }
def kinematicsJointsRow : OpenClaim := { program := "ytlikaaohkecccaa", sum := "c3a4788c6d7245ce5f56a19b739bf29ddc967fd5fc0ac2cacd645516bb44e947", func := "armplan/armplanlaw11.KinematicsJoints", spec := "kinematicsJoints", unfollowed := true, recurses := true, apart := false }
def KinematicsJointsSaid : Prop := kinematicsJointsRow.holds Try.pinned (OpenSpec.ofChange kinematicsJointsSpec)

/-- ITS FALSE NEIGHBOUR: 'it returns false'. Refute it at one input. -/
def kinematicsJointsWrong : ChangeSpec := { name := "kinematicsJoints", fn := fun _ => fun
  | [d1, d2, d3, d4] => { results := [.lit (.bool false)], args := [d1, d2, d3, d4] }
  | _ => none }
def KinematicsJointsWrongFalsely : Prop := kinematicsJointsRow.holds Try.pinned (OpenSpec.ofChange kinematicsJointsWrong)

/-- 'armplanlaw5.PoseApplies': WHATEVER THE INPUT: true; the input reads as it did. -/
def poseAppliesSpec : ChangeSpec := { name := "poseApplies", fn := fun _ => fun
  | [d1, d2, d3, d4] => { results := [.lit (.bool true)], args := [d1, d2, d3, d4] }
  | _ => none }
def poseAppliesRow : OpenClaim := { program := "ytlikaaohkecccaa", sum := "c3a4788c6d7245ce5f56a19b739bf29ddc967fd5fc0ac2cacd645516bb44e947", func := "armplan/armplanlaw5.PoseApplies", spec := "poseApplies", unfollowed := true, recurses := true, apart := false }
def PoseAppliesSaid : Prop := poseAppliesRow.holds Try.pinned (OpenSpec.ofChange poseAppliesSpec)

/-- ITS FALSE NEIGHBOUR: 'it returns false'. Refute it at one input. -/
def poseAppliesWrong : ChangeSpec := { name := "poseApplies", fn := fun _ => fun
  | [d1, d2, d3, d4] => { results := [.lit (.bool false)], args := [d1, d2, d3, d4] }
  | _ => none }
def PoseAppliesWrongFalsely : Prop := poseAppliesRow.holds Try.pinned (OpenSpec.ofChange poseAppliesWrong)

/-- 'armplanlaw5.PoseMonotone': WHATEVER THE INPUT: true; the input reads as it did. -/
def poseMonotoneSpec : ChangeSpec := { name := "poseMonotone", fn := fun _ => fun
  | [d1, d2] => { results := [.lit (.bool true)], args := [d1, d2] }
  | _ => none }
def poseMonotoneRow : OpenClaim := { program := "ytlikaaohkecccaa", sum := "c3a4788c6d7245ce5f56a19b739bf29ddc967fd5fc0ac2cacd645516bb44e947", func := "armplan/armplanlaw5.PoseMonotone", spec := "poseMonotone", unfollowed := true, recurses := true, apart := false }
def PoseMonotoneSaid : Prop := poseMonotoneRow.holds Try.pinned (OpenSpec.ofChange poseMonotoneSpec)

/-- ITS FALSE NEIGHBOUR: 'it returns false'. Refute it at one input. -/
def poseMonotoneWrong : ChangeSpec := { name := "poseMonotone", fn := fun _ => fun
  | [d1, d2] => { results := [.lit (.bool false)], args := [d1, d2] }
  | _ => none }
def PoseMonotoneWrongFalsely : Prop := poseMonotoneRow.holds Try.pinned (OpenSpec.ofChange poseMonotoneWrong)

/-- 'armplanlaw5.PoseInverse': WHATEVER THE INPUT: true; the input reads as it did. -/
def poseInverseSpec : ChangeSpec := { name := "poseInverse", fn := fun _ => fun
  | [d1, d2] => { results := [.lit (.bool true)], args := [d1, d2] }
  | _ => none }
def poseInverseRow : OpenClaim := { program := "ytlikaaohkecccaa", sum := "c3a4788c6d7245ce5f56a19b739bf29ddc967fd5fc0ac2cacd645516bb44e947", func := "armplan/armplanlaw5.PoseInverse", spec := "poseInverse", unfollowed := true, recurses := true, apart := false }
def PoseInverseSaid : Prop := poseInverseRow.holds Try.pinned (OpenSpec.ofChange poseInverseSpec)

/-- ITS FALSE NEIGHBOUR: 'it returns false'. Refute it at one input. -/
def poseInverseWrong : ChangeSpec := { name := "poseInverse", fn := fun _ => fun
  | [d1, d2] => { results := [.lit (.bool false)], args := [d1, d2] }
  | _ => none }
def PoseInverseWrongFalsely : Prop := poseInverseRow.holds Try.pinned (OpenSpec.ofChange poseInverseWrong)

/-- 'armplanlaw11.KinematicsLocal': WHATEVER THE INPUT: true; the input reads as it did. -/
def kinematicsLocalSpec : ChangeSpec := { name := "kinematicsLocal", fn := fun _ => fun
  | [d1, d2, d3, d4, d5] => { results := [.lit (.bool true)], args := [d1, d2, d3, d4, d5] }
  | _ => none }
def kinematicsLocalRow : OpenClaim := { program := "ytlikaaohkecccaa", sum := "c3a4788c6d7245ce5f56a19b739bf29ddc967fd5fc0ac2cacd645516bb44e947", func := "armplan/armplanlaw11.KinematicsLocal", spec := "kinematicsLocal", unfollowed := true, recurses := true, apart := false }
def KinematicsLocalSaid : Prop := kinematicsLocalRow.holds Try.pinned (OpenSpec.ofChange kinematicsLocalSpec)

/-- ITS FALSE NEIGHBOUR: 'it returns false'. Refute it at one input. -/
def kinematicsLocalWrong : ChangeSpec := { name := "kinematicsLocal", fn := fun _ => fun
  | [d1, d2, d3, d4, d5] => { results := [.lit (.bool false)], args := [d1, d2, d3, d4, d5] }
  | _ => none }
def KinematicsLocalWrongFalsely : Prop := kinematicsLocalRow.holds Try.pinned (OpenSpec.ofChange kinematicsLocalWrong)

/-- 'armplanlaw11.KinematicsQuarters': WHATEVER THE INPUT: true; the input reads as it did. -/
def kinematicsQuartersSpec : ChangeSpec := { name := "kinematicsQuarters", fn := fun _ => fun
  | [d1, d2] => { results := [.lit (.bool true)], args := [d1, d2] }
  | _ => none }
def kinematicsQuartersRow : OpenClaim := { program := "ytlikaaohkecccaa", sum := "c3a4788c6d7245ce5f56a19b739bf29ddc967fd5fc0ac2cacd645516bb44e947", func := "armplan/armplanlaw11.KinematicsQuarters", spec := "kinematicsQuarters", unfollowed := true, recurses := true, apart := false }
def KinematicsQuartersSaid : Prop := kinematicsQuartersRow.holds Try.pinned (OpenSpec.ofChange kinematicsQuartersSpec)

/-- ITS FALSE NEIGHBOUR: 'it returns false'. Refute it at one input. -/
def kinematicsQuartersWrong : ChangeSpec := { name := "kinematicsQuarters", fn := fun _ => fun
  | [d1, d2] => { results := [.lit (.bool false)], args := [d1, d2] }
  | _ => none }
def KinematicsQuartersWrongFalsely : Prop := kinematicsQuartersRow.holds Try.pinned (OpenSpec.ofChange kinematicsQuartersWrong)

/- THE SECOND FORM. 'bulk': how many values and letters a reading holds, each counted each time it is reached (what is shared counts as often as it is met; a slice's spare places count too). A statement '..UptoSaid' is the law's where the arguments, and the package variables that the reading takes, are together of bulk at most 1048576: NARROWER than '..Said'. Prove '..Said' where nothing that the law and all that it calls make is longer than what came in: it says more and counts as full. Else prove '..UptoSaid'. A law counts once. -/
mutual
def uptoBulk {H : Type} : DataW H → Nat
  | .lit (.string bytes) => bytes.length + 1
  | .lit _ => 1
  | .nil => 1
  | .ptr d => uptoBulk d + 1
  | .slice elems spare => uptoBulkAll elems + uptoBulkAll spare + 1
  | .agg parts => uptoBulkAll parts + 1
  | .iface _ d => uptoBulk d + 1
  | .map entries => uptoBulkEntries entries + 1
  | .held _ => 1
def uptoBulkAll {H : Type} : List (DataW H) → Nat
  | [] => 0
  | d :: r => uptoBulk d + uptoBulkAll r
def uptoBulkEntries {H : Type} : List (Lit × DataW H) → Nat
  | [] => 0
  | x :: r => uptoBulkEntry x + uptoBulkEntries r
def uptoBulkEntry {H : Type} : Lit × DataW H → Nat
  | (.string bytes, d) => bytes.length + uptoBulk d + 1
  | (_, d) => uptoBulk d + 1
 end
def uptoSmall : (H : Type) → List (DataW H) → Bool := fun _ ds => decide (uptoBulkAll ds ≤ 1048576)
def OpenSpec.upto (s : _root_.Go.ChangeSpec) : _root_.Go.OpenSpec := { _root_.Go.OpenSpec.ofChange s with cond := some uptoSmall }

/-- 'armplanlaw3.AngleChord', WHERE WHAT IT READS IS OF BULK AT MOST 1048576: true; the input reads as it did. -/
def angleChordUptoRow : OpenClaim := { program := "ytlikaaohkecccaa", sum := "c3a4788c6d7245ce5f56a19b739bf29ddc967fd5fc0ac2cacd645516bb44e947", func := "armplan/armplanlaw3.AngleChord", spec := "angleChord", apart := false, narrowed := true }
def AngleChordUptoSaid : Prop := angleChordUptoRow.holds Try.pinned (OpenSpec.upto angleChordSpec)

/-- 'armplanlaw3.AngleValues', WHERE WHAT IT READS IS OF BULK AT MOST 1048576: true; the input reads as it did. -/
def angleValuesUptoRow : OpenClaim := { program := "ytlikaaohkecccaa", sum := "c3a4788c6d7245ce5f56a19b739bf29ddc967fd5fc0ac2cacd645516bb44e947", func := "armplan/armplanlaw3.AngleValues", spec := "angleValues", apart := false, narrowed := true }
def AngleValuesUptoSaid : Prop := angleValuesUptoRow.holds Try.pinned (OpenSpec.upto angleValuesSpec)

/-- 'armplanlaw3.AngleSymmetry', WHERE WHAT IT READS IS OF BULK AT MOST 1048576: true; the input reads as it did. -/
def angleSymmetryUptoRow : OpenClaim := { program := "ytlikaaohkecccaa", sum := "c3a4788c6d7245ce5f56a19b739bf29ddc967fd5fc0ac2cacd645516bb44e947", func := "armplan/armplanlaw3.AngleSymmetry", spec := "angleSymmetry", apart := false, narrowed := true }
def AngleSymmetryUptoSaid : Prop := angleSymmetryUptoRow.holds Try.pinned (OpenSpec.upto angleSymmetrySpec)

/-- 'armplanlaw3.AngleCircle', WHERE WHAT IT READS IS OF BULK AT MOST 1048576: true; the input reads as it did. -/
def angleCircleUptoRow : OpenClaim := { program := "ytlikaaohkecccaa", sum := "c3a4788c6d7245ce5f56a19b739bf29ddc967fd5fc0ac2cacd645516bb44e947", func := "armplan/armplanlaw3.AngleCircle", spec := "angleCircle", apart := false, narrowed := true }
def AngleCircleUptoSaid : Prop := angleCircleUptoRow.holds Try.pinned (OpenSpec.upto angleCircleSpec)

/-- 'armplanlaw3.AngleRises', WHERE WHAT IT READS IS OF BULK AT MOST 1048576: true; the input reads as it did. -/
def angleRisesUptoRow : OpenClaim := { program := "ytlikaaohkecccaa", sum := "c3a4788c6d7245ce5f56a19b739bf29ddc967fd5fc0ac2cacd645516bb44e947", func := "armplan/armplanlaw3.AngleRises", spec := "angleRises", apart := false, narrowed := true }
def AngleRisesUptoSaid : Prop := angleRisesUptoRow.holds Try.pinned (OpenSpec.upto angleRisesSpec)

/-- 'armplanlaw3.AngleAdds', WHERE WHAT IT READS IS OF BULK AT MOST 1048576: true; the input reads as it did. -/
def angleAddsUptoRow : OpenClaim := { program := "ytlikaaohkecccaa", sum := "c3a4788c6d7245ce5f56a19b739bf29ddc967fd5fc0ac2cacd645516bb44e947", func := "armplan/armplanlaw3.AngleAdds", spec := "angleAdds", apart := false, narrowed := true }
def AngleAddsUptoSaid : Prop := angleAddsUptoRow.holds Try.pinned (OpenSpec.upto angleAddsSpec)

/-- 'armplanlaw3.AngleRanges', WHERE WHAT IT READS IS OF BULK AT MOST 1048576: true; the input reads as it did. -/
def angleRangesUptoRow : OpenClaim := { program := "ytlikaaohkecccaa", sum := "c3a4788c6d7245ce5f56a19b739bf29ddc967fd5fc0ac2cacd645516bb44e947", func := "armplan/armplanlaw3.AngleRanges", spec := "angleRanges", unfollowed := true, recurses := true, apart := false, narrowed := true }
def AngleRangesUptoSaid : Prop := angleRangesUptoRow.holds Try.pinned (OpenSpec.upto angleRangesSpec)

/-- 'armplanlaw3.AngleContains', WHERE WHAT IT READS IS OF BULK AT MOST 1048576: true; the input reads as it did. -/
def angleContainsUptoRow : OpenClaim := { program := "ytlikaaohkecccaa", sum := "c3a4788c6d7245ce5f56a19b739bf29ddc967fd5fc0ac2cacd645516bb44e947", func := "armplan/armplanlaw3.AngleContains", spec := "angleContains", unfollowed := true, recurses := true, apart := false, narrowed := true }
def AngleContainsUptoSaid : Prop := angleContainsUptoRow.holds Try.pinned (OpenSpec.upto angleContainsSpec)

/-- 'armplanlaw3.AngleNested', WHERE WHAT IT READS IS OF BULK AT MOST 1048576: true; the input reads as it did. -/
def angleNestedUptoRow : OpenClaim := { program := "ytlikaaohkecccaa", sum := "c3a4788c6d7245ce5f56a19b739bf29ddc967fd5fc0ac2cacd645516bb44e947", func := "armplan/armplanlaw3.AngleNested", spec := "angleNested", unfollowed := true, recurses := true, apart := false, narrowed := true }
def AngleNestedUptoSaid : Prop := angleNestedUptoRow.holds Try.pinned (OpenSpec.upto angleNestedSpec)

/-- 'armplanlaw4.MatrixTurns', WHERE WHAT IT READS IS OF BULK AT MOST 1048576: true; the input reads as it did. -/
def matrixTurnsUptoRow : OpenClaim := { program := "ytlikaaohkecccaa", sum := "c3a4788c6d7245ce5f56a19b739bf29ddc967fd5fc0ac2cacd645516bb44e947", func := "armplan/armplanlaw4.MatrixTurns", spec := "matrixTurns", unfollowed := true, recurses := true, apart := false, narrowed := true }
def MatrixTurnsUptoSaid : Prop := matrixTurnsUptoRow.holds Try.pinned (OpenSpec.upto matrixTurnsSpec)

/-- 'armplanlaw4.MatrixLength', WHERE WHAT IT READS IS OF BULK AT MOST 1048576: true; the input reads as it did. -/
def matrixLengthUptoRow : OpenClaim := { program := "ytlikaaohkecccaa", sum := "c3a4788c6d7245ce5f56a19b739bf29ddc967fd5fc0ac2cacd645516bb44e947", func := "armplan/armplanlaw4.MatrixLength", spec := "matrixLength", unfollowed := true, recurses := true, apart := false, narrowed := true }
def MatrixLengthUptoSaid : Prop := matrixLengthUptoRow.holds Try.pinned (OpenSpec.upto matrixLengthSpec)

/-- 'armplanlaw4.MatrixApplies', WHERE WHAT IT READS IS OF BULK AT MOST 1048576: true; the input reads as it did. -/
def matrixAppliesUptoRow : OpenClaim := { program := "ytlikaaohkecccaa", sum := "c3a4788c6d7245ce5f56a19b739bf29ddc967fd5fc0ac2cacd645516bb44e947", func := "armplan/armplanlaw4.MatrixApplies", spec := "matrixApplies", unfollowed := true, recurses := true, apart := false, narrowed := true }
def MatrixAppliesUptoSaid : Prop := matrixAppliesUptoRow.holds Try.pinned (OpenSpec.upto matrixAppliesSpec)

/-- 'armplanlaw4.MatrixQuarters', WHERE WHAT IT READS IS OF BULK AT MOST 1048576: true; the input reads as it did. -/
def matrixQuartersUptoRow : OpenClaim := { program := "ytlikaaohkecccaa", sum := "c3a4788c6d7245ce5f56a19b739bf29ddc967fd5fc0ac2cacd645516bb44e947", func := "armplan/armplanlaw4.MatrixQuarters", spec := "matrixQuarters", unfollowed := true, recurses := true, apart := false, narrowed := true }
def MatrixQuartersUptoSaid : Prop := matrixQuartersUptoRow.holds Try.pinned (OpenSpec.upto matrixQuartersSpec)

/-- 'armplanlaw4.MatrixAdds', WHERE WHAT IT READS IS OF BULK AT MOST 1048576: true; the input reads as it did. -/
def matrixAddsUptoRow : OpenClaim := { program := "ytlikaaohkecccaa", sum := "c3a4788c6d7245ce5f56a19b739bf29ddc967fd5fc0ac2cacd645516bb44e947", func := "armplan/armplanlaw4.MatrixAdds", spec := "matrixAdds", unfollowed := true, recurses := true, apart := false, narrowed := true }
def MatrixAddsUptoSaid : Prop := matrixAddsUptoRow.holds Try.pinned (OpenSpec.upto matrixAddsSpec)

/-- 'armplanlaw4.MatrixOrthogonal', WHERE WHAT IT READS IS OF BULK AT MOST 1048576: true; the input reads as it did. -/
def matrixOrthogonalUptoRow : OpenClaim := { program := "ytlikaaohkecccaa", sum := "c3a4788c6d7245ce5f56a19b739bf29ddc967fd5fc0ac2cacd645516bb44e947", func := "armplan/armplanlaw4.MatrixOrthogonal", spec := "matrixOrthogonal", unfollowed := true, recurses := true, apart := false, narrowed := true }
def MatrixOrthogonalUptoSaid : Prop := matrixOrthogonalUptoRow.holds Try.pinned (OpenSpec.upto matrixOrthogonalSpec)

/-- 'armplanlaw4.MatrixComposes', WHERE WHAT IT READS IS OF BULK AT MOST 1048576: true; the input reads as it did. -/
def matrixComposesUptoRow : OpenClaim := { program := "ytlikaaohkecccaa", sum := "c3a4788c6d7245ce5f56a19b739bf29ddc967fd5fc0ac2cacd645516bb44e947", func := "armplan/armplanlaw4.MatrixComposes", spec := "matrixComposes", unfollowed := true, recurses := true, apart := false, narrowed := true }
def MatrixComposesUptoSaid : Prop := matrixComposesUptoRow.holds Try.pinned (OpenSpec.upto matrixComposesSpec)

/-- 'armplanlaw4.MatrixMonotone', WHERE WHAT IT READS IS OF BULK AT MOST 1048576: true; the input reads as it did. -/
def matrixMonotoneUptoRow : OpenClaim := { program := "ytlikaaohkecccaa", sum := "c3a4788c6d7245ce5f56a19b739bf29ddc967fd5fc0ac2cacd645516bb44e947", func := "armplan/armplanlaw4.MatrixMonotone", spec := "matrixMonotone", unfollowed := true, recurses := true, apart := false, narrowed := true }
def MatrixMonotoneUptoSaid : Prop := matrixMonotoneUptoRow.holds Try.pinned (OpenSpec.upto matrixMonotoneSpec)

/-- 'armplanlaw5.PoseChain', WHERE WHAT IT READS IS OF BULK AT MOST 1048576: true; the input reads as it did. -/
def poseChainUptoRow : OpenClaim := { program := "ytlikaaohkecccaa", sum := "c3a4788c6d7245ce5f56a19b739bf29ddc967fd5fc0ac2cacd645516bb44e947", func := "armplan/armplanlaw5.PoseChain", spec := "poseChain", unfollowed := true, recurses := true, apart := false, narrowed := true }
def PoseChainUptoSaid : Prop := poseChainUptoRow.holds Try.pinned (OpenSpec.upto poseChainSpec)

/-- 'armplanlaw5.PoseShifts', WHERE WHAT IT READS IS OF BULK AT MOST 1048576: true; the input reads as it did. -/
def poseShiftsUptoRow : OpenClaim := { program := "ytlikaaohkecccaa", sum := "c3a4788c6d7245ce5f56a19b739bf29ddc967fd5fc0ac2cacd645516bb44e947", func := "armplan/armplanlaw5.PoseShifts", spec := "poseShifts", unfollowed := true, recurses := true, apart := false, narrowed := true }
def PoseShiftsUptoSaid : Prop := poseShiftsUptoRow.holds Try.pinned (OpenSpec.upto poseShiftsSpec)

/-- 'armplanlaw5.PoseComposes', WHERE WHAT IT READS IS OF BULK AT MOST 1048576: true; the input reads as it did. -/
def poseComposesUptoRow : OpenClaim := { program := "ytlikaaohkecccaa", sum := "c3a4788c6d7245ce5f56a19b739bf29ddc967fd5fc0ac2cacd645516bb44e947", func := "armplan/armplanlaw5.PoseComposes", spec := "poseComposes", unfollowed := true, recurses := true, apart := false, narrowed := true }
def PoseComposesUptoSaid : Prop := poseComposesUptoRow.holds Try.pinned (OpenSpec.upto poseComposesSpec)

/-- 'armplanlaw5.PoseNeutral', WHERE WHAT IT READS IS OF BULK AT MOST 1048576: true; the input reads as it did. -/
def poseNeutralUptoRow : OpenClaim := { program := "ytlikaaohkecccaa", sum := "c3a4788c6d7245ce5f56a19b739bf29ddc967fd5fc0ac2cacd645516bb44e947", func := "armplan/armplanlaw5.PoseNeutral", spec := "poseNeutral", unfollowed := true, recurses := true, apart := false, narrowed := true }
def PoseNeutralUptoSaid : Prop := poseNeutralUptoRow.holds Try.pinned (OpenSpec.upto poseNeutralSpec)

/-- 'armplanlaw11.KinematicsJoints', WHERE WHAT IT READS IS OF BULK AT MOST 1048576: true; the input reads as it did. -/
def kinematicsJointsUptoRow : OpenClaim := { program := "ytlikaaohkecccaa", sum := "c3a4788c6d7245ce5f56a19b739bf29ddc967fd5fc0ac2cacd645516bb44e947", func := "armplan/armplanlaw11.KinematicsJoints", spec := "kinematicsJoints", unfollowed := true, recurses := true, apart := false, narrowed := true }
def KinematicsJointsUptoSaid : Prop := kinematicsJointsUptoRow.holds Try.pinned (OpenSpec.upto kinematicsJointsSpec)

/-- 'armplanlaw5.PoseApplies', WHERE WHAT IT READS IS OF BULK AT MOST 1048576: true; the input reads as it did. -/
def poseAppliesUptoRow : OpenClaim := { program := "ytlikaaohkecccaa", sum := "c3a4788c6d7245ce5f56a19b739bf29ddc967fd5fc0ac2cacd645516bb44e947", func := "armplan/armplanlaw5.PoseApplies", spec := "poseApplies", unfollowed := true, recurses := true, apart := false, narrowed := true }
def PoseAppliesUptoSaid : Prop := poseAppliesUptoRow.holds Try.pinned (OpenSpec.upto poseAppliesSpec)

/-- 'armplanlaw5.PoseMonotone', WHERE WHAT IT READS IS OF BULK AT MOST 1048576: true; the input reads as it did. -/
def poseMonotoneUptoRow : OpenClaim := { program := "ytlikaaohkecccaa", sum := "c3a4788c6d7245ce5f56a19b739bf29ddc967fd5fc0ac2cacd645516bb44e947", func := "armplan/armplanlaw5.PoseMonotone", spec := "poseMonotone", unfollowed := true, recurses := true, apart := false, narrowed := true }
def PoseMonotoneUptoSaid : Prop := poseMonotoneUptoRow.holds Try.pinned (OpenSpec.upto poseMonotoneSpec)

/-- 'armplanlaw5.PoseInverse', WHERE WHAT IT READS IS OF BULK AT MOST 1048576: true; the input reads as it did. -/
def poseInverseUptoRow : OpenClaim := { program := "ytlikaaohkecccaa", sum := "c3a4788c6d7245ce5f56a19b739bf29ddc967fd5fc0ac2cacd645516bb44e947", func := "armplan/armplanlaw5.PoseInverse", spec := "poseInverse", unfollowed := true, recurses := true, apart := false, narrowed := true }
def PoseInverseUptoSaid : Prop := poseInverseUptoRow.holds Try.pinned (OpenSpec.upto poseInverseSpec)

/-- 'armplanlaw11.KinematicsLocal', WHERE WHAT IT READS IS OF BULK AT MOST 1048576: true; the input reads as it did. -/
def kinematicsLocalUptoRow : OpenClaim := { program := "ytlikaaohkecccaa", sum := "c3a4788c6d7245ce5f56a19b739bf29ddc967fd5fc0ac2cacd645516bb44e947", func := "armplan/armplanlaw11.KinematicsLocal", spec := "kinematicsLocal", unfollowed := true, recurses := true, apart := false, narrowed := true }
def KinematicsLocalUptoSaid : Prop := kinematicsLocalUptoRow.holds Try.pinned (OpenSpec.upto kinematicsLocalSpec)

/-- 'armplanlaw11.KinematicsQuarters', WHERE WHAT IT READS IS OF BULK AT MOST 1048576: true; the input reads as it did. -/
def kinematicsQuartersUptoRow : OpenClaim := { program := "ytlikaaohkecccaa", sum := "c3a4788c6d7245ce5f56a19b739bf29ddc967fd5fc0ac2cacd645516bb44e947", func := "armplan/armplanlaw11.KinematicsQuarters", spec := "kinematicsQuarters", unfollowed := true, recurses := true, apart := false, narrowed := true }
def KinematicsQuartersUptoSaid : Prop := kinematicsQuartersUptoRow.holds Try.pinned (OpenSpec.upto kinematicsQuartersSpec)

end Rows
end Go.Proofs.Ytlikaaohkecccaa

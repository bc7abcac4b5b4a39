/-
  Names for types of data.
-/
import Derived.Test.YtleejiihlldflaaGreatRu
import Derived.Test.YtleejiihlldflaaGreatG3
import Derived.Test.YtleejiihlldflaaGreatSc
import Derived.Test.YtleejiihlldflaaGreatProg
import Derived.Tactics
import Derived.Tactics2
import Derived.StillTactics
import Derived.LoopTactic
import Derived.Laws.Strings
import Derived.Laws.Strings2
import Derived.Laws.Strings3
import Derived.Laws.RangeAny
namespace Go.RX

abbrev TSource : Ty := .pair (.list (.int .i64)) (.int .i64)
abbrev DSource : Type := (List (Int) × Int)
abbrev TVec : Ty := .pair (.int .i64) (.pair (.int .i64) (.int .i64))
abbrev DVec : Type := (Int × (Int × Int))
abbrev TMass : Ty := .pair (.int .i64) (.pair (.int .i64) (.pair (.int .i64) (.pair (.int .i64) (.int .i64))))
abbrev DMass : Type := (Int × (Int × (Int × (Int × Int))))
abbrev TShape : Ty := .pair (.int .i64) (.pair (.int .i64) (.list (TVec)))
abbrev DShape : Type := (Int × (Int × List (DVec)))
abbrev TIVec : Ty := .pair (.pair (.int .i64) (.int .i64)) (.pair (.pair (.int .i64) (.int .i64)) (.pair (.int .i64) (.int .i64)))
abbrev DIVec : Type := ((Int × Int) × ((Int × Int) × (Int × Int)))
abbrev TJoint : Ty := .pair (.str) (.pair (.int .i64) (.pair (.int .i64) (.pair (TVec) (.pair (.int .i64) (.pair (.int .i64) (.pair (.int .i64) (.pair (.int .i64) (.pair (.int .i64) (.int .i64)))))))))
abbrev DJoint : Type := (ByteArray × (Int × (Int × (DVec × (Int × (Int × (Int × (Int × (Int × Int)))))))))
abbrev TRobot : Ty := .pair (.list (TJoint)) (.list (TMass))
abbrev DRobot : Type := (List (DJoint) × List (DMass))
abbrev TIMat : Ty := .pair (TIVec) (.pair (TIVec) (.pair (.pair (.int .i64) (.int .i64)) (.pair (.pair (.int .i64) (.int .i64)) (.pair (.int .i64) (.int .i64)))))
abbrev DIMat : Type := (DIVec × (DIVec × ((Int × Int) × ((Int × Int) × (Int × Int)))))
abbrev TPose : Ty := .pair (TIMat) (.pair (.pair (.int .i64) (.int .i64)) (.pair (.pair (.int .i64) (.int .i64)) (.pair (.int .i64) (.int .i64))))
abbrev DPose : Type := (DIMat × ((Int × Int) × ((Int × Int) × (Int × Int))))
abbrev TTree : Ty := .pair (TRobot) (.pair (.list (.pair (.int .i64) (.int .i64))) (.list (TPose)))
abbrev TWitness : Ty := .pair (.int .i64) (.pair (.list (.int .i64)) (.list (.int .i64)))
abbrev DWitness : Type := (Int × (List (Int) × List (Int)))
abbrev TConstraint : Ty := .pair (.int .i64) (.pair (.int .i64) (.pair (TVec) (.pair (TVec) (.pair (.int .i64) (.int .i64)))))
abbrev DConstraint : Type := (Int × (Int × (DVec × (DVec × (Int × Int)))))
abbrev TEdgeResult : Ty := .pair (.int .i64) (.pair (.list (TShape)) (.pair (TShape) (.pair (.int .i64) (.pair (.list (.int .i64)) (.list (.int .i64))))))
abbrev DEdgeResult : Type := (Int × (List (DShape) × (DShape × (Int × (List (Int) × List (Int))))))
abbrev TFrame : Ty := .pair (TPose) (.pair (.pair (.int .i64) (.int .i64)) (.pair (.pair (.int .i64) (.int .i64)) (.pair (.int .i64) (.int .i64))))
abbrev DFrame : Type := (DPose × ((Int × Int) × ((Int × Int) × (Int × Int))))
abbrev TProver : Ty := .pair (TRobot) (.pair (.list (TConstraint)) (.pair (.list (.int .i64)) (.pair (.list (.int .i64)) (.pair (.int .i64) (.pair (.int .i64) (.pair (.list (TShape)) (.pair (TShape) (.pair (.int .i64) (.pair (.list (.int .i64)) (.list (.int .i64)))))))))))
end Go.RX

/-
  The contracts of functions.
-/
namespace Go.RX
open Go.Proofs

def etys : List (Nat × TRow) := [(2, ⟨.int .i64, 1, 8, [.int .i64 0], .int .i64⟩),
  (3, ⟨.int .i64, 1, 8, [.int .i64 0], .int .i64⟩),
  (9, ⟨.str, 1, 16, [.string (ByteArray.mk #[])], .str⟩),
  (22, ⟨.slice 69, 1, 24, [.slice none 0 0], .list (TJoint)⟩),
  (23, ⟨.slice 80, 1, 24, [.slice none 0 0], .list (TMass)⟩),
  (25, ⟨.struct [(0, 1), (1, 1)], 2, 48, [.slice none 0 0, .slice none 0 0], TRobot⟩),
  (28, ⟨.arr 3 2, 3, 24, [.int .i64 0, .int .i64 0, .int .i64 0], TVec⟩),
  (31, ⟨.slice 46, 1, 24, [.slice none 0 0], .list (.pair (.int .i64) (.int .i64))⟩),
  (46, ⟨.struct [(0, 1), (1, 1)], 2, 16, [.int .i64 0, .int .i64 0], .pair (.int .i64) (.int .i64)⟩),
  (69, ⟨.struct [(0, 1), (1, 1), (2, 1), (3, 3), (6, 1), (7, 1), (8, 1), (9, 1), (10, 1), (11, 1)], 12, 104, [.string (ByteArray.mk #[]), .int .i64 0, .int .i64 0, .int .i64 0, .int .i64 0, .int .i64 0, .int .i64 0, .int .i64 0, .int .i64 0, .int .i64 0, .int .i64 0, .int .i64 0], TJoint⟩),
  (80, ⟨.struct [(0, 1), (1, 1), (2, 3)], 5, 40, [.int .i64 0, .int .i64 0, .int .i64 0, .int .i64 0, .int .i64 0], TMass⟩),
  (82, ⟨.struct [(0, 1), (1, 1)], 2, 32, [.slice none 0 0, .int .i64 0], TSource⟩),
  (108, ⟨.arr 8 3, 8, 64, [.int .i64 0, .int .i64 0, .int .i64 0, .int .i64 0, .int .i64 0, .int .i64 0, .int .i64 0, .int .i64 0], .pair (.int .i64) (.pair (.int .i64) (.pair (.int .i64) (.pair (.int .i64) (.pair (.int .i64) (.pair (.int .i64) (.pair (.int .i64) (.int .i64)))))))⟩)]
def eeqs : List (Nat × (Bool × List TK)) := []
theorem etys_ok : tableOk Tryz.prog etys = true := by kernel_rfl
theorem eeqs_ok : eqsOk Tryz.prog eeqs = true := by kernel_rfl

/- armplan/armplanmake.letter -/
def t_armplanmake_letter (a0 : Int) : Tr ByteArray :=
  let x1 : Int := IntKind.wrap .i64 (a0 + 1)
  .br (decide (0 ≤ a0) && decide (a0 ≤ x1) && decide (x1 ≤ 10)) (
   .leaf (ByteArray.extract (ByteArray.mk #[97, 98, 99, 100, 101, 102, 103, 104, 105, 106]) a0.toNat x1.toNat)) .fail
def armplanmake_letter (a0 : Int) : ByteArray := (t_armplanmake_letter a0).val
def dom_armplanmake_letter (a0 : Int) : Bool := (t_armplanmake_letter a0).dom
theorem run_armplanmake_letter : ∀ x, runF (mkC etys eeqs [] [] noLoops) 200 27 Tryz.f27 (argsA [.int .i64] x) [] (fun v h => toRes h [.str] v) = (t_armplanmake_letter x.1).optA (fun r => (r, ())) := by
  intro x; kernel_rfl
theorem fn_armplanmake_letter : FnOk Tryz.prog 27 [.int .i64] [.str] (fun x => bif dom_armplanmake_letter x.1 then some ((fun r => (r, ())) (armplanmake_letter x.1)) else none) :=
  fn_part (t := fun (x : Ar [.int .i64]) => t_armplanmake_letter x.1) (R := ByteArray) (Ts := [.str]) (mk := (fun r => (r, ()))) (mkC_ok etys_ok eeqs_ok (fns_nil _) (inl_nil _) noLoops_ok mixed) Tryz.func27 run_armplanmake_letter
def hd_armplanmake_letter : Hd := guardHd [.int .i64] [.str] (fun x => dom_armplanmake_letter x.1) (fun x => (fun r => (r, ())) (armplanmake_letter x.1))
theorem ok_armplanmake_letter : HdOk Tryz.prog 27 hd_armplanmake_letter.sem ∧ Enters Tryz.prog 27 := guard_ok fn_armplanmake_letter Tryz.func27 (by kernel_rfl) (by kernel_rfl)

/- armplan/armplanmake.joint -/
def t_armplanmake_joint (a0 : DSource) (a1 : Int) : Tr (DJoint × DSource) :=
  let r1 : ByteArray := armplanmake_letter a1
  .br (dom_armplanmake_letter a1) (
   let x2 : Int := IntKind.wrap .i64 (a1 - 1)
   let r3 : (Int × DSource) := armplanmake_Source_Next a0 4
   .br (dom_armplanmake_Source_Next a0 4) (
    let x4 : Int := IntKind.wrap .i64 (1 + r3.1)
    let r5 : (Int × DSource) := armplanmake_Source_Next r3.2 3
    .br (dom_armplanmake_Source_Next r3.2 3) (
     let x6 : Int := IntKind.wrap .i64 (65536 + r5.1)
     let r7 : (Int × DSource) := armplanmake_Source_Next r5.2 8
     .br (dom_armplanmake_Source_Next r5.2 8) (
      let x8 : Int := List.getD [3, 3, 1, 2, 4, 5, 3, 0] r7.1.toNat 0
      .br (decide (0 ≤ r7.1) && decide (r7.1 < 8)) (
       let r9 : (Int × DSource) := armplanmake_Source_Next r7.2 4
       .br (dom_armplanmake_Source_Next r7.2 4) (
        let x10 : Bool := decide (r9.1 = 1)
        .br (x10) (
         let x11 : Bool := decide (0 < a1)
         .br (x11) (
          let r12 : (Int × DSource) := armplanmake_Source_Signed r9.2 2
          .br (dom_armplanmake_Source_Signed r9.2 2) (
           let x13 : Int := IntKind.wrap .i64 (r12.1 * 32768)
           let r14 : (Int × DSource) := armplanmake_Source_Signed r12.2 1
           .br (dom_armplanmake_Source_Signed r12.2 1) (
            let x15 : Int := IntKind.wrap .i64 (r14.1 * 32768)
            let x16 : Bool := decide (x8 = 0)
            .br (x16) (
             .leaf ((r1, (x8, ((-1), ((131072, (x13, x15)), (0, (0, (x4, (65536, (x6, 327680))))))))), r14.2)) (
             let x17 : Bool := decide (x8 = 4)
             .br (x17) (
              let r18 : (Int × DSource) := armplanmake_Source_Next r14.2 3
              .br (dom_armplanmake_Source_Next r14.2 3) (
               let x19 : Int := IntKind.wrap .i64 (0 - r18.1)
               let x20 : Int := IntKind.wrap .i64 (x19 * 65536)
               let r21 : (Int × DSource) := armplanmake_Source_Next r18.2 4
               .br (dom_armplanmake_Source_Next r18.2 4) (
                let x22 : Int := IntKind.wrap .i64 (r21.1 * 32768)
                .leaf ((r1, (x8, ((-1), ((131072, (x13, x15)), (x20, (x22, (x4, (65536, (x6, 327680))))))))), r21.2)) .fail) .fail) (
              let x23 : Bool := decide (x8 = 5)
              .br (x23) (
               let r24 : (Int × DSource) := armplanmake_Source_Next r14.2 3
               .br (dom_armplanmake_Source_Next r14.2 3) (
                let x25 : Int := IntKind.wrap .i64 (0 - r24.1)
                let x26 : Int := IntKind.wrap .i64 (x25 * 65536)
                let r27 : (Int × DSource) := armplanmake_Source_Next r24.2 4
                .br (dom_armplanmake_Source_Next r24.2 4) (
                 let x28 : Int := IntKind.wrap .i64 (r27.1 * 32768)
                 .leaf ((r1, (x8, ((-1), ((131072, (x13, x15)), (x26, (x28, (x4, (65536, (x6, 327680))))))))), r27.2)) .fail) .fail) (
               let r29 : (Int × DSource) := armplanmake_Source_Next r14.2 5
               .br (dom_armplanmake_Source_Next r14.2 5) (
                let x30 : Int := IntKind.wrap .i64 (0 - r29.1)
                let x31 : Int := IntKind.wrap .i64 (x30 * 65536)
                let x32 : Int := IntKind.wrap .i64 (Int.tdiv x31 8)
                let r33 : (Int × DSource) := armplanmake_Source_Next r29.2 4
                .br (dom_armplanmake_Source_Next r29.2 4) (
                 let x34 : Int := IntKind.wrap .i64 (1 + r33.1)
                 let x35 : Int := IntKind.wrap .i64 (x34 * 65536)
                 let x36 : Int := IntKind.wrap .i64 (Int.tdiv x35 8)
                 let r37 : (Int × DSource) := armplanmake_Source_Next r33.2 3
                 .br (dom_armplanmake_Source_Next r33.2 3) (
                  let x38 : Int := IntKind.wrap .i64 (x36 + r37.1)
                  .leaf ((r1, (x8, ((-1), ((131072, (x13, x15)), (x32, (x38, (x4, (65536, (x6, 327680))))))))), r37.2)) .fail) .fail) .fail)))) .fail) .fail) (
          let x39 : Bool := decide (x8 = 0)
          .br (x39) (
           .leaf ((r1, (x8, ((-1), ((0, (0, 0)), (0, (0, (x4, (65536, (x6, 327680))))))))), r9.2)) (
           let x40 : Bool := decide (x8 = 4)
           .br (x40) (
            let r41 : (Int × DSource) := armplanmake_Source_Next r9.2 3
            .br (dom_armplanmake_Source_Next r9.2 3) (
             let x42 : Int := IntKind.wrap .i64 (0 - r41.1)
             let x43 : Int := IntKind.wrap .i64 (x42 * 65536)
             let r44 : (Int × DSource) := armplanmake_Source_Next r41.2 4
             .br (dom_armplanmake_Source_Next r41.2 4) (
              let x45 : Int := IntKind.wrap .i64 (r44.1 * 32768)
              .leaf ((r1, (x8, ((-1), ((0, (0, 0)), (x43, (x45, (x4, (65536, (x6, 327680))))))))), r44.2)) .fail) .fail) (
            let x46 : Bool := decide (x8 = 5)
            .br (x46) (
             let r47 : (Int × DSource) := armplanmake_Source_Next r9.2 3
             .br (dom_armplanmake_Source_Next r9.2 3) (
              let x48 : Int := IntKind.wrap .i64 (0 - r47.1)
              let x49 : Int := IntKind.wrap .i64 (x48 * 65536)
              let r50 : (Int × DSource) := armplanmake_Source_Next r47.2 4
              .br (dom_armplanmake_Source_Next r47.2 4) (
               let x51 : Int := IntKind.wrap .i64 (r50.1 * 32768)
               .leaf ((r1, (x8, ((-1), ((0, (0, 0)), (x49, (x51, (x4, (65536, (x6, 327680))))))))), r50.2)) .fail) .fail) (
             let r52 : (Int × DSource) := armplanmake_Source_Next r9.2 5
             .br (dom_armplanmake_Source_Next r9.2 5) (
              let x53 : Int := IntKind.wrap .i64 (0 - r52.1)
              let x54 : Int := IntKind.wrap .i64 (x53 * 65536)
              let x55 : Int := IntKind.wrap .i64 (Int.tdiv x54 8)
              let r56 : (Int × DSource) := armplanmake_Source_Next r52.2 4
              .br (dom_armplanmake_Source_Next r52.2 4) (
               let x57 : Int := IntKind.wrap .i64 (1 + r56.1)
               let x58 : Int := IntKind.wrap .i64 (x57 * 65536)
               let x59 : Int := IntKind.wrap .i64 (Int.tdiv x58 8)
               let r60 : (Int × DSource) := armplanmake_Source_Next r56.2 3
               .br (dom_armplanmake_Source_Next r56.2 3) (
                let x61 : Int := IntKind.wrap .i64 (x59 + r60.1)
                .leaf ((r1, (x8, ((-1), ((0, (0, 0)), (x55, (x61, (x4, (65536, (x6, 327680))))))))), r60.2)) .fail) .fail) .fail))))) (
         let x62 : Bool := decide (0 < a1)
         .br (x62) (
          let r63 : (Int × DSource) := armplanmake_Source_Signed r9.2 2
          .br (dom_armplanmake_Source_Signed r9.2 2) (
           let x64 : Int := IntKind.wrap .i64 (r63.1 * 32768)
           let r65 : (Int × DSource) := armplanmake_Source_Signed r63.2 1
           .br (dom_armplanmake_Source_Signed r63.2 1) (
            let x66 : Int := IntKind.wrap .i64 (r65.1 * 32768)
            let x67 : Bool := decide (x8 = 0)
            .br (x67) (
             .leaf ((r1, (x8, (x2, ((131072, (x64, x66)), (0, (0, (x4, (65536, (x6, 327680))))))))), r65.2)) (
             let x68 : Bool := decide (x8 = 4)
             .br (x68) (
              let r69 : (Int × DSource) := armplanmake_Source_Next r65.2 3
              .br (dom_armplanmake_Source_Next r65.2 3) (
               let x70 : Int := IntKind.wrap .i64 (0 - r69.1)
               let x71 : Int := IntKind.wrap .i64 (x70 * 65536)
               let r72 : (Int × DSource) := armplanmake_Source_Next r69.2 4
               .br (dom_armplanmake_Source_Next r69.2 4) (
                let x73 : Int := IntKind.wrap .i64 (r72.1 * 32768)
                .leaf ((r1, (x8, (x2, ((131072, (x64, x66)), (x71, (x73, (x4, (65536, (x6, 327680))))))))), r72.2)) .fail) .fail) (
              let x74 : Bool := decide (x8 = 5)
              .br (x74) (
               let r75 : (Int × DSource) := armplanmake_Source_Next r65.2 3
               .br (dom_armplanmake_Source_Next r65.2 3) (
                let x76 : Int := IntKind.wrap .i64 (0 - r75.1)
                let x77 : Int := IntKind.wrap .i64 (x76 * 65536)
                let r78 : (Int × DSource) := armplanmake_Source_Next r75.2 4
                .br (dom_armplanmake_Source_Next r75.2 4) (
                 let x79 : Int := IntKind.wrap .i64 (r78.1 * 32768)
                 .leaf ((r1, (x8, (x2, ((131072, (x64, x66)), (x77, (x79, (x4, (65536, (x6, 327680))))))))), r78.2)) .fail) .fail) (
               let r80 : (Int × DSource) := armplanmake_Source_Next r65.2 5
               .br (dom_armplanmake_Source_Next r65.2 5) (
                let x81 : Int := IntKind.wrap .i64 (0 - r80.1)
                let x82 : Int := IntKind.wrap .i64 (x81 * 65536)
                let x83 : Int := IntKind.wrap .i64 (Int.tdiv x82 8)
                let r84 : (Int × DSource) := armplanmake_Source_Next r80.2 4
                .br (dom_armplanmake_Source_Next r80.2 4) (
                 let x85 : Int := IntKind.wrap .i64 (1 + r84.1)
                 let x86 : Int := IntKind.wrap .i64 (x85 * 65536)
                 let x87 : Int := IntKind.wrap .i64 (Int.tdiv x86 8)
                 let r88 : (Int × DSource) := armplanmake_Source_Next r84.2 3
                 .br (dom_armplanmake_Source_Next r84.2 3) (
                  let x89 : Int := IntKind.wrap .i64 (x87 + r88.1)
                  .leaf ((r1, (x8, (x2, ((131072, (x64, x66)), (x83, (x89, (x4, (65536, (x6, 327680))))))))), r88.2)) .fail) .fail) .fail)))) .fail) .fail) (
          let x90 : Bool := decide (x8 = 0)
          .br (x90) (
           .leaf ((r1, (x8, (x2, ((0, (0, 0)), (0, (0, (x4, (65536, (x6, 327680))))))))), r9.2)) (
           let x91 : Bool := decide (x8 = 4)
           .br (x91) (
            let r92 : (Int × DSource) := armplanmake_Source_Next r9.2 3
            .br (dom_armplanmake_Source_Next r9.2 3) (
             let x93 : Int := IntKind.wrap .i64 (0 - r92.1)
             let x94 : Int := IntKind.wrap .i64 (x93 * 65536)
             let r95 : (Int × DSource) := armplanmake_Source_Next r92.2 4
             .br (dom_armplanmake_Source_Next r92.2 4) (
              let x96 : Int := IntKind.wrap .i64 (r95.1 * 32768)
              .leaf ((r1, (x8, (x2, ((0, (0, 0)), (x94, (x96, (x4, (65536, (x6, 327680))))))))), r95.2)) .fail) .fail) (
            let x97 : Bool := decide (x8 = 5)
            .br (x97) (
             let r98 : (Int × DSource) := armplanmake_Source_Next r9.2 3
             .br (dom_armplanmake_Source_Next r9.2 3) (
              let x99 : Int := IntKind.wrap .i64 (0 - r98.1)
              let x100 : Int := IntKind.wrap .i64 (x99 * 65536)
              let r101 : (Int × DSource) := armplanmake_Source_Next r98.2 4
              .br (dom_armplanmake_Source_Next r98.2 4) (
               let x102 : Int := IntKind.wrap .i64 (r101.1 * 32768)
               .leaf ((r1, (x8, (x2, ((0, (0, 0)), (x100, (x102, (x4, (65536, (x6, 327680))))))))), r101.2)) .fail) .fail) (
             let r103 : (Int × DSource) := armplanmake_Source_Next r9.2 5
             .br (dom_armplanmake_Source_Next r9.2 5) (
              let x104 : Int := IntKind.wrap .i64 (0 - r103.1)
              let x105 : Int := IntKind.wrap .i64 (x104 * 65536)
              let x106 : Int := IntKind.wrap .i64 (Int.tdiv x105 8)
              let r107 : (Int × DSource) := armplanmake_Source_Next r103.2 4
              .br (dom_armplanmake_Source_Next r103.2 4) (
               let x108 : Int := IntKind.wrap .i64 (1 + r107.1)
               let x109 : Int := IntKind.wrap .i64 (x108 * 65536)
               let x110 : Int := IntKind.wrap .i64 (Int.tdiv x109 8)
               let r111 : (Int × DSource) := armplanmake_Source_Next r107.2 3
               .br (dom_armplanmake_Source_Next r107.2 3) (
                let x112 : Int := IntKind.wrap .i64 (x110 + r111.1)
                .leaf ((r1, (x8, (x2, ((0, (0, 0)), (x106, (x112, (x4, (65536, (x6, 327680))))))))), r111.2)) .fail) .fail) .fail)))))) .fail) .fail) .fail) .fail) .fail) .fail
def armplanmake_joint (a0 : DSource) (a1 : Int) : (DJoint × DSource) := (t_armplanmake_joint a0 a1).val
def dom_armplanmake_joint (a0 : DSource) (a1 : Int) : Bool := (t_armplanmake_joint a0 a1).dom
theorem run_armplanmake_joint : ∀ x, runF (mkC etys eeqs [(18, hd_armplanmake_Source_Next), (19, hd_armplanmake_Source_Signed), (27, hd_armplanmake_letter)] [] noLoops) 200 31 Tryz.f31 (mkT id [⟨[0], true, false, [.d (TSource)]⟩, ⟨[1], false, false, [.d (.int .i64)]⟩] x 0 (List.replicate 2 .top)) (mkH id [⟨[0], true, false, [.d (TSource)]⟩, ⟨[1], false, false, [.d (.int .i64)]⟩] x 0) (endS [TJoint] [⟨[], true, false, [.d (TSource)]⟩]) = (t_armplanmake_joint x.1.1 x.2.1.1).optA (fun (r : (DJoint × DSource)) => ((r.1, ()), ((r.2, ()), ()))) := by
  intro x; kernel_rfl
def hd_armplanmake_joint : Hd := hdS 2 [⟨[0], true, false, [.d (TSource)]⟩, ⟨[1], false, false, [.d (.int .i64)]⟩] [⟨[], true, false, [.d (TSource)]⟩] [TJoint] (fun x => dom_armplanmake_joint x.1.1 x.2.1.1) (fun x => (fun (r : (DJoint × DSource)) => ((r.1, ()), ((r.2, ()), ()))) (armplanmake_joint x.1.1 x.2.1.1)) (by kernel_rfl)
theorem fn_armplanmake_joint : FnS Tryz.prog 31 2 [⟨[0], true, false, [.d (TSource)]⟩, ⟨[1], false, false, [.d (.int .i64)]⟩] [⟨[], true, false, [.d (TSource)]⟩] [TJoint] (fun x => bif (fun x => dom_armplanmake_joint x.1.1 x.2.1.1) x then some ((fun x => (fun (r : (DJoint × DSource)) => ((r.1, ()), ((r.2, ()), ()))) (armplanmake_joint x.1.1 x.2.1.1)) x) else none) :=
  fnS_tree (np := 2) (ss := [⟨[0], true, false, [.d (TSource)]⟩, ⟨[1], false, false, [.d (.int .i64)]⟩]) (ss1 := [⟨[], true, false, [.d (TSource)]⟩]) (Ts := [TJoint]) (R := (DJoint × DSource)) (dom := fun x => dom_armplanmake_joint x.1.1 x.2.1.1) (t := fun (x : Sl [⟨[0], true, false, [.d (TSource)]⟩, ⟨[1], false, false, [.d (.int .i64)]⟩]) => t_armplanmake_joint x.1.1 x.2.1.1) (mk := (fun (r : (DJoint × DSource)) => ((r.1, ()), ((r.2, ()), ())))) (mkC_ok etys_ok eeqs_ok (fns_cons ok_armplanmake_Source_Next (fns_cons ok_armplanmake_Source_Signed (fns_cons ok_armplanmake_letter (fns_nil _)))) (inl_nil _) noLoops_ok mixed) Tryz.func31 (by kernel_rfl) run_armplanmake_joint (fun _ => .inr rfl)
theorem ok_armplanmake_joint : HdOk Tryz.prog 31 hd_armplanmake_joint.sem ∧ Enters Tryz.prog 31 := ⟨hdS_ok (by kernel_rfl) fn_armplanmake_joint, _, Tryz.func31, by kernel_rfl, by kernel_rfl⟩

/- loop 0 of armplan/armplanmake.robot -/
abbrev ss_armplanmake_robot_L0 : List Slot := [⟨[0], true, false, [.d (TSource)]⟩, ⟨[3], true, false, [.v 69 (TJoint), .v 80 (TMass)]⟩, ⟨[4], false, false, [.d (.int .i64)]⟩, ⟨[5], false, false, [.d (.int .i64)]⟩]
abbrev os_armplanmake_robot_L0 : List (Exit × List Slot) := [(.exit 0, [⟨[0], true, false, [.d (TSource)]⟩, ⟨[3], true, false, [.v 69 (TJoint), .v 80 (TMass)]⟩, ⟨[4], false, false, [.d (.int .i64)]⟩])]
def t_armplanmake_robot_L0 (a0 : DSource) (a1 : List (DJoint)) (a2 : List (DMass)) (a3 : Int) (a4 : Int) : Tr (Sl ss_armplanmake_robot_L0 ⊕ Outs os_armplanmake_robot_L0) :=
  let x1 : Bool := decide (a4 < a3)
  .br (x1) (
   let r2 : (DJoint × DSource) := armplanmake_joint a0 a4
   .br (dom_armplanmake_joint a0 a4) (
    .br (room (a1.length + [r2.1].length)) (
     let x3 : Int := IntKind.wrap .i64 (a4 + 1)
     .leaf (.inl ((r2.2, ()), ((a1 ++ [r2.1]), a2, ()), (a3, ()), (x3, ()), ()))) .fail) .fail) (
   .leaf (.inr ((a0, ()), (a1, a2, ()), (a3, ()), ())))
def step_armplanmake_robot_L0 : Sl ss_armplanmake_robot_L0 → Option (Sl ss_armplanmake_robot_L0 ⊕ Outs os_armplanmake_robot_L0) := fun x => (t_armplanmake_robot_L0 x.1.1 x.2.1.1 x.2.1.2.1 x.2.2.1.1 x.2.2.2.1.1).optA id
theorem run_armplanmake_robot_L0 : ∀ (x : Sl ss_armplanmake_robot_L0) (vs : Nat → Value), run (mkC etys eeqs [(31, hd_armplanmake_joint)] [] noLoops) 200 16 (loopBody 0 (Tryz.f16.body.getD .skip)) (mkSt ss_armplanmake_robot_L0 x (baseT 49 [2] [] vs)) (endK ss_armplanmake_robot_L0 os_armplanmake_robot_L0 49 [2]) = (t_armplanmake_robot_L0 x.1.1 x.2.1.1 x.2.1.2.1 x.2.2.1.1 x.2.2.2.1.1).optA fun r => (r, [2].map (keptA [] vs)) := by
  intro x vs; kernel_rfl
instance inh_armplanmake_robot_L0 : Inhabited (Outs os_armplanmake_robot_L0) := ⟨outsDflt os_armplanmake_robot_L0⟩
def dom_armplanmake_robot_L0 (x : Sl ss_armplanmake_robot_L0) : Bool := (loopN step_armplanmake_robot_L0 rounds x).isSome
def val_armplanmake_robot_L0 (x : Sl ss_armplanmake_robot_L0) : Outs os_armplanmake_robot_L0 := (loopN step_armplanmake_robot_L0 rounds x).getD default
def loop_armplanmake_robot_L0 : LoopD := mkLoop ss_armplanmake_robot_L0 os_armplanmake_robot_L0 49 [2] [] step_armplanmake_robot_L0 dom_armplanmake_robot_L0 val_armplanmake_robot_L0 (loop_hv step_armplanmake_robot_L0)
theorem lok_armplanmake_robot_L0 : LoopOk Tryz.prog (loopLH loop_armplanmake_robot_L0 0) 0 (.loop (loopBody 0 (Tryz.f16.body.getD .skip))) := loop_in (D := loop_armplanmake_robot_L0) (n := 200) (cur := 16) (mkC_ok etys_ok eeqs_ok (fns_cons ok_armplanmake_joint (fns_nil _)) (inl_nil _) noLoops_ok mixed) Tryz.func16 (by kernel_rfl) (turns_of run_armplanmake_robot_L0) (by kernel_rfl) (by kernel_rfl) (by kernel_rfl)

/- loop 2 of armplan/armplanmake.robot -/
abbrev ss_armplanmake_robot_L2 : List Slot := [⟨[0], true, false, [.d (TSource)]⟩, ⟨[3], true, false, [.v 69 (TJoint), .v 80 (TMass)]⟩, ⟨[4], false, false, [.d (.int .i64)]⟩, ⟨[6], false, false, [.d (.int .i64)]⟩]
abbrev os_armplanmake_robot_L2 : List (Exit × List Slot) := [(.exit 2, [⟨[0], true, false, [.d (TSource)]⟩, ⟨[3], true, false, [.v 69 (TJoint), .v 80 (TMass)]⟩])]
def t_armplanmake_robot_L2 (a0 : DSource) (a1 : List (DJoint)) (a2 : List (DMass)) (a3 : Int) (a4 : Int) : Tr (Sl ss_armplanmake_robot_L2 ⊕ Outs os_armplanmake_robot_L2) :=
  let x1 : Bool := decide (0 < a4)
  .br (x1) (
   let r2 : (Int × DSource) := armplanmake_Source_Next a0 a3
   .br (dom_armplanmake_Source_Next a0 a3) (
    let r3 : (Int × DSource) := armplanmake_Source_Next r2.2 9000
    .br (dom_armplanmake_Source_Next r2.2 9000) (
     let x4 : Int := IntKind.wrap .i64 (1 + r3.1)
     let r5 : (Int × DSource) := armplanmake_Source_Signed r3.2 3
     .br (dom_armplanmake_Source_Signed r3.2 3) (
      let x6 : Int := IntKind.wrap .i64 (r5.1 * 32768)
      let r7 : (Int × DSource) := armplanmake_Source_Signed r5.2 2
      .br (dom_armplanmake_Source_Signed r5.2 2) (
       let x8 : Int := IntKind.wrap .i64 (r7.1 * 32768)
       .br (room (a2.length + [(r2.1, (x4, (x6, (0, x8))))].length)) (
        let x9 : Int := IntKind.wrap .i64 (a4 - 1)
        .leaf (.inl ((r7.2, ()), (a1, (a2 ++ [(r2.1, (x4, (x6, (0, x8))))]), ()), (a3, ()), (x9, ()), ()))) .fail) .fail) .fail) .fail) .fail) (
   .leaf (.inr ((a0, ()), (a1, a2, ()), ())))
def step_armplanmake_robot_L2 : Sl ss_armplanmake_robot_L2 → Option (Sl ss_armplanmake_robot_L2 ⊕ Outs os_armplanmake_robot_L2) := fun x => (t_armplanmake_robot_L2 x.1.1 x.2.1.1 x.2.1.2.1 x.2.2.1.1 x.2.2.2.1.1).optA id
theorem run_armplanmake_robot_L2 : ∀ (x : Sl ss_armplanmake_robot_L2) (vs : Nat → Value), run (mkC etys eeqs [(18, hd_armplanmake_Source_Next), (19, hd_armplanmake_Source_Signed)] [] noLoops) 200 16 (loopBody 2 (Tryz.f16.body.getD .skip)) (mkSt ss_armplanmake_robot_L2 x (baseT 49 [2] [] vs)) (endK ss_armplanmake_robot_L2 os_armplanmake_robot_L2 49 [2]) = (t_armplanmake_robot_L2 x.1.1 x.2.1.1 x.2.1.2.1 x.2.2.1.1 x.2.2.2.1.1).optA fun r => (r, [2].map (keptA [] vs)) := by
  intro x vs; kernel_rfl
instance inh_armplanmake_robot_L2 : Inhabited (Outs os_armplanmake_robot_L2) := ⟨outsDflt os_armplanmake_robot_L2⟩
def dom_armplanmake_robot_L2 (x : Sl ss_armplanmake_robot_L2) : Bool := (loopN step_armplanmake_robot_L2 rounds x).isSome
def val_armplanmake_robot_L2 (x : Sl ss_armplanmake_robot_L2) : Outs os_armplanmake_robot_L2 := (loopN step_armplanmake_robot_L2 rounds x).getD default
def loop_armplanmake_robot_L2 : LoopD := mkLoop ss_armplanmake_robot_L2 os_armplanmake_robot_L2 49 [2] [] step_armplanmake_robot_L2 dom_armplanmake_robot_L2 val_armplanmake_robot_L2 (loop_hv step_armplanmake_robot_L2)
theorem lok_armplanmake_robot_L2 : LoopOk Tryz.prog (loopLH loop_armplanmake_robot_L2 2) 2 (.loop (loopBody 2 (Tryz.f16.body.getD .skip))) := loop_in (D := loop_armplanmake_robot_L2) (n := 200) (cur := 16) (mkC_ok etys_ok eeqs_ok (fns_cons ok_armplanmake_Source_Next (fns_cons ok_armplanmake_Source_Signed (fns_nil _))) (inl_nil _) noLoops_ok mixed) Tryz.func16 (by kernel_rfl) (turns_of run_armplanmake_robot_L2) (by kernel_rfl) (by kernel_rfl) (by kernel_rfl)

/- armplan/armplanmake.robot -/
def t_armplanmake_robot (a0 : DSource) : Tr (DRobot × DSource) :=
  let r1 : (Int × DSource) := armplanmake_Source_Next a0 3
  .br (dom_armplanmake_Source_Next a0 3) (
   let x2 : Int := IntKind.wrap .i64 (1 + r1.1)
   let r3 : Outs os_armplanmake_robot_L0 := val_armplanmake_robot_L0 ((r1.2, ()), ([], [], ()), (x2, ()), (0, ()), ())
   .br (dom_armplanmake_robot_L0 ((r1.2, ()), ([], [], ()), (x2, ()), (0, ()), ())) (
    let y4 : DSource := r3.1.1
    let y5 : List (DJoint) := r3.2.1.1
    let y6 : List (DMass) := r3.2.1.2.1
    let y7 : Int := r3.2.2.1.1
    let r8 : (Int × DSource) := armplanmake_Source_Next y4 3
    .br (dom_armplanmake_Source_Next y4 3) (
     let r9 : Outs os_armplanmake_robot_L2 := val_armplanmake_robot_L2 ((r8.2, ()), (y5, y6, ()), (y7, ()), (r8.1, ()), ())
     .br (dom_armplanmake_robot_L2 ((r8.2, ()), (y5, y6, ()), (y7, ()), (r8.1, ()), ())) (
      let y10 : DSource := r9.1.1
      let y11 : List (DJoint) := r9.2.1.1
      let y12 : List (DMass) := r9.2.1.2.1
      .leaf ((y11, y12), y10)) .fail) .fail) .fail) .fail
def armplanmake_robot (a0 : DSource) : (DRobot × DSource) := (t_armplanmake_robot a0).val
def dom_armplanmake_robot (a0 : DSource) : Bool := (t_armplanmake_robot a0).dom
theorem run_armplanmake_robot : ∀ x, runF (mkC etys eeqs [(18, hd_armplanmake_Source_Next)] [] (lpOne 16 0 (loopLH loop_armplanmake_robot_L0 0) (lpOne 16 2 (loopLH loop_armplanmake_robot_L2 2) noLoops))) 200 16 Tryz.f16 (mkT id [⟨[0], true, false, [.d (TSource)]⟩] x 0 (List.replicate 1 .top)) (mkH id [⟨[0], true, false, [.d (TSource)]⟩] x 0) (endS [TRobot] [⟨[], true, false, [.d (TSource)]⟩]) = (t_armplanmake_robot x.1.1).optA (fun (r : (DRobot × DSource)) => ((r.1, ()), ((r.2, ()), ()))) := by
  intro x; kernel_rfl
def hd_armplanmake_robot : Hd := hdS 1 [⟨[0], true, false, [.d (TSource)]⟩] [⟨[], true, false, [.d (TSource)]⟩] [TRobot] (fun x => dom_armplanmake_robot x.1.1) (fun x => (fun (r : (DRobot × DSource)) => ((r.1, ()), ((r.2, ()), ()))) (armplanmake_robot x.1.1)) (by kernel_rfl)
theorem fn_armplanmake_robot : FnS Tryz.prog 16 1 [⟨[0], true, false, [.d (TSource)]⟩] [⟨[], true, false, [.d (TSource)]⟩] [TRobot] (fun x => bif (fun x => dom_armplanmake_robot x.1.1) x then some ((fun x => (fun (r : (DRobot × DSource)) => ((r.1, ()), ((r.2, ()), ()))) (armplanmake_robot x.1.1)) x) else none) :=
  fnS_tree (np := 1) (ss := [⟨[0], true, false, [.d (TSource)]⟩]) (ss1 := [⟨[], true, false, [.d (TSource)]⟩]) (Ts := [TRobot]) (R := (DRobot × DSource)) (dom := fun x => dom_armplanmake_robot x.1.1) (t := fun (x : Sl [⟨[0], true, false, [.d (TSource)]⟩]) => t_armplanmake_robot x.1.1) (mk := (fun (r : (DRobot × DSource)) => ((r.1, ()), ((r.2, ()), ())))) (mkC_ok etys_ok eeqs_ok (fns_cons ok_armplanmake_Source_Next (fns_nil _)) (inl_nil _) (lpOne_ok (b := loopBody 0 (Tryz.f16.body.getD .skip)) Tryz.func16 (by kernel_rfl) lok_armplanmake_robot_L0 (lpOne_ok (b := loopBody 2 (Tryz.f16.body.getD .skip)) Tryz.func16 (by kernel_rfl) lok_armplanmake_robot_L2 noLoops_ok)) mixed) Tryz.func16 (by kernel_rfl) run_armplanmake_robot (fun _ => .inr rfl)
theorem ok_armplanmake_robot : HdOk Tryz.prog 16 hd_armplanmake_robot.sem ∧ Enters Tryz.prog 16 := ⟨hdS_ok (by kernel_rfl) fn_armplanmake_robot, _, Tryz.func16, by kernel_rfl, by kernel_rfl⟩

/- loop 0 of armplan/armplanmake.Box -/
abbrev ss_armplanmake_Box_L0 : List Slot := [⟨[2], true, false, [.d (TRobot)]⟩, ⟨[5], true, false, [.d (TSource)]⟩, ⟨[6], false, false, [.v 46 (.pair (.int .i64) (.int .i64))]⟩, ⟨[7], false, false, [.d (.int .i64)]⟩]
abbrev os_armplanmake_Box_L0 : List (Exit × List Slot) := [(.exit 0, [⟨[2], true, false, [.d (TRobot)]⟩, ⟨[5], true, false, [.d (TSource)]⟩, ⟨[6], false, false, [.v 46 (.pair (.int .i64) (.int .i64))]⟩])]
def t_armplanmake_Box_L0 (a0 : DRobot) (a1 : DSource) (a2 : List ((Int × Int))) (a3 : Int) : Tr (Sl ss_armplanmake_Box_L0 ⊕ Outs os_armplanmake_Box_L0) :=
  let x1 : Bool := decide (a3 < ((a0.1.length : Nat) : Int))
  .br (x1) (
   .br (decide (0 ≤ a3) && decide (a3 < ((a0.1.length : Nat) : Int))) (
    .br (decide (0 ≤ a3) && decide (a3 < ((a0.1.length : Nat) : Int))) (
     let x2 : Int := IntKind.wrap .i64 ((((((((List.getD a0.1 a3.toNat (Ty.dflt (TJoint)))).2).2).2).2).2).1 - ((((((List.getD a0.1 a3.toNat (Ty.dflt (TJoint)))).2).2).2).2).1)
     let x3 : Int := IntKind.wrap .i64 (x2 + 1)
     let r4 : (Int × DSource) := armplanmake_Source_Next a1 x3
     .br (dom_armplanmake_Source_Next a1 x3) (
      let x5 : Int := IntKind.wrap .i64 (((((((List.getD a0.1 a3.toNat (Ty.dflt (TJoint)))).2).2).2).2).1 + r4.1)
      let r6 : (Int × DSource) := armplanmake_Source_Next r4.2 5
      .br (dom_armplanmake_Source_Next r4.2 5) (
       let x7 : Bool := decide (r6.1 = 0)
       .br (x7) (
        let x8 : Int := IntKind.wrap .i64 ((((((((List.getD a0.1 a3.toNat (Ty.dflt (TJoint)))).2).2).2).2).2).1 - ((((((List.getD a0.1 a3.toNat (Ty.dflt (TJoint)))).2).2).2).2).1)
        let x9 : Int := IntKind.wrap .i64 (x5 + x8)
        let x10 : Int := if x9 < (((((((List.getD a0.1 a3.toNat (Ty.dflt (TJoint)))).2).2).2).2).2).1 then x9 else (((((((List.getD a0.1 a3.toNat (Ty.dflt (TJoint)))).2).2).2).2).2).1
        .br (room (a2.length + [(x5, x10)].length)) (
         let x11 : Int := IntKind.wrap .i64 (a3 + 1)
         .leaf (.inl ((a0, ()), (r6.2, ()), ((a2 ++ [(x5, x10)]), ()), (x11, ()), ()))) .fail) (
        let x12 : Bool := decide (r6.1 = 1)
        .br (x12) (
         let r13 : (Int × DSource) := armplanmake_Source_Next r6.2 3000
         .br (dom_armplanmake_Source_Next r6.2 3000) (
          let x14 : Int := IntKind.wrap .i64 (x5 + r13.1)
          let x15 : Int := if x14 < (((((((List.getD a0.1 a3.toNat (Ty.dflt (TJoint)))).2).2).2).2).2).1 then x14 else (((((((List.getD a0.1 a3.toNat (Ty.dflt (TJoint)))).2).2).2).2).2).1
          .br (room (a2.length + [(x5, x15)].length)) (
           let x16 : Int := IntKind.wrap .i64 (a3 + 1)
           .leaf (.inl ((a0, ()), (r13.2, ()), ((a2 ++ [(x5, x15)]), ()), (x16, ()), ()))) .fail) .fail) (
         let x17 : Bool := decide (r6.1 = 2)
         .br (x17) (
          let r18 : (Int × DSource) := armplanmake_Source_Next r6.2 3000
          .br (dom_armplanmake_Source_Next r6.2 3000) (
           let x19 : Int := IntKind.wrap .i64 (x5 + r18.1)
           let x20 : Int := if x19 < (((((((List.getD a0.1 a3.toNat (Ty.dflt (TJoint)))).2).2).2).2).2).1 then x19 else (((((((List.getD a0.1 a3.toNat (Ty.dflt (TJoint)))).2).2).2).2).2).1
           .br (room (a2.length + [(x5, x20)].length)) (
            let x21 : Int := IntKind.wrap .i64 (a3 + 1)
            .leaf (.inl ((a0, ()), (r18.2, ()), ((a2 ++ [(x5, x20)]), ()), (x21, ()), ()))) .fail) .fail) (
          let x22 : Bool := decide (r6.1 = 3)
          .br (x22) (
           let r23 : (Int × DSource) := armplanmake_Source_Next r6.2 200
           .br (dom_armplanmake_Source_Next r6.2 200) (
            let x24 : Int := IntKind.wrap .i64 (x5 + r23.1)
            let x25 : Int := if x24 < (((((((List.getD a0.1 a3.toNat (Ty.dflt (TJoint)))).2).2).2).2).2).1 then x24 else (((((((List.getD a0.1 a3.toNat (Ty.dflt (TJoint)))).2).2).2).2).2).1
            .br (room (a2.length + [(x5, x25)].length)) (
             let x26 : Int := IntKind.wrap .i64 (a3 + 1)
             .leaf (.inl ((a0, ()), (r23.2, ()), ((a2 ++ [(x5, x25)]), ()), (x26, ()), ()))) .fail) .fail) (
           let x27 : Int := IntKind.wrap .i64 (x5 + 0)
           let x28 : Int := if x27 < (((((((List.getD a0.1 a3.toNat (Ty.dflt (TJoint)))).2).2).2).2).2).1 then x27 else (((((((List.getD a0.1 a3.toNat (Ty.dflt (TJoint)))).2).2).2).2).2).1
           .br (room (a2.length + [(x5, x28)].length)) (
            let x29 : Int := IntKind.wrap .i64 (a3 + 1)
            .leaf (.inl ((a0, ()), (r6.2, ()), ((a2 ++ [(x5, x28)]), ()), (x29, ()), ()))) .fail))))) .fail) .fail) .fail) .fail) (
   .leaf (.inr ((a0, ()), (a1, ()), (a2, ()), ())))
def step_armplanmake_Box_L0 : Sl ss_armplanmake_Box_L0 → Option (Sl ss_armplanmake_Box_L0 ⊕ Outs os_armplanmake_Box_L0) := fun x => (t_armplanmake_Box_L0 x.1.1 x.2.1.1 x.2.2.1.1 x.2.2.2.1.1).optA id
theorem run_armplanmake_Box_L0 : ∀ (x : Sl ss_armplanmake_Box_L0) (vs : Nat → Value), run (mkC etys eeqs [(18, hd_armplanmake_Source_Next)] [] noLoops) 200 12 (loopBody 0 (Tryz.f12.body.getD .skip)) (mkSt ss_armplanmake_Box_L0 x (baseT 68 [] [] vs)) (endK ss_armplanmake_Box_L0 os_armplanmake_Box_L0 68 []) = (t_armplanmake_Box_L0 x.1.1 x.2.1.1 x.2.2.1.1 x.2.2.2.1.1).optA fun r => (r, [].map (keptA [] vs)) := by
  intro x vs; kernel_rfl
instance inh_armplanmake_Box_L0 : Inhabited (Outs os_armplanmake_Box_L0) := ⟨outsDflt os_armplanmake_Box_L0⟩
def dom_armplanmake_Box_L0 (x : Sl ss_armplanmake_Box_L0) : Bool := (loopN step_armplanmake_Box_L0 rounds x).isSome
def val_armplanmake_Box_L0 (x : Sl ss_armplanmake_Box_L0) : Outs os_armplanmake_Box_L0 := (loopN step_armplanmake_Box_L0 rounds x).getD default
def loop_armplanmake_Box_L0 : LoopD := mkLoop ss_armplanmake_Box_L0 os_armplanmake_Box_L0 68 [] [] step_armplanmake_Box_L0 dom_armplanmake_Box_L0 val_armplanmake_Box_L0 (loop_hv step_armplanmake_Box_L0)
theorem lok_armplanmake_Box_L0 : LoopOk Tryz.prog (loopLH loop_armplanmake_Box_L0 0) 0 (.loop (loopBody 0 (Tryz.f12.body.getD .skip))) := loop_in (D := loop_armplanmake_Box_L0) (n := 200) (cur := 12) (mkC_ok etys_ok eeqs_ok (fns_cons ok_armplanmake_Source_Next (fns_nil _)) (inl_nil _) noLoops_ok mixed) Tryz.func12 (by kernel_rfl) (turns_of run_armplanmake_Box_L0) (by kernel_rfl) (by kernel_rfl) (by kernel_rfl)

/- armplan/armplanmake.Box -/
def t_armplanmake_Box (a0 : DRobot) (a1 : List (Int)) : Tr (List ((Int × Int))) :=
  let r1 : Outs os_armplanmake_Box_L0 := val_armplanmake_Box_L0 ((a0, ()), ((a1, 0), ()), ([], ()), (0, ()), ())
  .br (dom_armplanmake_Box_L0 ((a0, ()), ((a1, 0), ()), ([], ()), (0, ()), ())) (
   let y2 : DRobot := r1.1.1
   let y3 : DSource := r1.2.1.1
   let y4 : List ((Int × Int)) := r1.2.2.1.1
   .leaf y4) .fail
def armplanmake_Box (a0 : DRobot) (a1 : List (Int)) : List ((Int × Int)) := (t_armplanmake_Box a0 a1).val
def dom_armplanmake_Box (a0 : DRobot) (a1 : List (Int)) : Bool := (t_armplanmake_Box a0 a1).dom
theorem run_armplanmake_Box : ∀ x, runF (mkC etys eeqs [] [(17, Tryz.f17)] (lpOne 12 0 (loopLH loop_armplanmake_Box_L0 0) noLoops)) 200 12 Tryz.f12 (argsA [TRobot, .list (.int .i64)] x) [] (fun v h => toRes h [.list (.pair (.int .i64) (.int .i64))] v) = (t_armplanmake_Box x.1 x.2.1).optA (fun r => (r, ())) := by
  intro x; kernel_rfl
theorem fn_armplanmake_Box : FnOk Tryz.prog 12 [TRobot, .list (.int .i64)] [.list (.pair (.int .i64) (.int .i64))] (fun x => bif dom_armplanmake_Box x.1 x.2.1 then some ((fun r => (r, ())) (armplanmake_Box x.1 x.2.1)) else none) :=
  fn_part (t := fun (x : Ar [TRobot, .list (.int .i64)]) => t_armplanmake_Box x.1 x.2.1) (R := List ((Int × Int))) (Ts := [.list (.pair (.int .i64) (.int .i64))]) (mk := (fun r => (r, ()))) (mkC_ok etys_ok eeqs_ok (fns_nil _) (inl_cons Tryz.func17 (by kernel_rfl) (inl_nil _)) (lpOne_ok (b := loopBody 0 (Tryz.f12.body.getD .skip)) Tryz.func12 (by kernel_rfl) lok_armplanmake_Box_L0 noLoops_ok) mixed) Tryz.func12 run_armplanmake_Box
def hd_armplanmake_Box : Hd := guardHd [TRobot, .list (.int .i64)] [.list (.pair (.int .i64) (.int .i64))] (fun x => dom_armplanmake_Box x.1 x.2.1) (fun x => (fun r => (r, ())) (armplanmake_Box x.1 x.2.1))
theorem ok_armplanmake_Box : HdOk Tryz.prog 12 hd_armplanmake_Box.sem ∧ Enters Tryz.prog 12 := guard_ok fn_armplanmake_Box Tryz.func12 (by kernel_rfl) (by kernel_rfl)

end Go.RX

/-
  The contracts of functions.
-/
namespace Go.RX
open Go.Proofs

def ftys : List (Nat × TRow) := [(2, ⟨.int .i64, 1, 8, [.int .i64 0], .int .i64⟩),
  (3, ⟨.int .i64, 1, 8, [.int .i64 0], .int .i64⟩),
  (28, ⟨.arr 3 2, 3, 24, [.int .i64 0, .int .i64 0, .int .i64 0], TVec⟩),
  (46, ⟨.struct [(0, 1), (1, 1)], 2, 16, [.int .i64 0, .int .i64 0], .pair (.int .i64) (.int .i64)⟩),
  (69, ⟨.struct [(0, 1), (1, 1), (2, 1), (3, 3), (6, 1), (7, 1), (8, 1), (9, 1), (10, 1), (11, 1)], 12, 104, [.string (ByteArray.mk #[]), .int .i64 0, .int .i64 0, .int .i64 0, .int .i64 0, .int .i64 0, .int .i64 0, .int .i64 0, .int .i64 0, .int .i64 0, .int .i64 0, .int .i64 0], TJoint⟩),
  (90, ⟨.arr 3 46, 6, 48, [.int .i64 0, .int .i64 0, .int .i64 0, .int .i64 0, .int .i64 0, .int .i64 0], TIVec⟩),
  (92, ⟨.struct [(0, 18), (18, 6)], 24, 192, [.int .i64 0, .int .i64 0, .int .i64 0, .int .i64 0, .int .i64 0, .int .i64 0, .int .i64 0, .int .i64 0, .int .i64 0, .int .i64 0, .int .i64 0, .int .i64 0, .int .i64 0, .int .i64 0, .int .i64 0, .int .i64 0, .int .i64 0, .int .i64 0, .int .i64 0, .int .i64 0, .int .i64 0, .int .i64 0, .int .i64 0, .int .i64 0], TPose⟩),
  (141, ⟨.other, 1, 8, [.nilFunc], .unit⟩),
  (155, ⟨.struct [(0, 1), (1, 1)], 2, 16, [.int .i64 0, .nilFunc], .unit⟩)]
def feqs : List (Nat × (Bool × List TK)) := []
theorem ftys_ok : tableOk Tryz.prog ftys = true := by kernel_rfl
theorem feqs_ok : eqsOk Tryz.prog feqs = true := by kernel_rfl

/- armplan/kinematics.slide -/
def t_kinematics_slide (a0 : Int) (a1 : (Int × Int)) : Tr DPose :=
  .br (decide (a0 = 0)) (
   let r1 : DPose := pose_Shift (a1, ((0, 0), (0, 0)))
   .leaf r1) (
   .br (decide (a0 = 1)) (
    let r2 : DPose := pose_Shift ((0, 0), (a1, (0, 0)))
    .leaf r2) (
    .br (decide (a0 = 2)) (
     let r3 : DPose := pose_Shift ((0, 0), ((0, 0), a1))
     .leaf r3) (
     .fail)))
def kinematics_slide (a0 : Int) (a1 : (Int × Int)) : DPose := (t_kinematics_slide a0 a1).val
def dom_kinematics_slide (a0 : Int) (a1 : (Int × Int)) : Bool := (t_kinematics_slide a0 a1).dom
theorem run_kinematics_slide : ∀ x, runF (mkC ftys feqs [(112, hd_pose_Shift)] [] noLoops) 200 123 Tryz.f123 (argsA [.int .i64, .pair (.int .i64) (.int .i64)] x) [] (fun v h => toRes h [TPose] v) = (t_kinematics_slide x.1 x.2.1).optA (fun r => (r, ())) := by
  intro x; kernel_rfl
theorem fn_kinematics_slide : FnOk Tryz.prog 123 [.int .i64, .pair (.int .i64) (.int .i64)] [TPose] (fun x => bif dom_kinematics_slide x.1 x.2.1 then some ((fun r => (r, ())) (kinematics_slide x.1 x.2.1)) else none) :=
  fn_part (t := fun (x : Ar [.int .i64, .pair (.int .i64) (.int .i64)]) => t_kinematics_slide x.1 x.2.1) (R := DPose) (Ts := [TPose]) (mk := (fun r => (r, ()))) (mkC_ok ftys_ok feqs_ok (fns_cons ok_pose_Shift (fns_nil _)) (inl_nil _) noLoops_ok mixed) Tryz.func123 run_kinematics_slide
def hd_kinematics_slide : Hd := guardHd [.int .i64, .pair (.int .i64) (.int .i64)] [TPose] (fun x => dom_kinematics_slide x.1 x.2.1) (fun x => (fun r => (r, ())) (kinematics_slide x.1 x.2.1))
theorem ok_kinematics_slide : HdOk Tryz.prog 123 hd_kinematics_slide.sem ∧ Enters Tryz.prog 123 := guard_ok fn_kinematics_slide Tryz.func123 (by kernel_rfl) (by kernel_rfl)

/- armplan/kinematics.rest -/
def t_kinematics_rest (a0 : Int) (a1 : (Int × Int)) : Tr DPose :=
  let r1 : DPose := pose_Identity
  .leaf r1
def kinematics_rest (a0 : Int) (a1 : (Int × Int)) : DPose := (t_kinematics_rest a0 a1).val
theorem run_kinematics_rest : ∀ x, runF (mkC ftys feqs [(138, hd_pose_Identity)] [] noLoops) 200 124 Tryz.f124 (argsA [.int .i64, .pair (.int .i64) (.int .i64)] x) [] (fun v h => toRes h [TPose] v) = (t_kinematics_rest x.1 x.2.1).optA (fun r => (r, ())) := by
  intro x; kernel_rfl
theorem fn_kinematics_rest : FnOk Tryz.prog 124 [.int .i64, .pair (.int .i64) (.int .i64)] [TPose] (fun x => some ((fun r => (r, ())) (kinematics_rest x.1 x.2.1))) :=
  fn_tot (t := fun (x : Ar [.int .i64, .pair (.int .i64) (.int .i64)]) => t_kinematics_rest x.1 x.2.1) (R := DPose) (Ts := [TPose]) (mk := (fun r => (r, ()))) (mkC_ok ftys_ok feqs_ok (fns_cons ok_pose_Identity (fns_nil _)) (inl_nil _) noLoops_ok mixed) Tryz.func124 run_kinematics_rest (fun _ => by kernel_rfl)
def hd_kinematics_rest : Hd := dataHd [.int .i64, .pair (.int .i64) (.int .i64)] [TPose] (fun x => some ((fun r => (r, ())) (kinematics_rest x.1 x.2.1)))
theorem ok_kinematics_rest : HdOk Tryz.prog 124 hd_kinematics_rest.sem ∧ Enters Tryz.prog 124 := data_ok fn_kinematics_rest Tryz.func124 (by kernel_rfl) (by kernel_rfl)

/- armplan/kinematics.Joint -/
def t_kinematics_Joint (a0 : DJoint) (a1 : (Int × Int)) : Tr DPose :=
  let x1 : Bool := decide (a0.2.1 = 1)
  .br (x1) (
   let x2 : Int := IntKind.wrap .i64 (a0.2.1 - 1)
   let r3 : DIVec := matrix_Point a0.2.2.2.1
   let r4 : DPose := pose_Shift r3
   let r5 : DPose := pose_Turn x2 a1
   let r6 : DPose := pose_Compose r4 r5
   .leaf r6) (
   let x7 : Bool := decide (a0.2.1 = 2)
   .br (x7) (
    let x8 : Int := IntKind.wrap .i64 (a0.2.1 - 1)
    let r9 : DIVec := matrix_Point a0.2.2.2.1
    let r10 : DPose := pose_Shift r9
    let r11 : DPose := pose_Turn x8 a1
    let r12 : DPose := pose_Compose r10 r11
    .leaf r12) (
    let x13 : Bool := decide (a0.2.1 = 3)
    .br (x13) (
     let x14 : Int := IntKind.wrap .i64 (a0.2.1 - 1)
     let r15 : DIVec := matrix_Point a0.2.2.2.1
     let r16 : DPose := pose_Shift r15
     let r17 : DPose := pose_Turn x14 a1
     let r18 : DPose := pose_Compose r16 r17
     .leaf r18) (
     let x19 : Bool := decide (a0.2.1 = 4)
     .br (x19) (
      let x20 : Int := IntKind.wrap .i64 (a0.2.1 - 4)
      let r21 : DIVec := matrix_Point a0.2.2.2.1
      let r22 : DPose := pose_Shift r21
      let r23 : DPose := kinematics_slide x20 a1
      .br (dom_kinematics_slide x20 a1) (
       let r24 : DPose := pose_Compose r22 r23
       .leaf r24) .fail) (
      let x25 : Bool := decide (a0.2.1 = 5)
      .br (x25) (
       let x26 : Int := IntKind.wrap .i64 (a0.2.1 - 4)
       let r27 : DIVec := matrix_Point a0.2.2.2.1
       let r28 : DPose := pose_Shift r27
       let r29 : DPose := kinematics_slide x26 a1
       .br (dom_kinematics_slide x26 a1) (
        let r30 : DPose := pose_Compose r28 r29
        .leaf r30) .fail) (
       let x31 : Bool := decide (a0.2.1 = 6)
       .br (x31) (
        let x32 : Int := IntKind.wrap .i64 (a0.2.1 - 4)
        let r33 : DIVec := matrix_Point a0.2.2.2.1
        let r34 : DPose := pose_Shift r33
        let r35 : DPose := kinematics_slide x32 a1
        .br (dom_kinematics_slide x32 a1) (
         let r36 : DPose := pose_Compose r34 r35
         .leaf r36) .fail) (
        let r37 : DIVec := matrix_Point a0.2.2.2.1
        let r38 : DPose := pose_Shift r37
        let r39 : DPose := kinematics_rest 0 a1
        let r40 : DPose := pose_Compose r38 r39
        .leaf r40))))))
def kinematics_Joint (a0 : DJoint) (a1 : (Int × Int)) : DPose := (t_kinematics_Joint a0 a1).val
def dom_kinematics_Joint (a0 : DJoint) (a1 : (Int × Int)) : Bool := (t_kinematics_Joint a0 a1).dom
theorem run_kinematics_Joint : ∀ x, runF (mkC ftys feqs [(78, hd_matrix_Point), (102, hd_pose_Compose), (112, hd_pose_Shift), (122, hd_pose_Turn), (123, hd_kinematics_slide), (124, hd_kinematics_rest)] [(111, Tryz.f111)] noLoops) 200 101 Tryz.f101 (argsA [TJoint, .pair (.int .i64) (.int .i64)] x) [] (fun v h => toRes h [TPose] v) = (t_kinematics_Joint x.1 x.2.1).optA (fun r => (r, ())) := by
  intro x; kernel_rfl
theorem fn_kinematics_Joint : FnOk Tryz.prog 101 [TJoint, .pair (.int .i64) (.int .i64)] [TPose] (fun x => bif dom_kinematics_Joint x.1 x.2.1 then some ((fun r => (r, ())) (kinematics_Joint x.1 x.2.1)) else none) :=
  fn_part (t := fun (x : Ar [TJoint, .pair (.int .i64) (.int .i64)]) => t_kinematics_Joint x.1 x.2.1) (R := DPose) (Ts := [TPose]) (mk := (fun r => (r, ()))) (mkC_ok ftys_ok feqs_ok (fns_cons ok_matrix_Point (fns_cons ok_pose_Compose (fns_cons ok_pose_Shift (fns_cons ok_pose_Turn (fns_cons ok_kinematics_slide (fns_cons ok_kinematics_rest (fns_nil _))))))) (inl_cons Tryz.func111 (by kernel_rfl) (inl_nil _)) noLoops_ok mixed) Tryz.func101 run_kinematics_Joint
def hd_kinematics_Joint : Hd := guardHd [TJoint, .pair (.int .i64) (.int .i64)] [TPose] (fun x => dom_kinematics_Joint x.1 x.2.1) (fun x => (fun r => (r, ())) (kinematics_Joint x.1 x.2.1))
theorem ok_kinematics_Joint : HdOk Tryz.prog 101 hd_kinematics_Joint.sem ∧ Enters Tryz.prog 101 := guard_ok fn_kinematics_Joint Tryz.func101 (by kernel_rfl) (by kernel_rfl)

/- armplan/armplanref10.Joint -/
def t_armplanref10_Joint (a0 : DJoint) (a1 : (Int × Int)) : Tr DPose :=
  let r1 : DPose := armplanref1_Rest
  let x2 : Bool := decide (a0.2.1 = 1)
  .br (x2) (
   let x3 : Int := IntKind.wrap .i64 (a0.2.1 - 1)
   let r4 : DPose := armplanref1_TurnPose x3 a1
   let r5 : DIVec := armplanref1_Point a0.2.2.2.1
   let r6 : DPose := armplanref1_Shift r5
   let r7 : DPose := armplanref1_Compose r6 r4
   .leaf r7) (
   let x8 : Bool := decide (a0.2.1 = 2)
   .br (x8) (
    let x9 : Int := IntKind.wrap .i64 (a0.2.1 - 1)
    let r10 : DPose := armplanref1_TurnPose x9 a1
    let r11 : DIVec := armplanref1_Point a0.2.2.2.1
    let r12 : DPose := armplanref1_Shift r11
    let r13 : DPose := armplanref1_Compose r12 r10
    .leaf r13) (
    let x14 : Bool := decide (a0.2.1 = 3)
    .br (x14) (
     let x15 : Int := IntKind.wrap .i64 (a0.2.1 - 1)
     let r16 : DPose := armplanref1_TurnPose x15 a1
     let r17 : DIVec := armplanref1_Point a0.2.2.2.1
     let r18 : DPose := armplanref1_Shift r17
     let r19 : DPose := armplanref1_Compose r18 r16
     .leaf r19) (
     let x20 : Bool := decide (a0.2.1 = 4)
     .br (x20) (
      let x21 : Int := IntKind.wrap .i64 (a0.2.1 - 4)
      .br (decide (x21 = 0)) (
       let r22 : DPose := armplanref1_Shift (a1, ((0, 0), (0, 0)))
       let r23 : DIVec := armplanref1_Point a0.2.2.2.1
       let r24 : DPose := armplanref1_Shift r23
       let r25 : DPose := armplanref1_Compose r24 r22
       .leaf r25) (
       .br (decide (x21 = 1)) (
        let r26 : DPose := armplanref1_Shift ((0, 0), (a1, (0, 0)))
        let r27 : DIVec := armplanref1_Point a0.2.2.2.1
        let r28 : DPose := armplanref1_Shift r27
        let r29 : DPose := armplanref1_Compose r28 r26
        .leaf r29) (
        .br (decide (x21 = 2)) (
         let r30 : DPose := armplanref1_Shift ((0, 0), ((0, 0), a1))
         let r31 : DIVec := armplanref1_Point a0.2.2.2.1
         let r32 : DPose := armplanref1_Shift r31
         let r33 : DPose := armplanref1_Compose r32 r30
         .leaf r33) (
         .fail)))) (
      let x34 : Bool := decide (a0.2.1 = 5)
      .br (x34) (
       let x35 : Int := IntKind.wrap .i64 (a0.2.1 - 4)
       .br (decide (x35 = 0)) (
        let r36 : DPose := armplanref1_Shift (a1, ((0, 0), (0, 0)))
        let r37 : DIVec := armplanref1_Point a0.2.2.2.1
        let r38 : DPose := armplanref1_Shift r37
        let r39 : DPose := armplanref1_Compose r38 r36
        .leaf r39) (
        .br (decide (x35 = 1)) (
         let r40 : DPose := armplanref1_Shift ((0, 0), (a1, (0, 0)))
         let r41 : DIVec := armplanref1_Point a0.2.2.2.1
         let r42 : DPose := armplanref1_Shift r41
         let r43 : DPose := armplanref1_Compose r42 r40
         .leaf r43) (
         .br (decide (x35 = 2)) (
          let r44 : DPose := armplanref1_Shift ((0, 0), ((0, 0), a1))
          let r45 : DIVec := armplanref1_Point a0.2.2.2.1
          let r46 : DPose := armplanref1_Shift r45
          let r47 : DPose := armplanref1_Compose r46 r44
          .leaf r47) (
          .fail)))) (
       let x48 : Bool := decide (a0.2.1 = 6)
       .br (x48) (
        let x49 : Int := IntKind.wrap .i64 (a0.2.1 - 4)
        .br (decide (x49 = 0)) (
         let r50 : DPose := armplanref1_Shift (a1, ((0, 0), (0, 0)))
         let r51 : DIVec := armplanref1_Point a0.2.2.2.1
         let r52 : DPose := armplanref1_Shift r51
         let r53 : DPose := armplanref1_Compose r52 r50
         .leaf r53) (
         .br (decide (x49 = 1)) (
          let r54 : DPose := armplanref1_Shift ((0, 0), (a1, (0, 0)))
          let r55 : DIVec := armplanref1_Point a0.2.2.2.1
          let r56 : DPose := armplanref1_Shift r55
          let r57 : DPose := armplanref1_Compose r56 r54
          .leaf r57) (
          .br (decide (x49 = 2)) (
           let r58 : DPose := armplanref1_Shift ((0, 0), ((0, 0), a1))
           let r59 : DIVec := armplanref1_Point a0.2.2.2.1
           let r60 : DPose := armplanref1_Shift r59
           let r61 : DPose := armplanref1_Compose r60 r58
           .leaf r61) (
           .fail)))) (
        let r62 : DIVec := armplanref1_Point a0.2.2.2.1
        let r63 : DPose := armplanref1_Shift r62
        let r64 : DPose := armplanref1_Compose r63 r1
        .leaf r64))))))
def armplanref10_Joint (a0 : DJoint) (a1 : (Int × Int)) : DPose := (t_armplanref10_Joint a0 a1).val
def dom_armplanref10_Joint (a0 : DJoint) (a1 : (Int × Int)) : Bool := (t_armplanref10_Joint a0 a1).dom
theorem run_armplanref10_Joint : ∀ x, runF (mkC ftys feqs [(40, hd_armplanref1_Point), (62, hd_armplanref1_Compose), (88, hd_armplanref1_Rest), (89, hd_armplanref1_TurnPose), (90, hd_armplanref1_Shift)] [] noLoops) 200 61 Tryz.f61 (argsA [TJoint, .pair (.int .i64) (.int .i64)] x) [] (fun v h => toRes h [TPose] v) = (t_armplanref10_Joint x.1 x.2.1).optA (fun r => (r, ())) := by
  intro x; kernel_rfl
theorem fn_armplanref10_Joint : FnOk Tryz.prog 61 [TJoint, .pair (.int .i64) (.int .i64)] [TPose] (fun x => bif dom_armplanref10_Joint x.1 x.2.1 then some ((fun r => (r, ())) (armplanref10_Joint x.1 x.2.1)) else none) :=
  fn_part (t := fun (x : Ar [TJoint, .pair (.int .i64) (.int .i64)]) => t_armplanref10_Joint x.1 x.2.1) (R := DPose) (Ts := [TPose]) (mk := (fun r => (r, ()))) (mkC_ok ftys_ok feqs_ok (fns_cons ok_armplanref1_Point (fns_cons ok_armplanref1_Compose (fns_cons ok_armplanref1_Rest (fns_cons ok_armplanref1_TurnPose (fns_cons ok_armplanref1_Shift (fns_nil _)))))) (inl_nil _) noLoops_ok mixed) Tryz.func61 run_armplanref10_Joint
def hd_armplanref10_Joint : Hd := guardHd [TJoint, .pair (.int .i64) (.int .i64)] [TPose] (fun x => dom_armplanref10_Joint x.1 x.2.1) (fun x => (fun r => (r, ())) (armplanref10_Joint x.1 x.2.1))
theorem ok_armplanref10_Joint : HdOk Tryz.prog 61 hd_armplanref10_Joint.sem ∧ Enters Tryz.prog 61 := guard_ok fn_armplanref10_Joint Tryz.func61 (by kernel_rfl) (by kernel_rfl)

end Go.RX

/-
  token.Name, whose loop runs over a text's letters: its contract.
-/
namespace Go.RX
open Go.Proofs Go.RowKit

/-- A byte that may stand at place i of a name. -/
def nameByte (i : Nat) (b : UInt8) : Bool := (decide (97 ≤ b.toNat) && decide (b.toNat ≤ 122)) || (!decide (i = 0) && (decide (b.toNat = 95) || (decide (48 ≤ b.toNat) && decide (b.toNat ≤ 57))))

def nameFrom : Nat → List UInt8 → Bool
  | _, [] => true
  | i, b :: l => nameByte i b && nameFrom (i + 1) l

def token_Name (s : ByteArray) : Bool := nameFrom 0 s.data.toList && (decide (1 ≤ (s.size : Int)) && decide ((s.size : Int) ≤ 16) && !(s.toList == [119, 111, 114, 108, 100]))

theorem nameFrom_drop (s : ByteArray) (pos : Nat) (h : pos < s.size) : nameFrom pos (s.data.toList.drop pos) = (nameByte pos (s[pos]'h) && nameFrom (pos + 1) (s.data.toList.drop (pos + 1))) := by
  have hl : pos < s.data.toList.length := by simpa using h
  rw [List.drop_eq_getElem_cons hl]
  rfl

set_option maxRecDepth 1000000 in
theorem walk_token_Name (s : ByteArray) (w : World) :
    Calls Tryz.prog 53 #[.string s] w fun e w' => e = .returned (.bool (token_Name s)) ∧ ∃ pos, w' = w.iter s pos := by
  go_enter Tryz.func53, Tryz.ntmps53
  go_wp2
  go_loopw [] (fun w' => ∃ (pos : Nat), w' = w.iter s pos ∧ pos ≤ s.size ∧ nameFrom 0 s.data.toList = nameFrom pos (s.data.toList.drop pos)) (fun w' => s.size - w'.iterPos w.heap.size)
  case atStart => exact ⟨0, rfl, Nat.zero_le _, rfl⟩
  case round =>
    obtain ⟨pos, rfl, hps, hc⟩ := hrel
    by_cases hp : pos < s.size
    · have hnx : ∀ ty, (Instr.next (.pointer (some ⟨w.heap.size, 0, none⟩)) true ty).run Tryz.prog (w.iter s pos) = _ := fun ty => run_next_any w s pos ty hp
      rw [nameFrom_drop s pos hp] at hc
      by_cases hb : (s[pos]'hp).toNat < 128
      · simp only [decode_ascii s pos hp hb] at hnx
        generalize hbb : s[pos]'hp = b at hc hnx hb
        have hon : nameByte pos b = true → nameFrom 0 s.data.toList = nameFrom (pos + 1) (s.data.toList.drop (pos + 1)) := fun h => by rw [hc, h]; rfl
        have hoff : nameByte pos b = false → token_Name s = false := fun h => by unfold token_Name; rw [hc, h]; rfl
        clear hc hbb
        go_wp2
        all_goals clear hnx
        all_goals try simp only [Bool.not_eq_true', Bool.not_eq_false', decide_eq_true_eq, decide_eq_false_iff_not, beq_iff_eq, bne_iff_ne, Bool.or_eq_true, Bool.and_eq_true, beq_eq_false_iff_ne, bne_eq_false_iff_eq, Bool.or_eq_false_iff, Bool.and_eq_false_iff] at *
        all_goals first
          | (exfalso; omega)
          | (refine ⟨⟨_, rfl, by omega, hon (by unfold nameByte; simp only [Bool.or_eq_true, Bool.and_eq_true, Bool.not_eq_true', decide_eq_true_eq, decide_eq_false_iff_not]; omega)⟩, by simp; omega⟩)
          | (go_ret; refine ⟨?_, _, rfl⟩; show Ending.returned (Value.bool false) = _; rw [hoff (by unfold nameByte; simp only [Bool.or_eq_false_iff, Bool.and_eq_false_iff, Bool.not_eq_false', decide_eq_true_eq, decide_eq_false_iff_not]; omega)])
      · have hh := decode_high s pos hp (by omega)
        generalize (Utf8.decode s pos) = d at hnx hh
        generalize hbb : s[pos]'hp = b at hc hb
        have hoff : token_Name s = false := by
          have : nameByte pos b = false := by unfold nameByte; simp only [Bool.or_eq_false_iff, Bool.and_eq_false_iff, Bool.not_eq_false', decide_eq_true_eq, decide_eq_false_iff_not]; omega
          unfold token_Name; rw [hc, this]; rfl
        clear hc hbb
        go_wp2
        all_goals clear hnx
        all_goals try simp only [Bool.not_eq_true', Bool.not_eq_false', decide_eq_true_eq, decide_eq_false_iff_not, beq_iff_eq, bne_iff_ne, Bool.or_eq_true, Bool.and_eq_true, beq_eq_false_iff_ne, bne_eq_false_iff_eq, Bool.or_eq_false_iff, Bool.and_eq_false_iff] at *
        all_goals first
          | (exfalso; omega)
          | (go_ret; refine ⟨?_, _, rfl⟩; show Ending.returned (Value.bool false) = _; rw [hoff])
    · have hnx : ∀ ty, (Instr.next (.pointer (some ⟨w.heap.size, 0, none⟩)) true ty).run Tryz.prog (w.iter s pos) = _ := fun ty => run_next_end w s pos ty hp
      have hall : nameFrom 0 s.data.toList = true := by rw [hc, List.drop_eq_nil_of_le (by simpa using Nat.not_lt.1 hp)]; rfl
      go_wp2
      all_goals
        go_ret
        refine ⟨?_, _, rfl⟩
        unfold token_Name
        rw [hall]
        first
          | (show Ending.returned (Value.bool false) = _; rw [decide_eq_false (p := (1 : Int) ≤ (s.size : Int)) (by omega)]; rfl)
          | (show Ending.returned (Value.bool false) = _; rw [decide_eq_false (p := (s.size : Int) ≤ 16) (by omega), Bool.and_false]; rfl)
          | (show Ending.returned (Value.bool _) = _; rw [decide_eq_true (p := (1 : Int) ≤ (s.size : Int)) (by omega), decide_eq_true (p := (s.size : Int) ≤ 16) (by omega)]; rfl)

theorem frozen_iter' (w : World) (s : ByteArray) (pos : Nat) (a : Addr) : (w.iter s pos).frozen? a = w.frozen? a := by
  by_cases h : a.block = w.heap.size
  · have e1 : (w.iter s pos).heap[a.block]? = some (.stringIter s pos) := by rw [h]; exact World.iter_heap w s pos
    have e2 : w.heap[a.block]? = none := by rw [h]; simp
    simp [World.frozen?, e1, e2]
  · exact World.frozen?_alloc_old _ _ _ h

theorem fn_token_Name : FnOk Tryz.prog 53 [.str] [.bool] (fun x => some (token_Name x.1, ())) := by
  intro fr w x vals r hx hF
  simp only [Option.some.injEq] at hF
  subst hF
  obtain ⟨v, us, e, h1, h2⟩ := hx
  obtain rfl : us = [] := h2
  obtain h1 : [v] = [Value.string x.1] := h1
  simp only [List.cons.injEq, and_true] at h1
  subst h1
  have hv : vals = #[.string x.1] := Array.ext' (by simpa using e)
  subst hv
  refine (walk_token_Name x.1 w).mono fun e w' ⟨he, pos, hw⟩ => ?_
  subst hw
  exact ⟨_, fr, he, ⟨[.bool (token_Name x.1)], ⟨_, _, rfl, rfl, rfl⟩, rfl⟩, (Below.refl _ w).alloc (Nat.le_refl _) _, frozen_iter' w x.1 pos, fun _ _ _ => Iff.rfl⟩

def hd_token_Name : Hd := dataHd [.str] [.bool] (fun x => some (token_Name x.1, ()))
theorem ok_token_Name : HdOk Tryz.prog 53 hd_token_Name.sem ∧ Enters Tryz.prog 53 := data_ok fn_token_Name Tryz.func53 (by kernel_rfl) (by kernel_rfl)

end Go.RX

/-
  The contracts of functions.
-/
namespace Go.RX
open Go.Proofs

def gtys : List (Nat × TRow) := [(2, ⟨.int .i64, 1, 8, [.int .i64 0], .int .i64⟩),
  (3, ⟨.int .i64, 1, 8, [.int .i64 0], .int .i64⟩),
  (9, ⟨.str, 1, 16, [.string (ByteArray.mk #[])], .str⟩),
  (22, ⟨.slice 69, 1, 24, [.slice none 0 0], .list (TJoint)⟩),
  (23, ⟨.slice 80, 1, 24, [.slice none 0 0], .list (TMass)⟩),
  (25, ⟨.struct [(0, 1), (1, 1)], 2, 48, [.slice none 0 0, .slice none 0 0], TRobot⟩),
  (28, ⟨.arr 3 2, 3, 24, [.int .i64 0, .int .i64 0, .int .i64 0], TVec⟩),
  (69, ⟨.struct [(0, 1), (1, 1), (2, 1), (3, 3), (6, 1), (7, 1), (8, 1), (9, 1), (10, 1), (11, 1)], 12, 104, [.string (ByteArray.mk #[]), .int .i64 0, .int .i64 0, .int .i64 0, .int .i64 0, .int .i64 0, .int .i64 0, .int .i64 0, .int .i64 0, .int .i64 0, .int .i64 0, .int .i64 0], TJoint⟩),
  (80, ⟨.struct [(0, 1), (1, 1), (2, 3)], 5, 40, [.int .i64 0, .int .i64 0, .int .i64 0, .int .i64 0, .int .i64 0], TMass⟩)]
def geqs : List (Nat × (Bool × List TK)) := []
theorem gtys_ok : tableOk Tryz.prog gtys = true := by kernel_rfl
theorem geqs_ok : eqsOk Tryz.prog geqs = true := by kernel_rfl

/- armplan/robot.between -/
def t_robot_between (a0 : Int) (a1 : Int) (a2 : Int) : Tr Bool :=
  let x1 : Bool := decide (a0 ≤ a1)
  .br (x1) (
   let x2 : Bool := decide (a1 ≤ a2)
   .leaf x2) (
   .leaf false)
def robot_between (a0 : Int) (a1 : Int) (a2 : Int) : Bool := (t_robot_between a0 a1 a2).val
theorem run_robot_between : ∀ x, runF (mkC gtys geqs [] [] noLoops) 200 33 Tryz.f33 (argsA [.int .i64, .int .i64, .int .i64] x) [] (fun v h => toRes h [.bool] v) = (t_robot_between x.1 x.2.1 x.2.2.1).optA (fun r => (r, ())) := by
  intro x; kernel_rfl
theorem fn_robot_between : FnOk Tryz.prog 33 [.int .i64, .int .i64, .int .i64] [.bool] (fun x => some ((fun r => (r, ())) (robot_between x.1 x.2.1 x.2.2.1))) :=
  fn_tot (t := fun (x : Ar [.int .i64, .int .i64, .int .i64]) => t_robot_between x.1 x.2.1 x.2.2.1) (R := Bool) (Ts := [.bool]) (mk := (fun r => (r, ()))) (mkC_ok gtys_ok geqs_ok (fns_nil _) (inl_nil _) noLoops_ok mixed) Tryz.func33 run_robot_between (fun _ => by kernel_rfl)
def hd_robot_between : Hd := dataHd [.int .i64, .int .i64, .int .i64] [.bool] (fun x => some ((fun r => (r, ())) (robot_between x.1 x.2.1 x.2.2.1)))
theorem ok_robot_between : HdOk Tryz.prog 33 hd_robot_between.sem ∧ Enters Tryz.prog 33 := data_ok fn_robot_between Tryz.func33 (by kernel_rfl) (by kernel_rfl)

/- armplan/robot.long -/
def t_robot_long (a0 : DVec) : Tr Bool :=
  let x1 : Bool := decide (a0.1 < (-4194304))
  .br (x1) (
   .leaf true) (
   let x2 : Bool := decide (4194304 < a0.1)
   .br (x2) (
    .leaf true) (
    let x3 : Bool := decide (a0.2.1 < (-4194304))
    .br (x3) (
     .leaf true) (
     let x4 : Bool := decide (4194304 < a0.2.1)
     .br (x4) (
      .leaf true) (
      let x5 : Bool := decide (a0.2.2 < (-4194304))
      .br (x5) (
       .leaf true) (
       let x6 : Bool := decide (4194304 < a0.2.2)
       .br (x6) (
        .leaf true) (
        .leaf false))))))
def robot_long (a0 : DVec) : Bool := (t_robot_long a0).val
theorem run_robot_long : ∀ x, runF (mkC gtys geqs [] [] noLoops) 200 34 Tryz.f34 (argsA [TVec] x) [] (fun v h => toRes h [.bool] v) = (t_robot_long x.1).optA (fun r => (r, ())) := by
  intro x; kernel_rfl
theorem fn_robot_long : FnOk Tryz.prog 34 [TVec] [.bool] (fun x => some ((fun r => (r, ())) (robot_long x.1))) :=
  fn_tot (t := fun (x : Ar [TVec]) => t_robot_long x.1) (R := Bool) (Ts := [.bool]) (mk := (fun r => (r, ()))) (mkC_ok gtys_ok geqs_ok (fns_nil _) (inl_nil _) noLoops_ok mixed) Tryz.func34 run_robot_long (fun _ => by kernel_rfl)
def hd_robot_long : Hd := dataHd [TVec] [.bool] (fun x => some ((fun r => (r, ())) (robot_long x.1)))
theorem ok_robot_long : HdOk Tryz.prog 34 hd_robot_long.sem ∧ Enters Tryz.prog 34 := data_ok fn_robot_long Tryz.func34 (by kernel_rfl) (by kernel_rfl)

/- armplan/robot.bound -/
def t_robot_bound (a0 : Int) : Tr Int :=
  let x1 : Bool := decide (a0 = 0)
  .br (x1) (
   .leaf 0) (
   let x2 : Bool := decide (a0 = 1)
   .br (x2) (
    .leaf 524288) (
    let x3 : Bool := decide (a0 = 2)
    .br (x3) (
     .leaf 524288) (
     let x4 : Bool := decide (a0 = 3)
     .br (x4) (
      .leaf 524288) (
      .leaf 4194304))))
def robot_bound (a0 : Int) : Int := (t_robot_bound a0).val
theorem run_robot_bound : ∀ x, runF (mkC gtys geqs [] [] noLoops) 200 52 Tryz.f52 (argsA [.int .i64] x) [] (fun v h => toRes h [.int .i64] v) = (t_robot_bound x.1).optA (fun r => (r, ())) := by
  intro x; kernel_rfl
theorem fn_robot_bound : FnOk Tryz.prog 52 [.int .i64] [.int .i64] (fun x => some ((fun r => (r, ())) (robot_bound x.1))) :=
  fn_tot (t := fun (x : Ar [.int .i64]) => t_robot_bound x.1) (R := Int) (Ts := [.int .i64]) (mk := (fun r => (r, ()))) (mkC_ok gtys_ok geqs_ok (fns_nil _) (inl_nil _) noLoops_ok mixed) Tryz.func52 run_robot_bound (fun _ => by kernel_rfl)
def hd_robot_bound : Hd := dataHd [.int .i64] [.int .i64] (fun x => some ((fun r => (r, ())) (robot_bound x.1)))
theorem ok_robot_bound : HdOk Tryz.prog 52 hd_robot_bound.sem ∧ Enters Tryz.prog 52 := data_ok fn_robot_bound Tryz.func52 (by kernel_rfl) (by kernel_rfl)

/- loop 0 of slices.IndexFunc[[]armplan/api.Joint,armplan/api.Joint] -/
abbrev ss_robot_place_slices_IndexFunc___api_Joint_api_Joint__L0 : List Slot := [⟨[], true, false, [.d (.str)]⟩, ⟨[0], false, false, [.d (.list (TJoint))]⟩, ⟨[7], false, false, [.d (.int .i64)]⟩, ⟨[8], false, false, [.d (.int .i64)]⟩]
abbrev os_robot_place_slices_IndexFunc___api_Joint_api_Joint__L0 : List (Exit × List Slot) := [(.exit 0, [⟨[], true, false, [.d (.str)]⟩]), (.ret, [⟨[], true, false, [.d (.str)]⟩, ⟨[4], false, false, [.d (.int .i64)]⟩])]
def t_robot_place_slices_IndexFunc___api_Joint_api_Joint__L0 (a0 : ByteArray) (a1 : List (DJoint)) (a2 : Int) (a3 : Int) : Tr (Sl ss_robot_place_slices_IndexFunc___api_Joint_api_Joint__L0 ⊕ Outs os_robot_place_slices_IndexFunc___api_Joint_api_Joint__L0) :=
  let x1 : Bool := decide (a3 < a2)
  .br (x1) (
   .br (decide (0 ≤ a3) && decide (a3 < ((a1.length : Nat) : Int))) (
    let x2 : Bool := ((((List.getD a1 a3.toNat (Ty.dflt (TJoint)))).1).toList == a0.toList)
    .br (x2) (
     .leaf (.inr (.inr ((a0, ()), (a3, ()), ())))) (
     let x3 : Int := IntKind.wrap .i64 (a3 + 1)
     .leaf (.inl ((a0, ()), (a1, ()), (a2, ()), (x3, ()), ())))) .fail) (
   .leaf (.inr (.inl ((a0, ()), ()))))
def step_robot_place_slices_IndexFunc___api_Joint_api_Joint__L0 : Sl ss_robot_place_slices_IndexFunc___api_Joint_api_Joint__L0 → Option (Sl ss_robot_place_slices_IndexFunc___api_Joint_api_Joint__L0 ⊕ Outs os_robot_place_slices_IndexFunc___api_Joint_api_Joint__L0) := fun x => (t_robot_place_slices_IndexFunc___api_Joint_api_Joint__L0 x.1.1 x.2.1.1 x.2.2.1.1 x.2.2.2.1.1).optA id
theorem run_robot_place_slices_IndexFunc___api_Joint_api_Joint__L0 : ∀ (x : Sl ss_robot_place_slices_IndexFunc___api_Joint_api_Joint__L0) (vs : Nat → Value), run (mkC gtys geqs [] [(85, Tryz.f85)] noLoops) 200 84 (loopBody 0 (Tryz.f84.body.getD .skip)) (mkSt ss_robot_place_slices_IndexFunc___api_Joint_api_Joint__L0 x (baseT 19 [1] [(1, ⟨85, [], [0]⟩)] vs)) (endK ss_robot_place_slices_IndexFunc___api_Joint_api_Joint__L0 os_robot_place_slices_IndexFunc___api_Joint_api_Joint__L0 19 [1]) = (t_robot_place_slices_IndexFunc___api_Joint_api_Joint__L0 x.1.1 x.2.1.1 x.2.2.1.1 x.2.2.2.1.1).optA fun r => (r, [1].map (keptA [(1, ⟨85, [], [0]⟩)] vs)) := by
  intro x vs; kernel_rfl
instance inh_robot_place_slices_IndexFunc___api_Joint_api_Joint__L0 : Inhabited (Outs os_robot_place_slices_IndexFunc___api_Joint_api_Joint__L0) := ⟨outsDflt os_robot_place_slices_IndexFunc___api_Joint_api_Joint__L0⟩
def dom_robot_place_slices_IndexFunc___api_Joint_api_Joint__L0 (x : Sl ss_robot_place_slices_IndexFunc___api_Joint_api_Joint__L0) : Bool := (loopN step_robot_place_slices_IndexFunc___api_Joint_api_Joint__L0 rounds x).isSome
def val_robot_place_slices_IndexFunc___api_Joint_api_Joint__L0 (x : Sl ss_robot_place_slices_IndexFunc___api_Joint_api_Joint__L0) : Outs os_robot_place_slices_IndexFunc___api_Joint_api_Joint__L0 := (loopN step_robot_place_slices_IndexFunc___api_Joint_api_Joint__L0 rounds x).getD default
def loop_robot_place_slices_IndexFunc___api_Joint_api_Joint__L0 : LoopD := mkLoop ss_robot_place_slices_IndexFunc___api_Joint_api_Joint__L0 os_robot_place_slices_IndexFunc___api_Joint_api_Joint__L0 19 [1] [(1, ⟨85, [], [0]⟩)] step_robot_place_slices_IndexFunc___api_Joint_api_Joint__L0 dom_robot_place_slices_IndexFunc___api_Joint_api_Joint__L0 val_robot_place_slices_IndexFunc___api_Joint_api_Joint__L0 (loop_hv step_robot_place_slices_IndexFunc___api_Joint_api_Joint__L0)
theorem lok_robot_place_slices_IndexFunc___api_Joint_api_Joint__L0 : LoopOk Tryz.prog (loopLH loop_robot_place_slices_IndexFunc___api_Joint_api_Joint__L0 0) 0 (.loop (loopBody 0 (Tryz.f84.body.getD .skip))) := loop_in (D := loop_robot_place_slices_IndexFunc___api_Joint_api_Joint__L0) (n := 200) (cur := 84) (mkC_ok gtys_ok geqs_ok (fns_nil _) (inl_cons Tryz.func85 (by kernel_rfl) (inl_nil _)) noLoops_ok mixed) Tryz.func84 (by kernel_rfl) (turns_of run_robot_place_slices_IndexFunc___api_Joint_api_Joint__L0) (by kernel_rfl) (by kernel_rfl) (by kernel_rfl)

/- armplan/robot.place -/
def t_robot_place (a0 : List (DJoint)) (a1 : ByteArray) : Tr Int :=
  let r1 : Outs os_robot_place_slices_IndexFunc___api_Joint_api_Joint__L0 := val_robot_place_slices_IndexFunc___api_Joint_api_Joint__L0 ((a1, ()), (a0, ()), (((a0.length : Nat) : Int), ()), (0, ()), ())
  .br (dom_robot_place_slices_IndexFunc___api_Joint_api_Joint__L0 ((a1, ()), (a0, ()), (((a0.length : Nat) : Int), ()), (0, ()), ())) (
   let r2 := getL r1
   let r3 := getR r1
   .br (isL r1) (
    let y4 : ByteArray := r2.1.1
    .leaf (-1)) (
    let y5 : ByteArray := r3.1.1
    let y6 : Int := r3.2.1.1
    .leaf y6)) .fail
def robot_place (a0 : List (DJoint)) (a1 : ByteArray) : Int := (t_robot_place a0 a1).val
def dom_robot_place (a0 : List (DJoint)) (a1 : ByteArray) : Bool := (t_robot_place a0 a1).dom
theorem run_robot_place : ∀ x, runF (mkC gtys geqs [] [(84, Tryz.f84)] (lpOne 84 0 (loopLH loop_robot_place_slices_IndexFunc___api_Joint_api_Joint__L0 0) noLoops)) 200 54 Tryz.f54 (argsA [.list (TJoint), .str] x) [] (fun v h => toRes h [.int .i64] v) = (t_robot_place x.1 x.2.1).optA (fun r => (r, ())) := by
  intro x; kernel_rfl
theorem fn_robot_place : FnOk Tryz.prog 54 [.list (TJoint), .str] [.int .i64] (fun x => bif dom_robot_place x.1 x.2.1 then some ((fun r => (r, ())) (robot_place x.1 x.2.1)) else none) :=
  fn_part (t := fun (x : Ar [.list (TJoint), .str]) => t_robot_place x.1 x.2.1) (R := Int) (Ts := [.int .i64]) (mk := (fun r => (r, ()))) (mkC_ok gtys_ok geqs_ok (fns_nil _) (inl_cons Tryz.func84 (by kernel_rfl) (inl_nil _)) (lpOne_ok (b := loopBody 0 (Tryz.f84.body.getD .skip)) Tryz.func84 (by kernel_rfl) lok_robot_place_slices_IndexFunc___api_Joint_api_Joint__L0 noLoops_ok) mixed) Tryz.func54 run_robot_place
def hd_robot_place : Hd := guardHd [.list (TJoint), .str] [.int .i64] (fun x => dom_robot_place x.1 x.2.1) (fun x => (fun r => (r, ())) (robot_place x.1 x.2.1))
theorem ok_robot_place : HdOk Tryz.prog 54 hd_robot_place.sem ∧ Enters Tryz.prog 54 := guard_ok fn_robot_place Tryz.func54 (by kernel_rfl) (by kernel_rfl)

/- armplan/robot.checkJoint -/
def t_robot_checkJoint (a0 : List (DJoint)) (a1 : DJoint) : Tr Int :=
  let r1 : Int := robot_bound a1.2.1
  let r2 : Bool := token_Name a1.1
  .br ((!r2)) (
   .leaf 802) (
   let r3 : Int := robot_place a0 a1.1
   .br (dom_robot_place a0 a1.1) (
    let x4 : Bool := decide (0 ≤ r3)
    .br (x4) (
     .leaf 802) (
     let x5 : Bool := decide (a1.2.1 < 0)
     .br (x5) (
      .leaf 803) (
      let x6 : Bool := decide (6 < a1.2.1)
      .br (x6) (
       .leaf 803) (
       let x7 : Bool := decide (a1.2.2.1 < (-1))
       .br (x7) (
        .leaf 804) (
        let x8 : Bool := decide (((a0.length : Nat) : Int) ≤ a1.2.2.1)
        .br (x8) (
         .leaf 804) (
         let r9 : Bool := robot_long a1.2.2.2.1
         .br (r9) (
          .leaf 805) (
          let x10 : Bool := decide (a1.2.2.2.2.2.1 < a1.2.2.2.2.1)
          .br (x10) (
           .leaf 806) (
           let x11 : Int := IntKind.wrap .i64 (0 - r1)
           let x12 : Bool := decide (a1.2.2.2.2.1 < x11)
           .br (x12) (
            .leaf 806) (
            let x13 : Bool := decide (r1 < a1.2.2.2.2.2.1)
            .br (x13) (
             .leaf 806) (
             let r14 : Bool := robot_between 1 a1.2.2.2.2.2.2.1 1024
             .br ((!r14)) (
              .leaf 807) (
              let r15 : Bool := robot_between 1 a1.2.2.2.2.2.2.2.1 1048576
              .br ((!r15)) (
               .leaf 807) (
               let r16 : Bool := robot_between 1 a1.2.2.2.2.2.2.2.2.1 1048576
               .br ((!r16)) (
                .leaf 807) (
                let r17 : Bool := robot_between 1 a1.2.2.2.2.2.2.2.2.2 1099511627776
                .br ((!r17)) (
                 .leaf 807) (
                 .leaf 0)))))))))))))) .fail)
def robot_checkJoint (a0 : List (DJoint)) (a1 : DJoint) : Int := (t_robot_checkJoint a0 a1).val
def dom_robot_checkJoint (a0 : List (DJoint)) (a1 : DJoint) : Bool := (t_robot_checkJoint a0 a1).dom
theorem run_robot_checkJoint : ∀ x, runF (mkC gtys geqs [(33, hd_robot_between), (34, hd_robot_long), (52, hd_robot_bound), (53, hd_token_Name), (54, hd_robot_place)] [] noLoops) 200 32 Tryz.f32 (argsA [.list (TJoint), TJoint] x) [] (fun v h => toRes h [.int .i64] v) = (t_robot_checkJoint x.1 x.2.1).optA (fun r => (r, ())) := by
  intro x; kernel_rfl
theorem fn_robot_checkJoint : FnOk Tryz.prog 32 [.list (TJoint), TJoint] [.int .i64] (fun x => bif dom_robot_checkJoint x.1 x.2.1 then some ((fun r => (r, ())) (robot_checkJoint x.1 x.2.1)) else none) :=
  fn_part (t := fun (x : Ar [.list (TJoint), TJoint]) => t_robot_checkJoint x.1 x.2.1) (R := Int) (Ts := [.int .i64]) (mk := (fun r => (r, ()))) (mkC_ok gtys_ok geqs_ok (fns_cons ok_robot_between (fns_cons ok_robot_long (fns_cons ok_robot_bound (fns_cons ok_token_Name (fns_cons ok_robot_place (fns_nil _)))))) (inl_nil _) noLoops_ok mixed) Tryz.func32 run_robot_checkJoint
def hd_robot_checkJoint : Hd := guardHd [.list (TJoint), TJoint] [.int .i64] (fun x => dom_robot_checkJoint x.1 x.2.1) (fun x => (fun r => (r, ())) (robot_checkJoint x.1 x.2.1))
theorem ok_robot_checkJoint : HdOk Tryz.prog 32 hd_robot_checkJoint.sem ∧ Enters Tryz.prog 32 := guard_ok fn_robot_checkJoint Tryz.func32 (by kernel_rfl) (by kernel_rfl)

/- loop 0 of armplan/robot.Check -/
abbrev ss_robot_Check_L0 : List Slot := [⟨[1], true, false, [.d (TRobot)]⟩, ⟨[19], false, false, [.d (.list (TJoint))]⟩, ⟨[20], false, false, [.d (.int .i64)]⟩, ⟨[21], false, false, [.d (.int .i64)]⟩]
abbrev os_robot_Check_L0 : List (Exit × List Slot) := [(.exit 0, [⟨[1], true, false, [.d (TRobot)]⟩]), (.ret, [⟨[1], true, false, [.d (TRobot)]⟩, ⟨[2], false, false, [.d (.int .i64)]⟩])]
def t_robot_Check_L0 (a0 : DRobot) (a1 : List (DJoint)) (a2 : Int) (a3 : Int) : Tr (Sl ss_robot_Check_L0 ⊕ Outs os_robot_Check_L0) :=
  let x1 : Bool := decide (a3 < a2)
  .br (x1) (
   .br (decide (0 ≤ a3) && decide (a3 < ((a1.length : Nat) : Int))) (
    .br (decide (0 ≤ a3) && decide (a3 ≤ ((a0.1.length : Nat) : Int))) (
     let r2 : Int := robot_checkJoint (List.drop 0 (List.take a3.toNat a0.1)) (List.getD a1 a3.toNat (Ty.dflt (TJoint)))
     .br (dom_robot_checkJoint (List.drop 0 (List.take a3.toNat a0.1)) (List.getD a1 a3.toNat (Ty.dflt (TJoint)))) (
      let x3 : Bool := !decide (r2 = 0)
      .br (x3) (
       .leaf (.inr (.inr ((a0, ()), (r2, ()), ())))) (
       let x4 : Int := IntKind.wrap .i64 (a3 + 1)
       .leaf (.inl ((a0, ()), (a1, ()), (a2, ()), (x4, ()), ())))) .fail) .fail) .fail) (
   .leaf (.inr (.inl ((a0, ()), ()))))
def step_robot_Check_L0 : Sl ss_robot_Check_L0 → Option (Sl ss_robot_Check_L0 ⊕ Outs os_robot_Check_L0) := fun x => (t_robot_Check_L0 x.1.1 x.2.1.1 x.2.2.1.1 x.2.2.2.1.1).optA id
theorem run_robot_Check_L0 : ∀ (x : Sl ss_robot_Check_L0) (vs : Nat → Value), run (mkC gtys geqs [(32, hd_robot_checkJoint)] [] noLoops) 200 21 (loopBody 0 (Tryz.f21.body.getD .skip)) (mkSt ss_robot_Check_L0 x (baseT 70 [] [] vs)) (endK ss_robot_Check_L0 os_robot_Check_L0 70 []) = (t_robot_Check_L0 x.1.1 x.2.1.1 x.2.2.1.1 x.2.2.2.1.1).optA fun r => (r, [].map (keptA [] vs)) := by
  intro x vs; kernel_rfl
instance inh_robot_Check_L0 : Inhabited (Outs os_robot_Check_L0) := ⟨outsDflt os_robot_Check_L0⟩
def dom_robot_Check_L0 (x : Sl ss_robot_Check_L0) : Bool := (loopN step_robot_Check_L0 rounds x).isSome
def val_robot_Check_L0 (x : Sl ss_robot_Check_L0) : Outs os_robot_Check_L0 := (loopN step_robot_Check_L0 rounds x).getD default
def loop_robot_Check_L0 : LoopD := mkLoop ss_robot_Check_L0 os_robot_Check_L0 70 [] [] step_robot_Check_L0 dom_robot_Check_L0 val_robot_Check_L0 (loop_hv step_robot_Check_L0)
theorem lok_robot_Check_L0 : LoopOk Tryz.prog (loopLH loop_robot_Check_L0 0) 0 (.loop (loopBody 0 (Tryz.f21.body.getD .skip))) := loop_in (D := loop_robot_Check_L0) (n := 200) (cur := 21) (mkC_ok gtys_ok geqs_ok (fns_cons ok_robot_checkJoint (fns_nil _)) (inl_nil _) noLoops_ok mixed) Tryz.func21 (by kernel_rfl) (turns_of run_robot_Check_L0) (by kernel_rfl) (by kernel_rfl) (by kernel_rfl)

/- loop 2 of armplan/robot.Check -/
abbrev ss_robot_Check_L2 : List Slot := [⟨[1], true, false, [.d (TRobot)]⟩, ⟨[41], false, false, [.d (.list (TMass))]⟩, ⟨[42], false, false, [.d (.int .i64)]⟩, ⟨[43], false, false, [.d (.int .i64)]⟩]
abbrev os_robot_Check_L2 : List (Exit × List Slot) := [(.exit 2, [⟨[1], true, false, [.d (TRobot)]⟩]), (.ret, [⟨[1], true, false, [.d (TRobot)]⟩, ⟨[2], false, false, [.d (.int .i64)]⟩])]
def t_robot_Check_L2 (a0 : DRobot) (a1 : List (DMass)) (a2 : Int) (a3 : Int) : Tr (Sl ss_robot_Check_L2 ⊕ Outs os_robot_Check_L2) :=
  let x1 : Bool := decide (a3 < a2)
  .br (x1) (
   .br (decide (0 ≤ a3) && decide (a3 < ((a1.length : Nat) : Int))) (
    let x2 : Bool := decide (((List.getD a1 a3.toNat (Ty.dflt (TMass)))).1 < 0)
    .br (x2) (
     .leaf (.inr (.inr ((a0, ()), (808, ()), ())))) (
     let x3 : Bool := decide (((a0.1.length : Nat) : Int) ≤ ((List.getD a1 a3.toNat (Ty.dflt (TMass)))).1)
     .br (x3) (
      .leaf (.inr (.inr ((a0, ()), (808, ()), ())))) (
      let r4 : Bool := robot_between 1 ((((List.getD a1 a3.toNat (Ty.dflt (TMass)))).2).1) 65536
      .br ((!r4)) (
       .leaf (.inr (.inr ((a0, ()), (808, ()), ())))) (
       let r5 : Bool := robot_long ((((List.getD a1 a3.toNat (Ty.dflt (TMass)))).2).2)
       .br (r5) (
        .leaf (.inr (.inr ((a0, ()), (808, ()), ())))) (
        let x6 : Int := IntKind.wrap .i64 (a3 + 1)
        .leaf (.inl ((a0, ()), (a1, ()), (a2, ()), (x6, ()), ()))))))) .fail) (
   .leaf (.inr (.inl ((a0, ()), ()))))
def step_robot_Check_L2 : Sl ss_robot_Check_L2 → Option (Sl ss_robot_Check_L2 ⊕ Outs os_robot_Check_L2) := fun x => (t_robot_Check_L2 x.1.1 x.2.1.1 x.2.2.1.1 x.2.2.2.1.1).optA id
theorem run_robot_Check_L2 : ∀ (x : Sl ss_robot_Check_L2) (vs : Nat → Value), run (mkC gtys geqs [(33, hd_robot_between), (34, hd_robot_long)] [] noLoops) 200 21 (loopBody 2 (Tryz.f21.body.getD .skip)) (mkSt ss_robot_Check_L2 x (baseT 70 [] [] vs)) (endK ss_robot_Check_L2 os_robot_Check_L2 70 []) = (t_robot_Check_L2 x.1.1 x.2.1.1 x.2.2.1.1 x.2.2.2.1.1).optA fun r => (r, [].map (keptA [] vs)) := by
  intro x vs; kernel_rfl
instance inh_robot_Check_L2 : Inhabited (Outs os_robot_Check_L2) := ⟨outsDflt os_robot_Check_L2⟩
def dom_robot_Check_L2 (x : Sl ss_robot_Check_L2) : Bool := (loopN step_robot_Check_L2 rounds x).isSome
def val_robot_Check_L2 (x : Sl ss_robot_Check_L2) : Outs os_robot_Check_L2 := (loopN step_robot_Check_L2 rounds x).getD default
def loop_robot_Check_L2 : LoopD := mkLoop ss_robot_Check_L2 os_robot_Check_L2 70 [] [] step_robot_Check_L2 dom_robot_Check_L2 val_robot_Check_L2 (loop_hv step_robot_Check_L2)
theorem lok_robot_Check_L2 : LoopOk Tryz.prog (loopLH loop_robot_Check_L2 2) 2 (.loop (loopBody 2 (Tryz.f21.body.getD .skip))) := loop_in (D := loop_robot_Check_L2) (n := 200) (cur := 21) (mkC_ok gtys_ok geqs_ok (fns_cons ok_robot_between (fns_cons ok_robot_long (fns_nil _))) (inl_nil _) noLoops_ok mixed) Tryz.func21 (by kernel_rfl) (turns_of run_robot_Check_L2) (by kernel_rfl) (by kernel_rfl) (by kernel_rfl)

/- armplan/robot.Check -/
def t_robot_Check (a0 : DRobot) : Tr Int :=
  let x1 : Bool := decide (((a0.1.length : Nat) : Int) < 1)
  .br (x1) (
   .leaf 801) (
   let x2 : Bool := decide (10 < ((a0.1.length : Nat) : Int))
   .br (x2) (
    .leaf 801) (
    let r3 : Outs os_robot_Check_L0 := val_robot_Check_L0 ((a0, ()), (a0.1, ()), (((a0.1.length : Nat) : Int), ()), (0, ()), ())
    .br (dom_robot_Check_L0 ((a0, ()), (a0.1, ()), (((a0.1.length : Nat) : Int), ()), (0, ()), ())) (
     let r4 := getL r3
     let r5 := getR r3
     .br (isL r3) (
      let y6 : DRobot := r4.1.1
      let x7 : Bool := decide (32 < ((y6.2.length : Nat) : Int))
      .br (x7) (
       .leaf 808) (
       let r8 : Outs os_robot_Check_L2 := val_robot_Check_L2 ((y6, ()), (y6.2, ()), (((y6.2.length : Nat) : Int), ()), (0, ()), ())
       .br (dom_robot_Check_L2 ((y6, ()), (y6.2, ()), (((y6.2.length : Nat) : Int), ()), (0, ()), ())) (
        let r9 := getL r8
        let r10 := getR r8
        .br (isL r8) (
         let y11 : DRobot := r9.1.1
         .leaf 0) (
         let y12 : DRobot := r10.1.1
         let y13 : Int := r10.2.1.1
         .leaf y13)) .fail)) (
      let y14 : DRobot := r5.1.1
      let y15 : Int := r5.2.1.1
      .leaf y15)) .fail))
def robot_Check (a0 : DRobot) : Int := (t_robot_Check a0).val
def dom_robot_Check (a0 : DRobot) : Bool := (t_robot_Check a0).dom
theorem run_robot_Check : ∀ x, runF (mkC gtys geqs [] [] (lpOne 21 0 (loopLH loop_robot_Check_L0 0) (lpOne 21 2 (loopLH loop_robot_Check_L2 2) noLoops))) 200 21 Tryz.f21 (argsA [TRobot] x) [] (fun v h => toRes h [.int .i64] v) = (t_robot_Check x.1).optA (fun r => (r, ())) := by
  intro x; kernel_rfl
theorem fn_robot_Check : FnOk Tryz.prog 21 [TRobot] [.int .i64] (fun x => bif dom_robot_Check x.1 then some ((fun r => (r, ())) (robot_Check x.1)) else none) :=
  fn_part (t := fun (x : Ar [TRobot]) => t_robot_Check x.1) (R := Int) (Ts := [.int .i64]) (mk := (fun r => (r, ()))) (mkC_ok gtys_ok geqs_ok (fns_nil _) (inl_nil _) (lpOne_ok (b := loopBody 0 (Tryz.f21.body.getD .skip)) Tryz.func21 (by kernel_rfl) lok_robot_Check_L0 (lpOne_ok (b := loopBody 2 (Tryz.f21.body.getD .skip)) Tryz.func21 (by kernel_rfl) lok_robot_Check_L2 noLoops_ok)) mixed) Tryz.func21 run_robot_Check
def hd_robot_Check : Hd := guardHd [TRobot] [.int .i64] (fun x => dom_robot_Check x.1) (fun x => (fun r => (r, ())) (robot_Check x.1))
theorem ok_robot_Check : HdOk Tryz.prog 21 hd_robot_Check.sem ∧ Enters Tryz.prog 21 := guard_ok fn_robot_Check Tryz.func21 (by kernel_rfl) (by kernel_rfl)

/- armplan/armplanref6.Near -/
def t_armplanref6_Near (a0 : DVec) (a1 : Int) : Tr Bool :=
  let x1 : Int := IntKind.wrap .i64 (0 - a1)
  let x2 : Bool := decide (a0.1 < x1)
  .br (x2) (
   .leaf false) (
   let x3 : Bool := decide (a1 < a0.1)
   .br (x3) (
    .leaf false) (
    let x4 : Int := IntKind.wrap .i64 (0 - a1)
    let x5 : Bool := decide (a0.2.1 < x4)
    .br (x5) (
     .leaf false) (
     let x6 : Bool := decide (a1 < a0.2.1)
     .br (x6) (
      .leaf false) (
      let x7 : Int := IntKind.wrap .i64 (0 - a1)
      let x8 : Bool := decide (a0.2.2 < x7)
      .br (x8) (
       .leaf false) (
       let x9 : Bool := decide (a1 < a0.2.2)
       .br (x9) (
        .leaf false) (
        .leaf true))))))
def armplanref6_Near (a0 : DVec) (a1 : Int) : Bool := (t_armplanref6_Near a0 a1).val
theorem run_armplanref6_Near : ∀ x, runF (mkC gtys geqs [] [] noLoops) 200 24 Tryz.f24 (argsA [TVec, .int .i64] x) [] (fun v h => toRes h [.bool] v) = (t_armplanref6_Near x.1 x.2.1).optA (fun r => (r, ())) := by
  intro x; kernel_rfl
theorem fn_armplanref6_Near : FnOk Tryz.prog 24 [TVec, .int .i64] [.bool] (fun x => some ((fun r => (r, ())) (armplanref6_Near x.1 x.2.1))) :=
  fn_tot (t := fun (x : Ar [TVec, .int .i64]) => t_armplanref6_Near x.1 x.2.1) (R := Bool) (Ts := [.bool]) (mk := (fun r => (r, ()))) (mkC_ok gtys_ok geqs_ok (fns_nil _) (inl_nil _) noLoops_ok mixed) Tryz.func24 run_armplanref6_Near (fun _ => by kernel_rfl)
def hd_armplanref6_Near : Hd := dataHd [TVec, .int .i64] [.bool] (fun x => some ((fun r => (r, ())) (armplanref6_Near x.1 x.2.1)))
theorem ok_armplanref6_Near : HdOk Tryz.prog 24 hd_armplanref6_Near.sem ∧ Enters Tryz.prog 24 := data_ok fn_armplanref6_Near Tryz.func24 (by kernel_rfl) (by kernel_rfl)

/- armplan/armplanref6.between -/
def t_armplanref6_between (a0 : Int) (a1 : Int) (a2 : Int) : Tr Bool :=
  let x1 : Bool := decide (a1 ≤ a0)
  .br (x1) (
   let x2 : Bool := decide (a0 ≤ a2)
   .leaf x2) (
   .leaf false)
def armplanref6_between (a0 : Int) (a1 : Int) (a2 : Int) : Bool := (t_armplanref6_between a0 a1 a2).val
theorem run_armplanref6_between : ∀ x, runF (mkC gtys geqs [] [] noLoops) 200 37 Tryz.f37 (argsA [.int .i64, .int .i64, .int .i64] x) [] (fun v h => toRes h [.bool] v) = (t_armplanref6_between x.1 x.2.1 x.2.2.1).optA (fun r => (r, ())) := by
  intro x; kernel_rfl
theorem fn_armplanref6_between : FnOk Tryz.prog 37 [.int .i64, .int .i64, .int .i64] [.bool] (fun x => some ((fun r => (r, ())) (armplanref6_between x.1 x.2.1 x.2.2.1))) :=
  fn_tot (t := fun (x : Ar [.int .i64, .int .i64, .int .i64]) => t_armplanref6_between x.1 x.2.1 x.2.2.1) (R := Bool) (Ts := [.bool]) (mk := (fun r => (r, ()))) (mkC_ok gtys_ok geqs_ok (fns_nil _) (inl_nil _) noLoops_ok mixed) Tryz.func37 run_armplanref6_between (fun _ => by kernel_rfl)
def hd_armplanref6_between : Hd := dataHd [.int .i64, .int .i64, .int .i64] [.bool] (fun x => some ((fun r => (r, ())) (armplanref6_between x.1 x.2.1 x.2.2.1)))
theorem ok_armplanref6_between : HdOk Tryz.prog 37 hd_armplanref6_between.sem ∧ Enters Tryz.prog 37 := data_ok fn_armplanref6_between Tryz.func37 (by kernel_rfl) (by kernel_rfl)

/- loop 0 of armplan/armplanref6.Name -/
abbrev ss_armplanref6_Name_L0 : List Slot := [⟨[0], false, false, [.d (.str)]⟩, ⟨[3], false, false, [.d (.int .i64)]⟩]
abbrev os_armplanref6_Name_L0 : List (Exit × List Slot) := [(.exit 0, []), (.ret, [⟨[2], false, false, [.d (.bool)]⟩])]
def t_armplanref6_Name_L0 (a0 : ByteArray) (a1 : Int) : Tr (Sl ss_armplanref6_Name_L0 ⊕ Outs os_armplanref6_Name_L0) :=
  let x1 : Bool := decide (a1 < ((a0.size : Nat) : Int))
  .br (x1) (
   let x2 : Int := byteAt a0 a1
   .br (decide (0 ≤ a1) && decide (a1 < ((a0.size : Nat) : Int))) (
    let x3 : Bool := decide (97 ≤ x2)
    .br (x3) (
     let x4 : Int := byteAt a0 a1
     .br (decide (0 ≤ a1) && decide (a1 < ((a0.size : Nat) : Int))) (
      let x5 : Bool := decide (x4 ≤ 122)
      .br ((!x5)) (
       let x6 : Bool := decide (a1 = 0)
       .br (x6) (
        .leaf (.inr (.inr ((false, ()), ())))) (
        let x7 : Int := byteAt a0 a1
        .br (decide (0 ≤ a1) && decide (a1 < ((a0.size : Nat) : Int))) (
         let x8 : Bool := !decide (x7 = 95)
         .br (x8) (
          let x9 : Int := byteAt a0 a1
          .br (decide (0 ≤ a1) && decide (a1 < ((a0.size : Nat) : Int))) (
           let x10 : Bool := decide (x9 < 48)
           .br (x10) (
            .leaf (.inr (.inr ((false, ()), ())))) (
            let x11 : Int := byteAt a0 a1
            .br (decide (0 ≤ a1) && decide (a1 < ((a0.size : Nat) : Int))) (
             let x12 : Bool := decide (57 < x11)
             .br (x12) (
              .leaf (.inr (.inr ((false, ()), ())))) (
              let x13 : Int := IntKind.wrap .i64 (a1 + 1)
              .leaf (.inl ((a0, ()), (x13, ()), ())))) .fail)) .fail) (
          let x14 : Int := IntKind.wrap .i64 (a1 + 1)
          .leaf (.inl ((a0, ()), (x14, ()), ())))) .fail)) (
       let x15 : Int := IntKind.wrap .i64 (a1 + 1)
       .leaf (.inl ((a0, ()), (x15, ()), ())))) .fail) (
     let x16 : Bool := decide (a1 = 0)
     .br (x16) (
      .leaf (.inr (.inr ((false, ()), ())))) (
      let x17 : Int := byteAt a0 a1
      .br (decide (0 ≤ a1) && decide (a1 < ((a0.size : Nat) : Int))) (
       let x18 : Bool := !decide (x17 = 95)
       .br (x18) (
        let x19 : Int := byteAt a0 a1
        .br (decide (0 ≤ a1) && decide (a1 < ((a0.size : Nat) : Int))) (
         let x20 : Bool := decide (x19 < 48)
         .br (x20) (
          .leaf (.inr (.inr ((false, ()), ())))) (
          let x21 : Int := byteAt a0 a1
          .br (decide (0 ≤ a1) && decide (a1 < ((a0.size : Nat) : Int))) (
           let x22 : Bool := decide (57 < x21)
           .br (x22) (
            .leaf (.inr (.inr ((false, ()), ())))) (
            let x23 : Int := IntKind.wrap .i64 (a1 + 1)
            .leaf (.inl ((a0, ()), (x23, ()), ())))) .fail)) .fail) (
        let x24 : Int := IntKind.wrap .i64 (a1 + 1)
        .leaf (.inl ((a0, ()), (x24, ()), ())))) .fail))) .fail) (
   .leaf (.inr (.inl ())))
def step_armplanref6_Name_L0 : Sl ss_armplanref6_Name_L0 → Option (Sl ss_armplanref6_Name_L0 ⊕ Outs os_armplanref6_Name_L0) := fun x => (t_armplanref6_Name_L0 x.1.1 x.2.1.1).optA id
theorem run_armplanref6_Name_L0 : ∀ (x : Sl ss_armplanref6_Name_L0) (vs : Nat → Value), run (mkC gtys geqs [] [] noLoops) 200 56 (loopBody 0 (Tryz.f56.body.getD .skip)) (mkSt ss_armplanref6_Name_L0 x (baseT 57 [] [] vs)) (endK ss_armplanref6_Name_L0 os_armplanref6_Name_L0 57 []) = (t_armplanref6_Name_L0 x.1.1 x.2.1.1).optA fun r => (r, [].map (keptA [] vs)) := by
  intro x vs; kernel_rfl
instance inh_armplanref6_Name_L0 : Inhabited (Outs os_armplanref6_Name_L0) := ⟨outsDflt os_armplanref6_Name_L0⟩
def dom_armplanref6_Name_L0 (x : Sl ss_armplanref6_Name_L0) : Bool := (loopN step_armplanref6_Name_L0 rounds x).isSome
def val_armplanref6_Name_L0 (x : Sl ss_armplanref6_Name_L0) : Outs os_armplanref6_Name_L0 := (loopN step_armplanref6_Name_L0 rounds x).getD default
def loop_armplanref6_Name_L0 : LoopD := mkLoop ss_armplanref6_Name_L0 os_armplanref6_Name_L0 57 [] [] step_armplanref6_Name_L0 dom_armplanref6_Name_L0 val_armplanref6_Name_L0 (loop_hv step_armplanref6_Name_L0)
theorem lok_armplanref6_Name_L0 : LoopOk Tryz.prog (loopLH loop_armplanref6_Name_L0 0) 0 (.loop (loopBody 0 (Tryz.f56.body.getD .skip))) := loop_in (D := loop_armplanref6_Name_L0) (n := 200) (cur := 56) (mkC_ok gtys_ok geqs_ok (fns_nil _) (inl_nil _) noLoops_ok mixed) Tryz.func56 (by kernel_rfl) (turns_of run_armplanref6_Name_L0) (by kernel_rfl) (by kernel_rfl) (by kernel_rfl)

/- armplan/armplanref6.Name -/
def t_armplanref6_Name (a0 : ByteArray) : Tr Bool :=
  let x1 : Bool := decide (((a0.size : Nat) : Int) < 1)
  .br (x1) (
   .leaf false) (
   let x2 : Bool := decide (16 < ((a0.size : Nat) : Int))
   .br (x2) (
    .leaf false) (
    let x3 : Bool := (a0.toList == (ByteArray.mk #[119, 111, 114, 108, 100]).toList)
    .br (x3) (
     .leaf false) (
     let r4 : Outs os_armplanref6_Name_L0 := val_armplanref6_Name_L0 ((a0, ()), (0, ()), ())
     .br (dom_armplanref6_Name_L0 ((a0, ()), (0, ()), ())) (
      let r5 := getL r4
      let r6 := getR r4
      .br (isL r4) (
       .leaf true) (
       let y7 : Bool := r6.1.1
       .leaf y7)) .fail)))
def armplanref6_Name (a0 : ByteArray) : Bool := (t_armplanref6_Name a0).val
def dom_armplanref6_Name (a0 : ByteArray) : Bool := (t_armplanref6_Name a0).dom
theorem run_armplanref6_Name : ∀ x, runF (mkC gtys geqs [] [] (lpOne 56 0 (loopLH loop_armplanref6_Name_L0 0) noLoops)) 200 56 Tryz.f56 (argsA [.str] x) [] (fun v h => toRes h [.bool] v) = (t_armplanref6_Name x.1).optA (fun r => (r, ())) := by
  intro x; kernel_rfl
theorem fn_armplanref6_Name : FnOk Tryz.prog 56 [.str] [.bool] (fun x => bif dom_armplanref6_Name x.1 then some ((fun r => (r, ())) (armplanref6_Name x.1)) else none) :=
  fn_part (t := fun (x : Ar [.str]) => t_armplanref6_Name x.1) (R := Bool) (Ts := [.bool]) (mk := (fun r => (r, ()))) (mkC_ok gtys_ok geqs_ok (fns_nil _) (inl_nil _) (lpOne_ok (b := loopBody 0 (Tryz.f56.body.getD .skip)) Tryz.func56 (by kernel_rfl) lok_armplanref6_Name_L0 noLoops_ok) mixed) Tryz.func56 run_armplanref6_Name
def hd_armplanref6_Name : Hd := guardHd [.str] [.bool] (fun x => dom_armplanref6_Name x.1) (fun x => (fun r => (r, ())) (armplanref6_Name x.1))
theorem ok_armplanref6_Name : HdOk Tryz.prog 56 hd_armplanref6_Name.sem ∧ Enters Tryz.prog 56 := guard_ok fn_armplanref6_Name Tryz.func56 (by kernel_rfl) (by kernel_rfl)

/- armplan/armplanref6.reach -/
def t_armplanref6_reach (a0 : Int) : Tr Int :=
  let x1 : Bool := decide (a0 = 0)
  .br (x1) (
   .leaf 0) (
   let x2 : Bool := decide (a0 = 1)
   .br (x2) (
    .leaf 524288) (
    let x3 : Bool := decide (a0 = 2)
    .br (x3) (
     .leaf 524288) (
     let x4 : Bool := decide (a0 = 3)
     .br (x4) (
      .leaf 524288) (
      .leaf 4194304))))
def armplanref6_reach (a0 : Int) : Int := (t_armplanref6_reach a0).val
theorem run_armplanref6_reach : ∀ x, runF (mkC gtys geqs [] [] noLoops) 200 57 Tryz.f57 (argsA [.int .i64] x) [] (fun v h => toRes h [.int .i64] v) = (t_armplanref6_reach x.1).optA (fun r => (r, ())) := by
  intro x; kernel_rfl
theorem fn_armplanref6_reach : FnOk Tryz.prog 57 [.int .i64] [.int .i64] (fun x => some ((fun r => (r, ())) (armplanref6_reach x.1))) :=
  fn_tot (t := fun (x : Ar [.int .i64]) => t_armplanref6_reach x.1) (R := Int) (Ts := [.int .i64]) (mk := (fun r => (r, ()))) (mkC_ok gtys_ok geqs_ok (fns_nil _) (inl_nil _) noLoops_ok mixed) Tryz.func57 run_armplanref6_reach (fun _ => by kernel_rfl)
def hd_armplanref6_reach : Hd := dataHd [.int .i64] [.int .i64] (fun x => some ((fun r => (r, ())) (armplanref6_reach x.1)))
theorem ok_armplanref6_reach : HdOk Tryz.prog 57 hd_armplanref6_reach.sem ∧ Enters Tryz.prog 57 := data_ok fn_armplanref6_reach Tryz.func57 (by kernel_rfl) (by kernel_rfl)

/- loop 0 of armplan/armplanref6.checkJoint -/
abbrev ss_armplanref6_checkJoint_L0 : List Slot := [⟨[5], true, false, [.d (TJoint)]⟩, ⟨[0], false, false, [.d (.list (TJoint))]⟩, ⟨[1], false, false, [.d (.int .i64)]⟩, ⟨[6], false, false, [.d (.int .i64)]⟩]
abbrev os_armplanref6_checkJoint_L0 : List (Exit × List Slot) := [(.exit 0, [⟨[5], true, false, [.d (TJoint)]⟩, ⟨[1], false, false, [.d (.int .i64)]⟩]), (.ret, [⟨[5], true, false, [.d (TJoint)]⟩, ⟨[4], false, false, [.d (.int .i64)]⟩])]
def t_armplanref6_checkJoint_L0 (a0 : DJoint) (a1 : List (DJoint)) (a2 : Int) (a3 : Int) : Tr (Sl ss_armplanref6_checkJoint_L0 ⊕ Outs os_armplanref6_checkJoint_L0) :=
  let x1 : Bool := decide (a3 < a2)
  .br (x1) (
   .br (decide (0 ≤ a3) && decide (a3 < ((a1.length : Nat) : Int))) (
    let x2 : Bool := ((((List.getD a1 a3.toNat (Ty.dflt (TJoint)))).1).toList == a0.1.toList)
    .br (x2) (
     .leaf (.inr (.inr ((a0, ()), (802, ()), ())))) (
     let x3 : Int := IntKind.wrap .i64 (a3 + 1)
     .leaf (.inl ((a0, ()), (a1, ()), (a2, ()), (x3, ()), ())))) .fail) (
   .leaf (.inr (.inl ((a0, ()), (a2, ()), ()))))
def step_armplanref6_checkJoint_L0 : Sl ss_armplanref6_checkJoint_L0 → Option (Sl ss_armplanref6_checkJoint_L0 ⊕ Outs os_armplanref6_checkJoint_L0) := fun x => (t_armplanref6_checkJoint_L0 x.1.1 x.2.1.1 x.2.2.1.1 x.2.2.2.1.1).optA id
theorem run_armplanref6_checkJoint_L0 : ∀ (x : Sl ss_armplanref6_checkJoint_L0) (vs : Nat → Value), run (mkC gtys geqs [] [] noLoops) 200 36 (loopBody 0 (Tryz.f36.body.getD .skip)) (mkSt ss_armplanref6_checkJoint_L0 x (baseT 93 [] [] vs)) (endK ss_armplanref6_checkJoint_L0 os_armplanref6_checkJoint_L0 93 []) = (t_armplanref6_checkJoint_L0 x.1.1 x.2.1.1 x.2.2.1.1 x.2.2.2.1.1).optA fun r => (r, [].map (keptA [] vs)) := by
  intro x vs; kernel_rfl
instance inh_armplanref6_checkJoint_L0 : Inhabited (Outs os_armplanref6_checkJoint_L0) := ⟨outsDflt os_armplanref6_checkJoint_L0⟩
def dom_armplanref6_checkJoint_L0 (x : Sl ss_armplanref6_checkJoint_L0) : Bool := (loopN step_armplanref6_checkJoint_L0 rounds x).isSome
def val_armplanref6_checkJoint_L0 (x : Sl ss_armplanref6_checkJoint_L0) : Outs os_armplanref6_checkJoint_L0 := (loopN step_armplanref6_checkJoint_L0 rounds x).getD default
def loop_armplanref6_checkJoint_L0 : LoopD := mkLoop ss_armplanref6_checkJoint_L0 os_armplanref6_checkJoint_L0 93 [] [] step_armplanref6_checkJoint_L0 dom_armplanref6_checkJoint_L0 val_armplanref6_checkJoint_L0 (loop_hv step_armplanref6_checkJoint_L0)
theorem lok_armplanref6_checkJoint_L0 : LoopOk Tryz.prog (loopLH loop_armplanref6_checkJoint_L0 0) 0 (.loop (loopBody 0 (Tryz.f36.body.getD .skip))) := loop_in (D := loop_armplanref6_checkJoint_L0) (n := 200) (cur := 36) (mkC_ok gtys_ok geqs_ok (fns_nil _) (inl_nil _) noLoops_ok mixed) Tryz.func36 (by kernel_rfl) (turns_of run_armplanref6_checkJoint_L0) (by kernel_rfl) (by kernel_rfl) (by kernel_rfl)

/- armplan/armplanref6.checkJoint -/
def t_armplanref6_checkJoint (a0 : List (DJoint)) (a1 : Int) : Tr Int :=
  .br (decide (0 ≤ a1) && decide (a1 < ((a0.length : Nat) : Int))) (
   let r1 : Bool := armplanref6_Name (((List.getD a0 a1.toNat (Ty.dflt (TJoint)))).1)
   .br (dom_armplanref6_Name (((List.getD a0 a1.toNat (Ty.dflt (TJoint)))).1)) (
    .br ((!r1)) (
     .leaf 802) (
     let r2 : Outs os_armplanref6_checkJoint_L0 := val_armplanref6_checkJoint_L0 (((List.getD a0 a1.toNat (Ty.dflt (TJoint))), ()), (a0, ()), (a1, ()), (0, ()), ())
     .br (dom_armplanref6_checkJoint_L0 (((List.getD a0 a1.toNat (Ty.dflt (TJoint))), ()), (a0, ()), (a1, ()), (0, ()), ())) (
      let r3 := getL r2
      let r4 := getR r2
      .br (isL r2) (
       let y5 : DJoint := r3.1.1
       let y6 : Int := r3.2.1.1
       let x7 : Bool := decide (y5.2.1 < 0)
       .br (x7) (
        .leaf 803) (
        let x8 : Bool := decide (6 < y5.2.1)
        .br (x8) (
         .leaf 803) (
         let x9 : Bool := decide (y5.2.2.1 < (-1))
         .br (x9) (
          .leaf 804) (
          let x10 : Bool := decide (y6 ≤ y5.2.2.1)
          .br (x10) (
           .leaf 804) (
           let r11 : Bool := armplanref6_Near y5.2.2.2.1 4194304
           .br ((!r11)) (
            .leaf 805) (
            let r12 : Int := armplanref6_reach y5.2.1
            let x13 : Bool := decide (y5.2.2.2.2.2.1 < y5.2.2.2.2.1)
            .br (x13) (
             .leaf 806) (
             let x14 : Int := IntKind.wrap .i64 (0 - r12)
             let x15 : Bool := decide (y5.2.2.2.2.1 < x14)
             .br (x15) (
              .leaf 806) (
              let x16 : Bool := decide (r12 < y5.2.2.2.2.2.1)
              .br (x16) (
               .leaf 806) (
               let r17 : Bool := armplanref6_between y5.2.2.2.2.2.2.1 1 1024
               .br ((!r17)) (
                .leaf 807) (
                let r18 : Bool := armplanref6_between y5.2.2.2.2.2.2.2.1 1 1048576
                .br ((!r18)) (
                 .leaf 807) (
                 let r19 : Bool := armplanref6_between y5.2.2.2.2.2.2.2.2.1 1 1048576
                 .br ((!r19)) (
                  .leaf 807) (
                  let r20 : Bool := armplanref6_between y5.2.2.2.2.2.2.2.2.2 1 1099511627776
                  .br ((!r20)) (
                   .leaf 807) (
                   .leaf 0))))))))))))) (
       let y21 : DJoint := r4.1.1
       let y22 : Int := r4.2.1.1
       .leaf y22)) .fail)) .fail) .fail
def armplanref6_checkJoint (a0 : List (DJoint)) (a1 : Int) : Int := (t_armplanref6_checkJoint a0 a1).val
def dom_armplanref6_checkJoint (a0 : List (DJoint)) (a1 : Int) : Bool := (t_armplanref6_checkJoint a0 a1).dom
theorem run_armplanref6_checkJoint : ∀ x, runF (mkC gtys geqs [(24, hd_armplanref6_Near), (37, hd_armplanref6_between), (56, hd_armplanref6_Name), (57, hd_armplanref6_reach)] [] (lpOne 36 0 (loopLH loop_armplanref6_checkJoint_L0 0) noLoops)) 200 36 Tryz.f36 (argsA [.list (TJoint), .int .i64] x) [] (fun v h => toRes h [.int .i64] v) = (t_armplanref6_checkJoint x.1 x.2.1).optA (fun r => (r, ())) := by
  intro x; kernel_rfl
theorem fn_armplanref6_checkJoint : FnOk Tryz.prog 36 [.list (TJoint), .int .i64] [.int .i64] (fun x => bif dom_armplanref6_checkJoint x.1 x.2.1 then some ((fun r => (r, ())) (armplanref6_checkJoint x.1 x.2.1)) else none) :=
  fn_part (t := fun (x : Ar [.list (TJoint), .int .i64]) => t_armplanref6_checkJoint x.1 x.2.1) (R := Int) (Ts := [.int .i64]) (mk := (fun r => (r, ()))) (mkC_ok gtys_ok geqs_ok (fns_cons ok_armplanref6_Near (fns_cons ok_armplanref6_between (fns_cons ok_armplanref6_Name (fns_cons ok_armplanref6_reach (fns_nil _))))) (inl_nil _) (lpOne_ok (b := loopBody 0 (Tryz.f36.body.getD .skip)) Tryz.func36 (by kernel_rfl) lok_armplanref6_checkJoint_L0 noLoops_ok) mixed) Tryz.func36 run_armplanref6_checkJoint
def hd_armplanref6_checkJoint : Hd := guardHd [.list (TJoint), .int .i64] [.int .i64] (fun x => dom_armplanref6_checkJoint x.1 x.2.1) (fun x => (fun r => (r, ())) (armplanref6_checkJoint x.1 x.2.1))
theorem ok_armplanref6_checkJoint : HdOk Tryz.prog 36 hd_armplanref6_checkJoint.sem ∧ Enters Tryz.prog 36 := guard_ok fn_armplanref6_checkJoint Tryz.func36 (by kernel_rfl) (by kernel_rfl)

/- loop 0 of armplan/armplanref6.CheckRobot -/
abbrev ss_armplanref6_CheckRobot_L0 : List Slot := [⟨[1], true, false, [.d (TRobot)]⟩, ⟨[3], false, false, [.d (.int .i64)]⟩]
abbrev os_armplanref6_CheckRobot_L0 : List (Exit × List Slot) := [(.exit 0, [⟨[1], true, false, [.d (TRobot)]⟩]), (.ret, [⟨[1], true, false, [.d (TRobot)]⟩, ⟨[2], false, false, [.d (.int .i64)]⟩])]
def t_armplanref6_CheckRobot_L0 (a0 : DRobot) (a1 : Int) : Tr (Sl ss_armplanref6_CheckRobot_L0 ⊕ Outs os_armplanref6_CheckRobot_L0) :=
  let x1 : Bool := decide (a1 < ((a0.1.length : Nat) : Int))
  .br (x1) (
   let r2 : Int := armplanref6_checkJoint a0.1 a1
   .br (dom_armplanref6_checkJoint a0.1 a1) (
    let x3 : Bool := !decide (r2 = 0)
    .br (x3) (
     .leaf (.inr (.inr ((a0, ()), (r2, ()), ())))) (
     let x4 : Int := IntKind.wrap .i64 (a1 + 1)
     .leaf (.inl ((a0, ()), (x4, ()), ())))) .fail) (
   .leaf (.inr (.inl ((a0, ()), ()))))
def step_armplanref6_CheckRobot_L0 : Sl ss_armplanref6_CheckRobot_L0 → Option (Sl ss_armplanref6_CheckRobot_L0 ⊕ Outs os_armplanref6_CheckRobot_L0) := fun x => (t_armplanref6_CheckRobot_L0 x.1.1 x.2.1.1).optA id
theorem run_armplanref6_CheckRobot_L0 : ∀ (x : Sl ss_armplanref6_CheckRobot_L0) (vs : Nat → Value), run (mkC gtys geqs [(36, hd_armplanref6_checkJoint)] [] noLoops) 200 23 (loopBody 0 (Tryz.f23.body.getD .skip)) (mkSt ss_armplanref6_CheckRobot_L0 x (baseT 70 [] [] vs)) (endK ss_armplanref6_CheckRobot_L0 os_armplanref6_CheckRobot_L0 70 []) = (t_armplanref6_CheckRobot_L0 x.1.1 x.2.1.1).optA fun r => (r, [].map (keptA [] vs)) := by
  intro x vs; kernel_rfl
instance inh_armplanref6_CheckRobot_L0 : Inhabited (Outs os_armplanref6_CheckRobot_L0) := ⟨outsDflt os_armplanref6_CheckRobot_L0⟩
def dom_armplanref6_CheckRobot_L0 (x : Sl ss_armplanref6_CheckRobot_L0) : Bool := (loopN step_armplanref6_CheckRobot_L0 rounds x).isSome
def val_armplanref6_CheckRobot_L0 (x : Sl ss_armplanref6_CheckRobot_L0) : Outs os_armplanref6_CheckRobot_L0 := (loopN step_armplanref6_CheckRobot_L0 rounds x).getD default
def loop_armplanref6_CheckRobot_L0 : LoopD := mkLoop ss_armplanref6_CheckRobot_L0 os_armplanref6_CheckRobot_L0 70 [] [] step_armplanref6_CheckRobot_L0 dom_armplanref6_CheckRobot_L0 val_armplanref6_CheckRobot_L0 (loop_hv step_armplanref6_CheckRobot_L0)
theorem lok_armplanref6_CheckRobot_L0 : LoopOk Tryz.prog (loopLH loop_armplanref6_CheckRobot_L0 0) 0 (.loop (loopBody 0 (Tryz.f23.body.getD .skip))) := loop_in (D := loop_armplanref6_CheckRobot_L0) (n := 200) (cur := 23) (mkC_ok gtys_ok geqs_ok (fns_cons ok_armplanref6_checkJoint (fns_nil _)) (inl_nil _) noLoops_ok mixed) Tryz.func23 (by kernel_rfl) (turns_of run_armplanref6_CheckRobot_L0) (by kernel_rfl) (by kernel_rfl) (by kernel_rfl)

/- loop 2 of armplan/armplanref6.CheckRobot -/
abbrev ss_armplanref6_CheckRobot_L2 : List Slot := [⟨[1], true, false, [.d (TRobot)]⟩, ⟨[5], false, false, [.d (.int .i64)]⟩]
abbrev os_armplanref6_CheckRobot_L2 : List (Exit × List Slot) := [(.exit 2, [⟨[1], true, false, [.d (TRobot)]⟩]), (.ret, [⟨[1], true, false, [.d (TRobot)]⟩, ⟨[2], false, false, [.d (.int .i64)]⟩])]
def t_armplanref6_CheckRobot_L2 (a0 : DRobot) (a1 : Int) : Tr (Sl ss_armplanref6_CheckRobot_L2 ⊕ Outs os_armplanref6_CheckRobot_L2) :=
  let x1 : Bool := decide (a1 < ((a0.2.length : Nat) : Int))
  .br (x1) (
   .br (decide (0 ≤ a1) && decide (a1 < ((a0.2.length : Nat) : Int))) (
    let x2 : Bool := decide (((List.getD a0.2 a1.toNat (Ty.dflt (TMass)))).1 < 0)
    .br (x2) (
     .leaf (.inr (.inr ((a0, ()), (808, ()), ())))) (
     let x3 : Bool := decide (((a0.1.length : Nat) : Int) ≤ ((List.getD a0.2 a1.toNat (Ty.dflt (TMass)))).1)
     .br (x3) (
      .leaf (.inr (.inr ((a0, ()), (808, ()), ())))) (
      let r4 : Bool := armplanref6_between ((((List.getD a0.2 a1.toNat (Ty.dflt (TMass)))).2).1) 1 65536
      .br ((!r4)) (
       .leaf (.inr (.inr ((a0, ()), (808, ()), ())))) (
       let r5 : Bool := armplanref6_Near ((((List.getD a0.2 a1.toNat (Ty.dflt (TMass)))).2).2) 4194304
       .br ((!r5)) (
        .leaf (.inr (.inr ((a0, ()), (808, ()), ())))) (
        let x6 : Int := IntKind.wrap .i64 (a1 + 1)
        .leaf (.inl ((a0, ()), (x6, ()), ()))))))) .fail) (
   .leaf (.inr (.inl ((a0, ()), ()))))
def step_armplanref6_CheckRobot_L2 : Sl ss_armplanref6_CheckRobot_L2 → Option (Sl ss_armplanref6_CheckRobot_L2 ⊕ Outs os_armplanref6_CheckRobot_L2) := fun x => (t_armplanref6_CheckRobot_L2 x.1.1 x.2.1.1).optA id
theorem run_armplanref6_CheckRobot_L2 : ∀ (x : Sl ss_armplanref6_CheckRobot_L2) (vs : Nat → Value), run (mkC gtys geqs [(24, hd_armplanref6_Near), (37, hd_armplanref6_between)] [] noLoops) 200 23 (loopBody 2 (Tryz.f23.body.getD .skip)) (mkSt ss_armplanref6_CheckRobot_L2 x (baseT 70 [] [] vs)) (endK ss_armplanref6_CheckRobot_L2 os_armplanref6_CheckRobot_L2 70 []) = (t_armplanref6_CheckRobot_L2 x.1.1 x.2.1.1).optA fun r => (r, [].map (keptA [] vs)) := by
  intro x vs; kernel_rfl
instance inh_armplanref6_CheckRobot_L2 : Inhabited (Outs os_armplanref6_CheckRobot_L2) := ⟨outsDflt os_armplanref6_CheckRobot_L2⟩
def dom_armplanref6_CheckRobot_L2 (x : Sl ss_armplanref6_CheckRobot_L2) : Bool := (loopN step_armplanref6_CheckRobot_L2 rounds x).isSome
def val_armplanref6_CheckRobot_L2 (x : Sl ss_armplanref6_CheckRobot_L2) : Outs os_armplanref6_CheckRobot_L2 := (loopN step_armplanref6_CheckRobot_L2 rounds x).getD default
def loop_armplanref6_CheckRobot_L2 : LoopD := mkLoop ss_armplanref6_CheckRobot_L2 os_armplanref6_CheckRobot_L2 70 [] [] step_armplanref6_CheckRobot_L2 dom_armplanref6_CheckRobot_L2 val_armplanref6_CheckRobot_L2 (loop_hv step_armplanref6_CheckRobot_L2)
theorem lok_armplanref6_CheckRobot_L2 : LoopOk Tryz.prog (loopLH loop_armplanref6_CheckRobot_L2 2) 2 (.loop (loopBody 2 (Tryz.f23.body.getD .skip))) := loop_in (D := loop_armplanref6_CheckRobot_L2) (n := 200) (cur := 23) (mkC_ok gtys_ok geqs_ok (fns_cons ok_armplanref6_Near (fns_cons ok_armplanref6_between (fns_nil _))) (inl_nil _) noLoops_ok mixed) Tryz.func23 (by kernel_rfl) (turns_of run_armplanref6_CheckRobot_L2) (by kernel_rfl) (by kernel_rfl) (by kernel_rfl)

/- armplan/armplanref6.CheckRobot -/
def t_armplanref6_CheckRobot (a0 : DRobot) : Tr Int :=
  let x1 : Bool := decide (((a0.1.length : Nat) : Int) < 1)
  .br (x1) (
   .leaf 801) (
   let x2 : Bool := decide (10 < ((a0.1.length : Nat) : Int))
   .br (x2) (
    .leaf 801) (
    let r3 : Outs os_armplanref6_CheckRobot_L0 := val_armplanref6_CheckRobot_L0 ((a0, ()), (0, ()), ())
    .br (dom_armplanref6_CheckRobot_L0 ((a0, ()), (0, ()), ())) (
     let r4 := getL r3
     let r5 := getR r3
     .br (isL r3) (
      let y6 : DRobot := r4.1.1
      let x7 : Bool := decide (32 < ((y6.2.length : Nat) : Int))
      .br (x7) (
       .leaf 808) (
       let r8 : Outs os_armplanref6_CheckRobot_L2 := val_armplanref6_CheckRobot_L2 ((y6, ()), (0, ()), ())
       .br (dom_armplanref6_CheckRobot_L2 ((y6, ()), (0, ()), ())) (
        let r9 := getL r8
        let r10 := getR r8
        .br (isL r8) (
         let y11 : DRobot := r9.1.1
         .leaf 0) (
         let y12 : DRobot := r10.1.1
         let y13 : Int := r10.2.1.1
         .leaf y13)) .fail)) (
      let y14 : DRobot := r5.1.1
      let y15 : Int := r5.2.1.1
      .leaf y15)) .fail))
def armplanref6_CheckRobot (a0 : DRobot) : Int := (t_armplanref6_CheckRobot a0).val
def dom_armplanref6_CheckRobot (a0 : DRobot) : Bool := (t_armplanref6_CheckRobot a0).dom
theorem run_armplanref6_CheckRobot : ∀ x, runF (mkC gtys geqs [] [] (lpOne 23 0 (loopLH loop_armplanref6_CheckRobot_L0 0) (lpOne 23 2 (loopLH loop_armplanref6_CheckRobot_L2 2) noLoops))) 200 23 Tryz.f23 (argsA [TRobot] x) [] (fun v h => toRes h [.int .i64] v) = (t_armplanref6_CheckRobot x.1).optA (fun r => (r, ())) := by
  intro x; kernel_rfl
theorem fn_armplanref6_CheckRobot : FnOk Tryz.prog 23 [TRobot] [.int .i64] (fun x => bif dom_armplanref6_CheckRobot x.1 then some ((fun r => (r, ())) (armplanref6_CheckRobot x.1)) else none) :=
  fn_part (t := fun (x : Ar [TRobot]) => t_armplanref6_CheckRobot x.1) (R := Int) (Ts := [.int .i64]) (mk := (fun r => (r, ()))) (mkC_ok gtys_ok geqs_ok (fns_nil _) (inl_nil _) (lpOne_ok (b := loopBody 0 (Tryz.f23.body.getD .skip)) Tryz.func23 (by kernel_rfl) lok_armplanref6_CheckRobot_L0 (lpOne_ok (b := loopBody 2 (Tryz.f23.body.getD .skip)) Tryz.func23 (by kernel_rfl) lok_armplanref6_CheckRobot_L2 noLoops_ok)) mixed) Tryz.func23 run_armplanref6_CheckRobot
def hd_armplanref6_CheckRobot : Hd := guardHd [TRobot] [.int .i64] (fun x => dom_armplanref6_CheckRobot x.1) (fun x => (fun r => (r, ())) (armplanref6_CheckRobot x.1))
theorem ok_armplanref6_CheckRobot : HdOk Tryz.prog 23 hd_armplanref6_CheckRobot.sem ∧ Enters Tryz.prog 23 := guard_ok fn_armplanref6_CheckRobot Tryz.func23 (by kernel_rfl) (by kernel_rfl)

end Go.RX

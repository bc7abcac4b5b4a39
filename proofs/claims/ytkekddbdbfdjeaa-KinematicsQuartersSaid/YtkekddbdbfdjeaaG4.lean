/-
  Names for types of data.
-/
import Derived.Test.YtkekddbdbfdjeaaRu
import Derived.Test.YtkekddbdbfdjeaaG3
import Derived.Test.YtkekddbdbfdjeaaSc
import Derived.Test.YtkekddbdbfdjeaaProg
import Derived.Tactics
import Derived.Tactics2
import Derived.StillTactics
import Derived.LoopTactic
import Derived.Laws.Strings
import Derived.Laws.Strings2
import Derived.Laws.Strings3
import Derived.Laws.RangeAny
namespace Go.RX

abbrev TSource : Ty := .pair (.list (.int .i64)) (.int .i64)
abbrev DSource : Type := (List (Int) × Int)
abbrev TVec : Ty := .pair (.int .i64) (.pair (.int .i64) (.int .i64))
abbrev DVec : Type := (Int × (Int × Int))
abbrev TMass : Ty := .pair (.int .i64) (.pair (.int .i64) (.pair (.int .i64) (.pair (.int .i64) (.int .i64))))
abbrev DMass : Type := (Int × (Int × (Int × (Int × Int))))
abbrev TShape : Ty := .pair (.int .i64) (.pair (.int .i64) (.list (TVec)))
abbrev DShape : Type := (Int × (Int × List (DVec)))
abbrev TIVec : Ty := .pair (.pair (.int .i64) (.int .i64)) (.pair (.pair (.int .i64) (.int .i64)) (.pair (.int .i64) (.int .i64)))
abbrev DIVec : Type := ((Int × Int) × ((Int × Int) × (Int × Int)))
abbrev TJoint : Ty := .pair (.str) (.pair (.int .i64) (.pair (.int .i64) (.pair (TVec) (.pair (.int .i64) (.pair (.int .i64) (.pair (.int .i64) (.pair (.int .i64) (.pair (.int .i64) (.int .i64)))))))))
abbrev DJoint : Type := (ByteArray × (Int × (Int × (DVec × (Int × (Int × (Int × (Int × (Int × Int)))))))))
abbrev TRobot : Ty := .pair (.list (TJoint)) (.list (TMass))
abbrev DRobot : Type := (List (DJoint) × List (DMass))
abbrev TIMat : Ty := .pair (TIVec) (.pair (TIVec) (.pair (.pair (.int .i64) (.int .i64)) (.pair (.pair (.int .i64) (.int .i64)) (.pair (.int .i64) (.int .i64)))))
abbrev DIMat : Type := (DIVec × (DIVec × ((Int × Int) × ((Int × Int) × (Int × Int)))))
abbrev TPose : Ty := .pair (TIMat) (.pair (.pair (.int .i64) (.int .i64)) (.pair (.pair (.int .i64) (.int .i64)) (.pair (.int .i64) (.int .i64))))
abbrev DPose : Type := (DIMat × ((Int × Int) × ((Int × Int) × (Int × Int))))
abbrev TScene : Ty := .pair (TRobot) (.pair (.list (TShape)) (.list (.pair (.int .i64) (.int .i64))))
abbrev DScene : Type := (DRobot × (List (DShape) × List ((Int × Int))))
abbrev TTree : Ty := .pair (TRobot) (.pair (.list (.pair (.int .i64) (.int .i64))) (.list (TPose)))
end Go.RX

/-
  The contracts of functions.
-/
namespace Go.RX
open Go.Proofs

def etys : List (Nat × TRow) := [(2, ⟨.int .i64, 1, 8, [.int .i64 0], .int .i64⟩),
  (3, ⟨.int .i64, 1, 8, [.int .i64 0], .int .i64⟩),
  (9, ⟨.str, 1, 16, [.string (ByteArray.mk #[])], .str⟩),
  (26, ⟨.struct [(0, 1), (1, 1)], 2, 16, [.int .i64 0, .int .i64 0], .pair (.int .i64) (.int .i64)⟩),
  (32, ⟨.arr 3 2, 3, 24, [.int .i64 0, .int .i64 0, .int .i64 0], TVec⟩),
  (62, ⟨.struct [(0, 1), (1, 1), (2, 1), (3, 3), (6, 1), (7, 1), (8, 1), (9, 1), (10, 1), (11, 1)], 12, 104, [.string (ByteArray.mk #[]), .int .i64 0, .int .i64 0, .int .i64 0, .int .i64 0, .int .i64 0, .int .i64 0, .int .i64 0, .int .i64 0, .int .i64 0, .int .i64 0, .int .i64 0], TJoint⟩),
  (63, ⟨.slice 62, 1, 24, [.slice none 0 0], .list (TJoint)⟩),
  (64, ⟨.slice 123, 1, 24, [.slice none 0 0], .list (TMass)⟩),
  (66, ⟨.struct [(0, 1), (1, 1)], 2, 48, [.slice none 0 0, .slice none 0 0], TRobot⟩),
  (67, ⟨.slice 104, 1, 24, [.slice none 0 0], .list (TShape)⟩),
  (68, ⟨.slice 106, 1, 24, [.slice none 0 0], .list (.pair (.int .i64) (.int .i64))⟩),
  (70, ⟨.struct [(0, 2), (2, 1), (3, 1)], 4, 96, [.slice none 0 0, .slice none 0 0, .slice none 0 0, .slice none 0 0], TScene⟩),
  (72, ⟨.slice 26, 1, 24, [.slice none 0 0], .list (.pair (.int .i64) (.int .i64))⟩),
  (91, ⟨.struct [(0, 1), (1, 1)], 2, 32, [.slice none 0 0, .int .i64 0], TSource⟩),
  (101, ⟨.slice 32, 1, 24, [.slice none 0 0], .list (TVec)⟩),
  (104, ⟨.struct [(0, 1), (1, 1), (2, 1)], 3, 40, [.int .i64 0, .int .i64 0, .slice none 0 0], TShape⟩),
  (106, ⟨.struct [(0, 1), (1, 1)], 2, 16, [.int .i64 0, .int .i64 0], .pair (.int .i64) (.int .i64)⟩),
  (123, ⟨.struct [(0, 1), (1, 1), (2, 3)], 5, 40, [.int .i64 0, .int .i64 0, .int .i64 0, .int .i64 0, .int .i64 0], TMass⟩),
  (134, ⟨.arr 8 3, 8, 64, [.int .i64 0, .int .i64 0, .int .i64 0, .int .i64 0, .int .i64 0, .int .i64 0, .int .i64 0, .int .i64 0], .pair (.int .i64) (.pair (.int .i64) (.pair (.int .i64) (.pair (.int .i64) (.pair (.int .i64) (.pair (.int .i64) (.pair (.int .i64) (.int .i64)))))))⟩)]
def eeqs : List (Nat × (Bool × List TK)) := []
theorem etys_ok : tableOk Try.prog etys = true := by kernel_rfl
theorem eeqs_ok : eqsOk Try.prog eeqs = true := by kernel_rfl

/- armplan/armplanmake.letter -/
def t_armplanmake_letter (a0 : Int) : Tr ByteArray :=
  let x1 : Int := IntKind.wrap .i64 (a0 + 1)
  .br (decide (0 ≤ a0) && decide (a0 ≤ x1) && decide (x1 ≤ 10)) (
   .leaf (ByteArray.extract (ByteArray.mk #[97, 98, 99, 100, 101, 102, 103, 104, 105, 106]) a0.toNat x1.toNat)) .fail
def armplanmake_letter (a0 : Int) : ByteArray := (t_armplanmake_letter a0).val
def dom_armplanmake_letter (a0 : Int) : Bool := (t_armplanmake_letter a0).dom
theorem run_armplanmake_letter : ∀ x, runF (mkC etys eeqs [] [] noLoops) 200 122 Try.f122 (argsA [.int .i64] x) [] (fun v h => toRes h [.str] v) = (t_armplanmake_letter x.1).optA (fun r => (r, ())) := by
  intro x; kernel_rfl
theorem fn_armplanmake_letter : FnOk Try.prog 122 [.int .i64] [.str] (fun x => bif dom_armplanmake_letter x.1 then some ((fun r => (r, ())) (armplanmake_letter x.1)) else none) :=
  fn_part (t := fun (x : Ar [.int .i64]) => t_armplanmake_letter x.1) (R := ByteArray) (Ts := [.str]) (mk := (fun r => (r, ()))) (mkC_ok etys_ok eeqs_ok (fns_nil _) (inl_nil _) noLoops_ok mixed) Try.func122 run_armplanmake_letter
def hd_armplanmake_letter : Hd := guardHd [.int .i64] [.str] (fun x => dom_armplanmake_letter x.1) (fun x => (fun r => (r, ())) (armplanmake_letter x.1))
theorem ok_armplanmake_letter : HdOk Try.prog 122 hd_armplanmake_letter.sem ∧ Enters Try.prog 122 := guard_ok fn_armplanmake_letter Try.func122 (by kernel_rfl) (by kernel_rfl)

/- armplan/armplanmake.joint -/
def t_armplanmake_joint (a0 : DSource) (a1 : Int) : Tr (DJoint × DSource) :=
  let r1 : ByteArray := armplanmake_letter a1
  .br (dom_armplanmake_letter a1) (
   let x2 : Int := IntKind.wrap .i64 (a1 - 1)
   let r3 : (Int × DSource) := armplanmake_Source_Next a0 4
   .br (dom_armplanmake_Source_Next a0 4) (
    let x4 : Int := IntKind.wrap .i64 (1 + r3.1)
    let r5 : (Int × DSource) := armplanmake_Source_Next r3.2 3
    .br (dom_armplanmake_Source_Next r3.2 3) (
     let x6 : Int := IntKind.wrap .i64 (65536 + r5.1)
     let r7 : (Int × DSource) := armplanmake_Source_Next r5.2 8
     .br (dom_armplanmake_Source_Next r5.2 8) (
      let x8 : Int := List.getD [3, 3, 1, 2, 4, 5, 3, 0] r7.1.toNat 0
      .br (decide (0 ≤ r7.1) && decide (r7.1 < 8)) (
       let r9 : (Int × DSource) := armplanmake_Source_Next r7.2 4
       .br (dom_armplanmake_Source_Next r7.2 4) (
        let x10 : Bool := decide (r9.1 = 1)
        .br (x10) (
         let x11 : Bool := decide (0 < a1)
         .br (x11) (
          let r12 : (Int × DSource) := armplanmake_Source_Signed r9.2 2
          .br (dom_armplanmake_Source_Signed r9.2 2) (
           let x13 : Int := IntKind.wrap .i64 (r12.1 * 32768)
           let r14 : (Int × DSource) := armplanmake_Source_Signed r12.2 1
           .br (dom_armplanmake_Source_Signed r12.2 1) (
            let x15 : Int := IntKind.wrap .i64 (r14.1 * 32768)
            let x16 : Bool := decide (x8 = 0)
            .br (x16) (
             .leaf ((r1, (x8, ((-1), ((131072, (x13, x15)), (0, (0, (x4, (65536, (x6, 327680))))))))), r14.2)) (
             let x17 : Bool := decide (x8 = 4)
             .br (x17) (
              let r18 : (Int × DSource) := armplanmake_Source_Next r14.2 3
              .br (dom_armplanmake_Source_Next r14.2 3) (
               let x19 : Int := IntKind.wrap .i64 (0 - r18.1)
               let x20 : Int := IntKind.wrap .i64 (x19 * 65536)
               let r21 : (Int × DSource) := armplanmake_Source_Next r18.2 4
               .br (dom_armplanmake_Source_Next r18.2 4) (
                let x22 : Int := IntKind.wrap .i64 (r21.1 * 32768)
                .leaf ((r1, (x8, ((-1), ((131072, (x13, x15)), (x20, (x22, (x4, (65536, (x6, 327680))))))))), r21.2)) .fail) .fail) (
              let x23 : Bool := decide (x8 = 5)
              .br (x23) (
               let r24 : (Int × DSource) := armplanmake_Source_Next r14.2 3
               .br (dom_armplanmake_Source_Next r14.2 3) (
                let x25 : Int := IntKind.wrap .i64 (0 - r24.1)
                let x26 : Int := IntKind.wrap .i64 (x25 * 65536)
                let r27 : (Int × DSource) := armplanmake_Source_Next r24.2 4
                .br (dom_armplanmake_Source_Next r24.2 4) (
                 let x28 : Int := IntKind.wrap .i64 (r27.1 * 32768)
                 .leaf ((r1, (x8, ((-1), ((131072, (x13, x15)), (x26, (x28, (x4, (65536, (x6, 327680))))))))), r27.2)) .fail) .fail) (
               let r29 : (Int × DSource) := armplanmake_Source_Next r14.2 5
               .br (dom_armplanmake_Source_Next r14.2 5) (
                let x30 : Int := IntKind.wrap .i64 (0 - r29.1)
                let x31 : Int := IntKind.wrap .i64 (x30 * 65536)
                let x32 : Int := IntKind.wrap .i64 (Int.tdiv x31 8)
                let r33 : (Int × DSource) := armplanmake_Source_Next r29.2 4
                .br (dom_armplanmake_Source_Next r29.2 4) (
                 let x34 : Int := IntKind.wrap .i64 (1 + r33.1)
                 let x35 : Int := IntKind.wrap .i64 (x34 * 65536)
                 let x36 : Int := IntKind.wrap .i64 (Int.tdiv x35 8)
                 let r37 : (Int × DSource) := armplanmake_Source_Next r33.2 3
                 .br (dom_armplanmake_Source_Next r33.2 3) (
                  let x38 : Int := IntKind.wrap .i64 (x36 + r37.1)
                  .leaf ((r1, (x8, ((-1), ((131072, (x13, x15)), (x32, (x38, (x4, (65536, (x6, 327680))))))))), r37.2)) .fail) .fail) .fail)))) .fail) .fail) (
          let x39 : Bool := decide (x8 = 0)
          .br (x39) (
           .leaf ((r1, (x8, ((-1), ((0, (0, 0)), (0, (0, (x4, (65536, (x6, 327680))))))))), r9.2)) (
           let x40 : Bool := decide (x8 = 4)
           .br (x40) (
            let r41 : (Int × DSource) := armplanmake_Source_Next r9.2 3
            .br (dom_armplanmake_Source_Next r9.2 3) (
             let x42 : Int := IntKind.wrap .i64 (0 - r41.1)
             let x43 : Int := IntKind.wrap .i64 (x42 * 65536)
             let r44 : (Int × DSource) := armplanmake_Source_Next r41.2 4
             .br (dom_armplanmake_Source_Next r41.2 4) (
              let x45 : Int := IntKind.wrap .i64 (r44.1 * 32768)
              .leaf ((r1, (x8, ((-1), ((0, (0, 0)), (x43, (x45, (x4, (65536, (x6, 327680))))))))), r44.2)) .fail) .fail) (
            let x46 : Bool := decide (x8 = 5)
            .br (x46) (
             let r47 : (Int × DSource) := armplanmake_Source_Next r9.2 3
             .br (dom_armplanmake_Source_Next r9.2 3) (
              let x48 : Int := IntKind.wrap .i64 (0 - r47.1)
              let x49 : Int := IntKind.wrap .i64 (x48 * 65536)
              let r50 : (Int × DSource) := armplanmake_Source_Next r47.2 4
              .br (dom_armplanmake_Source_Next r47.2 4) (
               let x51 : Int := IntKind.wrap .i64 (r50.1 * 32768)
               .leaf ((r1, (x8, ((-1), ((0, (0, 0)), (x49, (x51, (x4, (65536, (x6, 327680))))))))), r50.2)) .fail) .fail) (
             let r52 : (Int × DSource) := armplanmake_Source_Next r9.2 5
             .br (dom_armplanmake_Source_Next r9.2 5) (
              let x53 : Int := IntKind.wrap .i64 (0 - r52.1)
              let x54 : Int := IntKind.wrap .i64 (x53 * 65536)
              let x55 : Int := IntKind.wrap .i64 (Int.tdiv x54 8)
              let r56 : (Int × DSource) := armplanmake_Source_Next r52.2 4
              .br (dom_armplanmake_Source_Next r52.2 4) (
               let x57 : Int := IntKind.wrap .i64 (1 + r56.1)
               let x58 : Int := IntKind.wrap .i64 (x57 * 65536)
               let x59 : Int := IntKind.wrap .i64 (Int.tdiv x58 8)
               let r60 : (Int × DSource) := armplanmake_Source_Next r56.2 3
               .br (dom_armplanmake_Source_Next r56.2 3) (
                let x61 : Int := IntKind.wrap .i64 (x59 + r60.1)
                .leaf ((r1, (x8, ((-1), ((0, (0, 0)), (x55, (x61, (x4, (65536, (x6, 327680))))))))), r60.2)) .fail) .fail) .fail))))) (
         let x62 : Bool := decide (0 < a1)
         .br (x62) (
          let r63 : (Int × DSource) := armplanmake_Source_Signed r9.2 2
          .br (dom_armplanmake_Source_Signed r9.2 2) (
           let x64 : Int := IntKind.wrap .i64 (r63.1 * 32768)
           let r65 : (Int × DSource) := armplanmake_Source_Signed r63.2 1
           .br (dom_armplanmake_Source_Signed r63.2 1) (
            let x66 : Int := IntKind.wrap .i64 (r65.1 * 32768)
            let x67 : Bool := decide (x8 = 0)
            .br (x67) (
             .leaf ((r1, (x8, (x2, ((131072, (x64, x66)), (0, (0, (x4, (65536, (x6, 327680))))))))), r65.2)) (
             let x68 : Bool := decide (x8 = 4)
             .br (x68) (
              let r69 : (Int × DSource) := armplanmake_Source_Next r65.2 3
              .br (dom_armplanmake_Source_Next r65.2 3) (
               let x70 : Int := IntKind.wrap .i64 (0 - r69.1)
               let x71 : Int := IntKind.wrap .i64 (x70 * 65536)
               let r72 : (Int × DSource) := armplanmake_Source_Next r69.2 4
               .br (dom_armplanmake_Source_Next r69.2 4) (
                let x73 : Int := IntKind.wrap .i64 (r72.1 * 32768)
                .leaf ((r1, (x8, (x2, ((131072, (x64, x66)), (x71, (x73, (x4, (65536, (x6, 327680))))))))), r72.2)) .fail) .fail) (
              let x74 : Bool := decide (x8 = 5)
              .br (x74) (
               let r75 : (Int × DSource) := armplanmake_Source_Next r65.2 3
               .br (dom_armplanmake_Source_Next r65.2 3) (
                let x76 : Int := IntKind.wrap .i64 (0 - r75.1)
                let x77 : Int := IntKind.wrap .i64 (x76 * 65536)
                let r78 : (Int × DSource) := armplanmake_Source_Next r75.2 4
                .br (dom_armplanmake_Source_Next r75.2 4) (
                 let x79 : Int := IntKind.wrap .i64 (r78.1 * 32768)
                 .leaf ((r1, (x8, (x2, ((131072, (x64, x66)), (x77, (x79, (x4, (65536, (x6, 327680))))))))), r78.2)) .fail) .fail) (
               let r80 : (Int × DSource) := armplanmake_Source_Next r65.2 5
               .br (dom_armplanmake_Source_Next r65.2 5) (
                let x81 : Int := IntKind.wrap .i64 (0 - r80.1)
                let x82 : Int := IntKind.wrap .i64 (x81 * 65536)
                let x83 : Int := IntKind.wrap .i64 (Int.tdiv x82 8)
                let r84 : (Int × DSource) := armplanmake_Source_Next r80.2 4
                .br (dom_armplanmake_Source_Next r80.2 4) (
                 let x85 : Int := IntKind.wrap .i64 (1 + r84.1)
                 let x86 : Int := IntKind.wrap .i64 (x85 * 65536)
                 let x87 : Int := IntKind.wrap .i64 (Int.tdiv x86 8)
                 let r88 : (Int × DSource) := armplanmake_Source_Next r84.2 3
                 .br (dom_armplanmake_Source_Next r84.2 3) (
                  let x89 : Int := IntKind.wrap .i64 (x87 + r88.1)
                  .leaf ((r1, (x8, (x2, ((131072, (x64, x66)), (x83, (x89, (x4, (65536, (x6, 327680))))))))), r88.2)) .fail) .fail) .fail)))) .fail) .fail) (
          let x90 : Bool := decide (x8 = 0)
          .br (x90) (
           .leaf ((r1, (x8, (x2, ((0, (0, 0)), (0, (0, (x4, (65536, (x6, 327680))))))))), r9.2)) (
           let x91 : Bool := decide (x8 = 4)
           .br (x91) (
            let r92 : (Int × DSource) := armplanmake_Source_Next r9.2 3
            .br (dom_armplanmake_Source_Next r9.2 3) (
             let x93 : Int := IntKind.wrap .i64 (0 - r92.1)
             let x94 : Int := IntKind.wrap .i64 (x93 * 65536)
             let r95 : (Int × DSource) := armplanmake_Source_Next r92.2 4
             .br (dom_armplanmake_Source_Next r92.2 4) (
              let x96 : Int := IntKind.wrap .i64 (r95.1 * 32768)
              .leaf ((r1, (x8, (x2, ((0, (0, 0)), (x94, (x96, (x4, (65536, (x6, 327680))))))))), r95.2)) .fail) .fail) (
            let x97 : Bool := decide (x8 = 5)
            .br (x97) (
             let r98 : (Int × DSource) := armplanmake_Source_Next r9.2 3
             .br (dom_armplanmake_Source_Next r9.2 3) (
              let x99 : Int := IntKind.wrap .i64 (0 - r98.1)
              let x100 : Int := IntKind.wrap .i64 (x99 * 65536)
              let r101 : (Int × DSource) := armplanmake_Source_Next r98.2 4
              .br (dom_armplanmake_Source_Next r98.2 4) (
               let x102 : Int := IntKind.wrap .i64 (r101.1 * 32768)
               .leaf ((r1, (x8, (x2, ((0, (0, 0)), (x100, (x102, (x4, (65536, (x6, 327680))))))))), r101.2)) .fail) .fail) (
             let r103 : (Int × DSource) := armplanmake_Source_Next r9.2 5
             .br (dom_armplanmake_Source_Next r9.2 5) (
              let x104 : Int := IntKind.wrap .i64 (0 - r103.1)
              let x105 : Int := IntKind.wrap .i64 (x104 * 65536)
              let x106 : Int := IntKind.wrap .i64 (Int.tdiv x105 8)
              let r107 : (Int × DSource) := armplanmake_Source_Next r103.2 4
              .br (dom_armplanmake_Source_Next r103.2 4) (
               let x108 : Int := IntKind.wrap .i64 (1 + r107.1)
               let x109 : Int := IntKind.wrap .i64 (x108 * 65536)
               let x110 : Int := IntKind.wrap .i64 (Int.tdiv x109 8)
               let r111 : (Int × DSource) := armplanmake_Source_Next r107.2 3
               .br (dom_armplanmake_Source_Next r107.2 3) (
                let x112 : Int := IntKind.wrap .i64 (x110 + r111.1)
                .leaf ((r1, (x8, (x2, ((0, (0, 0)), (x106, (x112, (x4, (65536, (x6, 327680))))))))), r111.2)) .fail) .fail) .fail)))))) .fail) .fail) .fail) .fail) .fail) .fail
def armplanmake_joint (a0 : DSource) (a1 : Int) : (DJoint × DSource) := (t_armplanmake_joint a0 a1).val
def dom_armplanmake_joint (a0 : DSource) (a1 : Int) : Bool := (t_armplanmake_joint a0 a1).dom
theorem run_armplanmake_joint : ∀ x, runF (mkC etys eeqs [(17, hd_armplanmake_Source_Signed), (20, hd_armplanmake_Source_Next), (122, hd_armplanmake_letter)] [] noLoops) 200 101 Try.f101 (mkT id [⟨[0], true, false, [.d (TSource)]⟩, ⟨[1], false, false, [.d (.int .i64)]⟩] x 0 (List.replicate 2 .top)) (mkH id [⟨[0], true, false, [.d (TSource)]⟩, ⟨[1], false, false, [.d (.int .i64)]⟩] x 0) (endS [TJoint] [⟨[], true, false, [.d (TSource)]⟩]) = (t_armplanmake_joint x.1.1 x.2.1.1).optA (fun (r : (DJoint × DSource)) => ((r.1, ()), ((r.2, ()), ()))) := by
  intro x; kernel_rfl
def hd_armplanmake_joint : Hd := hdS 2 [⟨[0], true, false, [.d (TSource)]⟩, ⟨[1], false, false, [.d (.int .i64)]⟩] [⟨[], true, false, [.d (TSource)]⟩] [TJoint] (fun x => dom_armplanmake_joint x.1.1 x.2.1.1) (fun x => (fun (r : (DJoint × DSource)) => ((r.1, ()), ((r.2, ()), ()))) (armplanmake_joint x.1.1 x.2.1.1)) (by kernel_rfl)
theorem fn_armplanmake_joint : FnS Try.prog 101 2 [⟨[0], true, false, [.d (TSource)]⟩, ⟨[1], false, false, [.d (.int .i64)]⟩] [⟨[], true, false, [.d (TSource)]⟩] [TJoint] (fun x => bif (fun x => dom_armplanmake_joint x.1.1 x.2.1.1) x then some ((fun x => (fun (r : (DJoint × DSource)) => ((r.1, ()), ((r.2, ()), ()))) (armplanmake_joint x.1.1 x.2.1.1)) x) else none) :=
  fnS_tree (np := 2) (ss := [⟨[0], true, false, [.d (TSource)]⟩, ⟨[1], false, false, [.d (.int .i64)]⟩]) (ss1 := [⟨[], true, false, [.d (TSource)]⟩]) (Ts := [TJoint]) (R := (DJoint × DSource)) (dom := fun x => dom_armplanmake_joint x.1.1 x.2.1.1) (t := fun (x : Sl [⟨[0], true, false, [.d (TSource)]⟩, ⟨[1], false, false, [.d (.int .i64)]⟩]) => t_armplanmake_joint x.1.1 x.2.1.1) (mk := (fun (r : (DJoint × DSource)) => ((r.1, ()), ((r.2, ()), ())))) (mkC_ok etys_ok eeqs_ok (fns_cons ok_armplanmake_Source_Signed (fns_cons ok_armplanmake_Source_Next (fns_cons ok_armplanmake_letter (fns_nil _)))) (inl_nil _) noLoops_ok mixed) Try.func101 (by kernel_rfl) run_armplanmake_joint (fun _ => .inr rfl)
theorem ok_armplanmake_joint : HdOk Try.prog 101 hd_armplanmake_joint.sem ∧ Enters Try.prog 101 := ⟨hdS_ok (by kernel_rfl) fn_armplanmake_joint, _, Try.func101, by kernel_rfl, by kernel_rfl⟩

/- loop 0 of armplan/armplanmake.robot -/
abbrev ss_armplanmake_robot_L0 : List Slot := [⟨[0], true, false, [.d (TSource)]⟩, ⟨[3], true, false, [.v 62 (TJoint), .v 123 (TMass)]⟩, ⟨[4], false, false, [.d (.int .i64)]⟩, ⟨[5], false, false, [.d (.int .i64)]⟩]
abbrev os_armplanmake_robot_L0 : List (Exit × List Slot) := [(.exit 0, [⟨[0], true, false, [.d (TSource)]⟩, ⟨[3], true, false, [.v 62 (TJoint), .v 123 (TMass)]⟩, ⟨[4], false, false, [.d (.int .i64)]⟩])]
def t_armplanmake_robot_L0 (a0 : DSource) (a1 : List (DJoint)) (a2 : List (DMass)) (a3 : Int) (a4 : Int) : Tr (Sl ss_armplanmake_robot_L0 ⊕ Outs os_armplanmake_robot_L0) :=
  let x1 : Bool := decide (a4 < a3)
  .br (x1) (
   let r2 : (DJoint × DSource) := armplanmake_joint a0 a4
   .br (dom_armplanmake_joint a0 a4) (
    .br (room (a1.length + [r2.1].length)) (
     let x3 : Int := IntKind.wrap .i64 (a4 + 1)
     .leaf (.inl ((r2.2, ()), ((a1 ++ [r2.1]), a2, ()), (a3, ()), (x3, ()), ()))) .fail) .fail) (
   .leaf (.inr ((a0, ()), (a1, a2, ()), (a3, ()), ())))
def step_armplanmake_robot_L0 : Sl ss_armplanmake_robot_L0 → Option (Sl ss_armplanmake_robot_L0 ⊕ Outs os_armplanmake_robot_L0) := fun x => (t_armplanmake_robot_L0 x.1.1 x.2.1.1 x.2.1.2.1 x.2.2.1.1 x.2.2.2.1.1).optA id
theorem run_armplanmake_robot_L0 : ∀ (x : Sl ss_armplanmake_robot_L0) (vs : Nat → Value), run (mkC etys eeqs [(101, hd_armplanmake_joint)] [] noLoops) 200 74 (loopBody 0 (Try.f74.body.getD .skip)) (mkSt ss_armplanmake_robot_L0 x (baseT 49 [2] [] vs)) (endK ss_armplanmake_robot_L0 os_armplanmake_robot_L0 49 [2]) = (t_armplanmake_robot_L0 x.1.1 x.2.1.1 x.2.1.2.1 x.2.2.1.1 x.2.2.2.1.1).optA fun r => (r, [2].map (keptA [] vs)) := by
  intro x vs; kernel_rfl
instance inh_armplanmake_robot_L0 : Inhabited (Outs os_armplanmake_robot_L0) := ⟨outsDflt os_armplanmake_robot_L0⟩
def dom_armplanmake_robot_L0 (x : Sl ss_armplanmake_robot_L0) : Bool := (loopN step_armplanmake_robot_L0 rounds x).isSome
def val_armplanmake_robot_L0 (x : Sl ss_armplanmake_robot_L0) : Outs os_armplanmake_robot_L0 := (loopN step_armplanmake_robot_L0 rounds x).getD default
def loop_armplanmake_robot_L0 : LoopD := mkLoop ss_armplanmake_robot_L0 os_armplanmake_robot_L0 49 [2] [] step_armplanmake_robot_L0 dom_armplanmake_robot_L0 val_armplanmake_robot_L0 (loop_hv step_armplanmake_robot_L0)
theorem lok_armplanmake_robot_L0 : LoopOk Try.prog (loopLH loop_armplanmake_robot_L0 0) 0 (.loop (loopBody 0 (Try.f74.body.getD .skip))) := loop_in (D := loop_armplanmake_robot_L0) (n := 200) (cur := 74) (mkC_ok etys_ok eeqs_ok (fns_cons ok_armplanmake_joint (fns_nil _)) (inl_nil _) noLoops_ok mixed) Try.func74 (by kernel_rfl) (turns_of run_armplanmake_robot_L0) (by kernel_rfl) (by kernel_rfl) (by kernel_rfl)

/- loop 2 of armplan/armplanmake.robot -/
abbrev ss_armplanmake_robot_L2 : List Slot := [⟨[0], true, false, [.d (TSource)]⟩, ⟨[3], true, false, [.v 62 (TJoint), .v 123 (TMass)]⟩, ⟨[4], false, false, [.d (.int .i64)]⟩, ⟨[6], false, false, [.d (.int .i64)]⟩]
abbrev os_armplanmake_robot_L2 : List (Exit × List Slot) := [(.exit 2, [⟨[0], true, false, [.d (TSource)]⟩, ⟨[3], true, false, [.v 62 (TJoint), .v 123 (TMass)]⟩])]
def t_armplanmake_robot_L2 (a0 : DSource) (a1 : List (DJoint)) (a2 : List (DMass)) (a3 : Int) (a4 : Int) : Tr (Sl ss_armplanmake_robot_L2 ⊕ Outs os_armplanmake_robot_L2) :=
  let x1 : Bool := decide (0 < a4)
  .br (x1) (
   let r2 : (Int × DSource) := armplanmake_Source_Next a0 a3
   .br (dom_armplanmake_Source_Next a0 a3) (
    let r3 : (Int × DSource) := armplanmake_Source_Next r2.2 9000
    .br (dom_armplanmake_Source_Next r2.2 9000) (
     let x4 : Int := IntKind.wrap .i64 (1 + r3.1)
     let r5 : (Int × DSource) := armplanmake_Source_Signed r3.2 3
     .br (dom_armplanmake_Source_Signed r3.2 3) (
      let x6 : Int := IntKind.wrap .i64 (r5.1 * 32768)
      let r7 : (Int × DSource) := armplanmake_Source_Signed r5.2 2
      .br (dom_armplanmake_Source_Signed r5.2 2) (
       let x8 : Int := IntKind.wrap .i64 (r7.1 * 32768)
       .br (room (a2.length + [(r2.1, (x4, (x6, (0, x8))))].length)) (
        let x9 : Int := IntKind.wrap .i64 (a4 - 1)
        .leaf (.inl ((r7.2, ()), (a1, (a2 ++ [(r2.1, (x4, (x6, (0, x8))))]), ()), (a3, ()), (x9, ()), ()))) .fail) .fail) .fail) .fail) .fail) (
   .leaf (.inr ((a0, ()), (a1, a2, ()), ())))
def step_armplanmake_robot_L2 : Sl ss_armplanmake_robot_L2 → Option (Sl ss_armplanmake_robot_L2 ⊕ Outs os_armplanmake_robot_L2) := fun x => (t_armplanmake_robot_L2 x.1.1 x.2.1.1 x.2.1.2.1 x.2.2.1.1 x.2.2.2.1.1).optA id
theorem run_armplanmake_robot_L2 : ∀ (x : Sl ss_armplanmake_robot_L2) (vs : Nat → Value), run (mkC etys eeqs [(17, hd_armplanmake_Source_Signed), (20, hd_armplanmake_Source_Next)] [] noLoops) 200 74 (loopBody 2 (Try.f74.body.getD .skip)) (mkSt ss_armplanmake_robot_L2 x (baseT 49 [2] [] vs)) (endK ss_armplanmake_robot_L2 os_armplanmake_robot_L2 49 [2]) = (t_armplanmake_robot_L2 x.1.1 x.2.1.1 x.2.1.2.1 x.2.2.1.1 x.2.2.2.1.1).optA fun r => (r, [2].map (keptA [] vs)) := by
  intro x vs; kernel_rfl
instance inh_armplanmake_robot_L2 : Inhabited (Outs os_armplanmake_robot_L2) := ⟨outsDflt os_armplanmake_robot_L2⟩
def dom_armplanmake_robot_L2 (x : Sl ss_armplanmake_robot_L2) : Bool := (loopN step_armplanmake_robot_L2 rounds x).isSome
def val_armplanmake_robot_L2 (x : Sl ss_armplanmake_robot_L2) : Outs os_armplanmake_robot_L2 := (loopN step_armplanmake_robot_L2 rounds x).getD default
def loop_armplanmake_robot_L2 : LoopD := mkLoop ss_armplanmake_robot_L2 os_armplanmake_robot_L2 49 [2] [] step_armplanmake_robot_L2 dom_armplanmake_robot_L2 val_armplanmake_robot_L2 (loop_hv step_armplanmake_robot_L2)
theorem lok_armplanmake_robot_L2 : LoopOk Try.prog (loopLH loop_armplanmake_robot_L2 2) 2 (.loop (loopBody 2 (Try.f74.body.getD .skip))) := loop_in (D := loop_armplanmake_robot_L2) (n := 200) (cur := 74) (mkC_ok etys_ok eeqs_ok (fns_cons ok_armplanmake_Source_Signed (fns_cons ok_armplanmake_Source_Next (fns_nil _))) (inl_nil _) noLoops_ok mixed) Try.func74 (by kernel_rfl) (turns_of run_armplanmake_robot_L2) (by kernel_rfl) (by kernel_rfl) (by kernel_rfl)

/- armplan/armplanmake.robot -/
def t_armplanmake_robot (a0 : DSource) : Tr (DRobot × DSource) :=
  let r1 : (Int × DSource) := armplanmake_Source_Next a0 3
  .br (dom_armplanmake_Source_Next a0 3) (
   let x2 : Int := IntKind.wrap .i64 (1 + r1.1)
   let r3 : Outs os_armplanmake_robot_L0 := val_armplanmake_robot_L0 ((r1.2, ()), ([], [], ()), (x2, ()), (0, ()), ())
   .br (dom_armplanmake_robot_L0 ((r1.2, ()), ([], [], ()), (x2, ()), (0, ()), ())) (
    let y4 : DSource := r3.1.1
    let y5 : List (DJoint) := r3.2.1.1
    let y6 : List (DMass) := r3.2.1.2.1
    let y7 : Int := r3.2.2.1.1
    let r8 : (Int × DSource) := armplanmake_Source_Next y4 3
    .br (dom_armplanmake_Source_Next y4 3) (
     let r9 : Outs os_armplanmake_robot_L2 := val_armplanmake_robot_L2 ((r8.2, ()), (y5, y6, ()), (y7, ()), (r8.1, ()), ())
     .br (dom_armplanmake_robot_L2 ((r8.2, ()), (y5, y6, ()), (y7, ()), (r8.1, ()), ())) (
      let y10 : DSource := r9.1.1
      let y11 : List (DJoint) := r9.2.1.1
      let y12 : List (DMass) := r9.2.1.2.1
      .leaf ((y11, y12), y10)) .fail) .fail) .fail) .fail
def armplanmake_robot (a0 : DSource) : (DRobot × DSource) := (t_armplanmake_robot a0).val
def dom_armplanmake_robot (a0 : DSource) : Bool := (t_armplanmake_robot a0).dom
theorem run_armplanmake_robot : ∀ x, runF (mkC etys eeqs [(20, hd_armplanmake_Source_Next)] [] (lpOne 74 0 (loopLH loop_armplanmake_robot_L0 0) (lpOne 74 2 (loopLH loop_armplanmake_robot_L2 2) noLoops))) 200 74 Try.f74 (mkT id [⟨[0], true, false, [.d (TSource)]⟩] x 0 (List.replicate 1 .top)) (mkH id [⟨[0], true, false, [.d (TSource)]⟩] x 0) (endS [TRobot] [⟨[], true, false, [.d (TSource)]⟩]) = (t_armplanmake_robot x.1.1).optA (fun (r : (DRobot × DSource)) => ((r.1, ()), ((r.2, ()), ()))) := by
  intro x; kernel_rfl
def hd_armplanmake_robot : Hd := hdS 1 [⟨[0], true, false, [.d (TSource)]⟩] [⟨[], true, false, [.d (TSource)]⟩] [TRobot] (fun x => dom_armplanmake_robot x.1.1) (fun x => (fun (r : (DRobot × DSource)) => ((r.1, ()), ((r.2, ()), ()))) (armplanmake_robot x.1.1)) (by kernel_rfl)
theorem fn_armplanmake_robot : FnS Try.prog 74 1 [⟨[0], true, false, [.d (TSource)]⟩] [⟨[], true, false, [.d (TSource)]⟩] [TRobot] (fun x => bif (fun x => dom_armplanmake_robot x.1.1) x then some ((fun x => (fun (r : (DRobot × DSource)) => ((r.1, ()), ((r.2, ()), ()))) (armplanmake_robot x.1.1)) x) else none) :=
  fnS_tree (np := 1) (ss := [⟨[0], true, false, [.d (TSource)]⟩]) (ss1 := [⟨[], true, false, [.d (TSource)]⟩]) (Ts := [TRobot]) (R := (DRobot × DSource)) (dom := fun x => dom_armplanmake_robot x.1.1) (t := fun (x : Sl [⟨[0], true, false, [.d (TSource)]⟩]) => t_armplanmake_robot x.1.1) (mk := (fun (r : (DRobot × DSource)) => ((r.1, ()), ((r.2, ()), ())))) (mkC_ok etys_ok eeqs_ok (fns_cons ok_armplanmake_Source_Next (fns_nil _)) (inl_nil _) (lpOne_ok (b := loopBody 0 (Try.f74.body.getD .skip)) Try.func74 (by kernel_rfl) lok_armplanmake_robot_L0 (lpOne_ok (b := loopBody 2 (Try.f74.body.getD .skip)) Try.func74 (by kernel_rfl) lok_armplanmake_robot_L2 noLoops_ok)) mixed) Try.func74 (by kernel_rfl) run_armplanmake_robot (fun _ => .inr rfl)
theorem ok_armplanmake_robot : HdOk Try.prog 74 hd_armplanmake_robot.sem ∧ Enters Try.prog 74 := ⟨hdS_ok (by kernel_rfl) fn_armplanmake_robot, _, Try.func74, by kernel_rfl, by kernel_rfl⟩

/- loop 0 of armplan/armplanmake.points -/
abbrev ss_armplanmake_points_L0 : List Slot := [⟨[0], true, false, [.d (TSource)]⟩, ⟨[3], true, false, [.d (TVec)]⟩, ⟨[5], false, false, [.v 32 (TVec)]⟩, ⟨[6], false, false, [.d (.int .i64)]⟩]
abbrev os_armplanmake_points_L0 : List (Exit × List Slot) := [(.exit 0, [⟨[0], true, false, [.d (TSource)]⟩, ⟨[3], true, false, [.d (TVec)]⟩, ⟨[5], false, false, [.v 32 (TVec)]⟩])]
def t_armplanmake_points_L0 (a0 : DSource) (a1 : DVec) (a2 : List (DVec)) (a3 : Int) : Tr (Sl ss_armplanmake_points_L0 ⊕ Outs os_armplanmake_points_L0) :=
  let x1 : Bool := decide (0 < a3)
  .br (x1) (
   let r2 : (Int × DSource) := armplanmake_Source_Signed a0 3
   .br (dom_armplanmake_Source_Signed a0 3) (
    let x3 : Int := IntKind.wrap .i64 (r2.1 * 32768)
    let x4 : Int := IntKind.wrap .i64 (a1.1 + x3)
    let r5 : (Int × DSource) := armplanmake_Source_Signed r2.2 2
    .br (dom_armplanmake_Source_Signed r2.2 2) (
     let x6 : Int := IntKind.wrap .i64 (r5.1 * 32768)
     let x7 : Int := IntKind.wrap .i64 (a1.2.1 + x6)
     let r8 : (Int × DSource) := armplanmake_Source_Signed r5.2 2
     .br (dom_armplanmake_Source_Signed r5.2 2) (
      let x9 : Int := IntKind.wrap .i64 (r8.1 * 32768)
      let x10 : Int := IntKind.wrap .i64 (a1.2.2 + x9)
      .br (room (a2.length + [(x4, (x7, x10))].length)) (
       let x11 : Int := IntKind.wrap .i64 (a3 - 1)
       .leaf (.inl ((r8.2, ()), (a1, ()), ((a2 ++ [(x4, (x7, x10))]), ()), (x11, ()), ()))) .fail) .fail) .fail) .fail) (
   .leaf (.inr ((a0, ()), (a1, ()), (a2, ()), ())))
def step_armplanmake_points_L0 : Sl ss_armplanmake_points_L0 → Option (Sl ss_armplanmake_points_L0 ⊕ Outs os_armplanmake_points_L0) := fun x => (t_armplanmake_points_L0 x.1.1 x.2.1.1 x.2.2.1.1 x.2.2.2.1.1).optA id
theorem run_armplanmake_points_L0 : ∀ (x : Sl ss_armplanmake_points_L0) (vs : Nat → Value), run (mkC etys eeqs [(17, hd_armplanmake_Source_Signed)] [] noLoops) 200 75 (loopBody 0 (Try.f75.body.getD .skip)) (mkSt ss_armplanmake_points_L0 x (baseT 38 [] [] vs)) (endK ss_armplanmake_points_L0 os_armplanmake_points_L0 38 []) = (t_armplanmake_points_L0 x.1.1 x.2.1.1 x.2.2.1.1 x.2.2.2.1.1).optA fun r => (r, [].map (keptA [] vs)) := by
  intro x vs; kernel_rfl
instance inh_armplanmake_points_L0 : Inhabited (Outs os_armplanmake_points_L0) := ⟨outsDflt os_armplanmake_points_L0⟩
def dom_armplanmake_points_L0 (x : Sl ss_armplanmake_points_L0) : Bool := (loopN step_armplanmake_points_L0 rounds x).isSome
def val_armplanmake_points_L0 (x : Sl ss_armplanmake_points_L0) : Outs os_armplanmake_points_L0 := (loopN step_armplanmake_points_L0 rounds x).getD default
def loop_armplanmake_points_L0 : LoopD := mkLoop ss_armplanmake_points_L0 os_armplanmake_points_L0 38 [] [] step_armplanmake_points_L0 dom_armplanmake_points_L0 val_armplanmake_points_L0 (loop_hv step_armplanmake_points_L0)
theorem lok_armplanmake_points_L0 : LoopOk Try.prog (loopLH loop_armplanmake_points_L0 0) 0 (.loop (loopBody 0 (Try.f75.body.getD .skip))) := loop_in (D := loop_armplanmake_points_L0) (n := 200) (cur := 75) (mkC_ok etys_ok eeqs_ok (fns_cons ok_armplanmake_Source_Signed (fns_nil _)) (inl_nil _) noLoops_ok mixed) Try.func75 (by kernel_rfl) (turns_of run_armplanmake_points_L0) (by kernel_rfl) (by kernel_rfl) (by kernel_rfl)

/- armplan/armplanmake.points -/
def t_armplanmake_points (a0 : DSource) (a1 : DVec) : Tr (List (DVec) × DSource) :=
  let r1 : (Int × DSource) := armplanmake_Source_Next a0 4
  .br (dom_armplanmake_Source_Next a0 4) (
   let r2 : Outs os_armplanmake_points_L0 := val_armplanmake_points_L0 ((r1.2, ()), (a1, ()), ([a1], ()), (r1.1, ()), ())
   .br (dom_armplanmake_points_L0 ((r1.2, ()), (a1, ()), ([a1], ()), (r1.1, ()), ())) (
    let y3 : DSource := r2.1.1
    let y4 : DVec := r2.2.1.1
    let y5 : List (DVec) := r2.2.2.1.1
    .leaf (y5, y3)) .fail) .fail
def armplanmake_points (a0 : DSource) (a1 : DVec) : (List (DVec) × DSource) := (t_armplanmake_points a0 a1).val
def dom_armplanmake_points (a0 : DSource) (a1 : DVec) : Bool := (t_armplanmake_points a0 a1).dom
theorem run_armplanmake_points : ∀ x, runF (mkC etys eeqs [(20, hd_armplanmake_Source_Next)] [] (lpOne 75 0 (loopLH loop_armplanmake_points_L0 0) noLoops)) 200 75 Try.f75 (mkT id [⟨[0], true, false, [.d (TSource)]⟩, ⟨[1], false, true, [.d (TVec)]⟩] x 0 (List.replicate 2 .top)) (mkH id [⟨[0], true, false, [.d (TSource)]⟩, ⟨[1], false, true, [.d (TVec)]⟩] x 0) (endS [.list (TVec)] [⟨[], true, false, [.d (TSource)]⟩]) = (t_armplanmake_points x.1.1 x.2.1.1).optA (fun (r : (List (DVec) × DSource)) => ((r.1, ()), ((r.2, ()), ()))) := by
  intro x; kernel_rfl
def hd_armplanmake_points : Hd := hdS 2 [⟨[0], true, false, [.d (TSource)]⟩, ⟨[1], false, true, [.d (TVec)]⟩] [⟨[], true, false, [.d (TSource)]⟩] [.list (TVec)] (fun x => dom_armplanmake_points x.1.1 x.2.1.1) (fun x => (fun (r : (List (DVec) × DSource)) => ((r.1, ()), ((r.2, ()), ()))) (armplanmake_points x.1.1 x.2.1.1)) (by kernel_rfl)
theorem fn_armplanmake_points : FnS Try.prog 75 2 [⟨[0], true, false, [.d (TSource)]⟩, ⟨[1], false, true, [.d (TVec)]⟩] [⟨[], true, false, [.d (TSource)]⟩] [.list (TVec)] (fun x => bif (fun x => dom_armplanmake_points x.1.1 x.2.1.1) x then some ((fun x => (fun (r : (List (DVec) × DSource)) => ((r.1, ()), ((r.2, ()), ()))) (armplanmake_points x.1.1 x.2.1.1)) x) else none) :=
  fnS_tree (np := 2) (ss := [⟨[0], true, false, [.d (TSource)]⟩, ⟨[1], false, true, [.d (TVec)]⟩]) (ss1 := [⟨[], true, false, [.d (TSource)]⟩]) (Ts := [.list (TVec)]) (R := (List (DVec) × DSource)) (dom := fun x => dom_armplanmake_points x.1.1 x.2.1.1) (t := fun (x : Sl [⟨[0], true, false, [.d (TSource)]⟩, ⟨[1], false, true, [.d (TVec)]⟩]) => t_armplanmake_points x.1.1 x.2.1.1) (mk := (fun (r : (List (DVec) × DSource)) => ((r.1, ()), ((r.2, ()), ())))) (mkC_ok etys_ok eeqs_ok (fns_cons ok_armplanmake_Source_Next (fns_nil _)) (inl_nil _) (lpOne_ok (b := loopBody 0 (Try.f75.body.getD .skip)) Try.func75 (by kernel_rfl) lok_armplanmake_points_L0 noLoops_ok) mixed) Try.func75 (by kernel_rfl) run_armplanmake_points (fun _ => .inr rfl)
theorem ok_armplanmake_points : HdOk Try.prog 75 hd_armplanmake_points.sem ∧ Enters Try.prog 75 := ⟨hdS_ok (by kernel_rfl) fn_armplanmake_points, _, Try.func75, by kernel_rfl, by kernel_rfl⟩

/- loop 0 of armplan/armplanmake.Scene -/
abbrev ss_armplanmake_Scene_L0 : List Slot := [⟨[3], true, false, [.d (TSource)]⟩, ⟨[4], true, false, [.d (TRobot), .v 104 (TShape), .v 106 (.pair (.int .i64) (.int .i64))]⟩, ⟨[5], false, false, [.d (.int .i64)]⟩]
abbrev os_armplanmake_Scene_L0 : List (Exit × List Slot) := [(.exit 0, [⟨[3], true, false, [.d (TSource)]⟩, ⟨[4], true, false, [.d (TRobot), .v 104 (TShape), .v 106 (.pair (.int .i64) (.int .i64))]⟩])]
def t_armplanmake_Scene_L0 (a0 : DSource) (a1 : DRobot) (a2 : List (DShape)) (a3 : List ((Int × Int))) (a4 : Int) : Tr (Sl ss_armplanmake_Scene_L0 ⊕ Outs os_armplanmake_Scene_L0) :=
  let x1 : Bool := decide (a4 < ((a1.1.length : Nat) : Int))
  .br (x1) (
   let r2 : (Int × DSource) := armplanmake_Source_Next a0 5
   .br (dom_armplanmake_Source_Next a0 5) (
    let x3 : Bool := decide (r2.1 < 4)
    .br (x3) (
     let r4 : (Int × DSource) := armplanmake_Source_Next r2.2 3
     .br (dom_armplanmake_Source_Next r2.2 3) (
      let x5 : Int := IntKind.wrap .i64 (1 + r4.1)
      let x6 : Int := IntKind.wrap .i64 (x5 * 65536)
      let x7 : Int := IntKind.wrap .i64 (Int.tdiv x6 8)
      let r8 : (Int × DSource) := armplanmake_Source_Next r4.2 4
      .br (dom_armplanmake_Source_Next r4.2 4) (
       let x9 : Int := IntKind.wrap .i64 (r8.1 * 32768)
       let r10 : (List (DVec) × DSource) := armplanmake_points r8.2 (x9, (0, 0))
       .br (dom_armplanmake_points r8.2 (x9, (0, 0))) (
        .br (room (a2.length + [(a4, (x7, r10.1))].length)) (
         let x11 : Int := IntKind.wrap .i64 (a4 + 1)
         .leaf (.inl ((r10.2, ()), (a1, (a2 ++ [(a4, (x7, r10.1))]), a3, ()), (x11, ()), ()))) .fail) .fail) .fail) .fail) (
     let x12 : Int := IntKind.wrap .i64 (a4 + 1)
     .leaf (.inl ((r2.2, ()), (a1, a2, a3, ()), (x12, ()), ())))) .fail) (
   .leaf (.inr ((a0, ()), (a1, a2, a3, ()), ())))
def step_armplanmake_Scene_L0 : Sl ss_armplanmake_Scene_L0 → Option (Sl ss_armplanmake_Scene_L0 ⊕ Outs os_armplanmake_Scene_L0) := fun x => (t_armplanmake_Scene_L0 x.1.1 x.2.1.1 x.2.1.2.1 x.2.1.2.2.1 x.2.2.1.1).optA id
theorem run_armplanmake_Scene_L0 : ∀ (x : Sl ss_armplanmake_Scene_L0) (vs : Nat → Value), run (mkC etys eeqs [(20, hd_armplanmake_Source_Next), (75, hd_armplanmake_points)] [] noLoops) 200 42 (loopBody 0 (Try.f42.body.getD .skip)) (mkSt ss_armplanmake_Scene_L0 x (baseT 89 [2] [] vs)) (endK ss_armplanmake_Scene_L0 os_armplanmake_Scene_L0 89 [2]) = (t_armplanmake_Scene_L0 x.1.1 x.2.1.1 x.2.1.2.1 x.2.1.2.2.1 x.2.2.1.1).optA fun r => (r, [2].map (keptA [] vs)) := by
  intro x vs; kernel_rfl
instance inh_armplanmake_Scene_L0 : Inhabited (Outs os_armplanmake_Scene_L0) := ⟨outsDflt os_armplanmake_Scene_L0⟩
def dom_armplanmake_Scene_L0 (x : Sl ss_armplanmake_Scene_L0) : Bool := (loopN step_armplanmake_Scene_L0 rounds x).isSome
def val_armplanmake_Scene_L0 (x : Sl ss_armplanmake_Scene_L0) : Outs os_armplanmake_Scene_L0 := (loopN step_armplanmake_Scene_L0 rounds x).getD default
def loop_armplanmake_Scene_L0 : LoopD := mkLoop ss_armplanmake_Scene_L0 os_armplanmake_Scene_L0 89 [2] [] step_armplanmake_Scene_L0 dom_armplanmake_Scene_L0 val_armplanmake_Scene_L0 (loop_hv step_armplanmake_Scene_L0)
theorem lok_armplanmake_Scene_L0 : LoopOk Try.prog (loopLH loop_armplanmake_Scene_L0 0) 0 (.loop (loopBody 0 (Try.f42.body.getD .skip))) := loop_in (D := loop_armplanmake_Scene_L0) (n := 200) (cur := 42) (mkC_ok etys_ok eeqs_ok (fns_cons ok_armplanmake_Source_Next (fns_cons ok_armplanmake_points (fns_nil _))) (inl_nil _) noLoops_ok mixed) Try.func42 (by kernel_rfl) (turns_of run_armplanmake_Scene_L0) (by kernel_rfl) (by kernel_rfl) (by kernel_rfl)

/- loop 2 of armplan/armplanmake.Scene -/
abbrev ss_armplanmake_Scene_L2 : List Slot := [⟨[3], true, false, [.d (TSource)]⟩, ⟨[4], true, false, [.d (TRobot), .v 104 (TShape), .v 106 (.pair (.int .i64) (.int .i64))]⟩, ⟨[6], false, false, [.d (.int .i64)]⟩]
abbrev os_armplanmake_Scene_L2 : List (Exit × List Slot) := [(.exit 2, [⟨[3], true, false, [.d (TSource)]⟩, ⟨[4], true, false, [.d (TRobot), .v 104 (TShape), .v 106 (.pair (.int .i64) (.int .i64))]⟩])]
def t_armplanmake_Scene_L2 (a0 : DSource) (a1 : DRobot) (a2 : List (DShape)) (a3 : List ((Int × Int))) (a4 : Int) : Tr (Sl ss_armplanmake_Scene_L2 ⊕ Outs os_armplanmake_Scene_L2) :=
  let x1 : Bool := decide (0 < a4)
  .br (x1) (
   let r2 : (Int × DSource) := armplanmake_Source_Signed a0 9
   .br (dom_armplanmake_Source_Signed a0 9) (
    let x3 : Int := IntKind.wrap .i64 (r2.1 * 32768)
    let r4 : (Int × DSource) := armplanmake_Source_Signed r2.2 9
    .br (dom_armplanmake_Source_Signed r2.2 9) (
     let x5 : Int := IntKind.wrap .i64 (r4.1 * 32768)
     let r6 : (Int × DSource) := armplanmake_Source_Signed r4.2 2
     .br (dom_armplanmake_Source_Signed r4.2 2) (
      let x7 : Int := IntKind.wrap .i64 (r6.1 * 32768)
      let r8 : (Int × DSource) := armplanmake_Source_Next r6.2 4
      .br (dom_armplanmake_Source_Next r6.2 4) (
       let x9 : Int := IntKind.wrap .i64 (1 + r8.1)
       let x10 : Int := IntKind.wrap .i64 (x9 * 65536)
       let x11 : Int := IntKind.wrap .i64 (Int.tdiv x10 8)
       let r12 : (List (DVec) × DSource) := armplanmake_points r8.2 (x3, (x5, x7))
       .br (dom_armplanmake_points r8.2 (x3, (x5, x7))) (
        .br (room (a2.length + [((-1), (x11, r12.1))].length)) (
         let x13 : Int := IntKind.wrap .i64 (a4 - 1)
         .leaf (.inl ((r12.2, ()), (a1, (a2 ++ [((-1), (x11, r12.1))]), a3, ()), (x13, ()), ()))) .fail) .fail) .fail) .fail) .fail) .fail) (
   .leaf (.inr ((a0, ()), (a1, a2, a3, ()), ())))
def step_armplanmake_Scene_L2 : Sl ss_armplanmake_Scene_L2 → Option (Sl ss_armplanmake_Scene_L2 ⊕ Outs os_armplanmake_Scene_L2) := fun x => (t_armplanmake_Scene_L2 x.1.1 x.2.1.1 x.2.1.2.1 x.2.1.2.2.1 x.2.2.1.1).optA id
theorem run_armplanmake_Scene_L2 : ∀ (x : Sl ss_armplanmake_Scene_L2) (vs : Nat → Value), run (mkC etys eeqs [(17, hd_armplanmake_Source_Signed), (20, hd_armplanmake_Source_Next), (75, hd_armplanmake_points)] [] noLoops) 200 42 (loopBody 2 (Try.f42.body.getD .skip)) (mkSt ss_armplanmake_Scene_L2 x (baseT 89 [2] [] vs)) (endK ss_armplanmake_Scene_L2 os_armplanmake_Scene_L2 89 [2]) = (t_armplanmake_Scene_L2 x.1.1 x.2.1.1 x.2.1.2.1 x.2.1.2.2.1 x.2.2.1.1).optA fun r => (r, [2].map (keptA [] vs)) := by
  intro x vs; kernel_rfl
instance inh_armplanmake_Scene_L2 : Inhabited (Outs os_armplanmake_Scene_L2) := ⟨outsDflt os_armplanmake_Scene_L2⟩
def dom_armplanmake_Scene_L2 (x : Sl ss_armplanmake_Scene_L2) : Bool := (loopN step_armplanmake_Scene_L2 rounds x).isSome
def val_armplanmake_Scene_L2 (x : Sl ss_armplanmake_Scene_L2) : Outs os_armplanmake_Scene_L2 := (loopN step_armplanmake_Scene_L2 rounds x).getD default
def loop_armplanmake_Scene_L2 : LoopD := mkLoop ss_armplanmake_Scene_L2 os_armplanmake_Scene_L2 89 [2] [] step_armplanmake_Scene_L2 dom_armplanmake_Scene_L2 val_armplanmake_Scene_L2 (loop_hv step_armplanmake_Scene_L2)
theorem lok_armplanmake_Scene_L2 : LoopOk Try.prog (loopLH loop_armplanmake_Scene_L2 2) 2 (.loop (loopBody 2 (Try.f42.body.getD .skip))) := loop_in (D := loop_armplanmake_Scene_L2) (n := 200) (cur := 42) (mkC_ok etys_ok eeqs_ok (fns_cons ok_armplanmake_Source_Signed (fns_cons ok_armplanmake_Source_Next (fns_cons ok_armplanmake_points (fns_nil _)))) (inl_nil _) noLoops_ok mixed) Try.func42 (by kernel_rfl) (turns_of run_armplanmake_Scene_L2) (by kernel_rfl) (by kernel_rfl) (by kernel_rfl)

/- armplan/armplanmake.Scene -/
def t_armplanmake_Scene (a0 : List (Int)) : Tr DScene :=
  let r1 : (DRobot × DSource) := armplanmake_robot (a0, 0)
  .br (dom_armplanmake_robot (a0, 0)) (
   let r2 : Outs os_armplanmake_Scene_L0 := val_armplanmake_Scene_L0 ((r1.2, ()), (r1.1, [], [], ()), (0, ()), ())
   .br (dom_armplanmake_Scene_L0 ((r1.2, ()), (r1.1, [], [], ()), (0, ()), ())) (
    let y3 : DSource := r2.1.1
    let y4 : DRobot := r2.2.1.1
    let y5 : List (DShape) := r2.2.1.2.1
    let y6 : List ((Int × Int)) := r2.2.1.2.2.1
    let r7 : (Int × DSource) := armplanmake_Source_Next y3 3
    .br (dom_armplanmake_Source_Next y3 3) (
     let x8 : Int := IntKind.wrap .i64 (1 + r7.1)
     let r9 : Outs os_armplanmake_Scene_L2 := val_armplanmake_Scene_L2 ((r7.2, ()), (y4, y5, y6, ()), (x8, ()), ())
     .br (dom_armplanmake_Scene_L2 ((r7.2, ()), (y4, y5, y6, ()), (x8, ()), ())) (
      let y10 : DSource := r9.1.1
      let y11 : DRobot := r9.2.1.1
      let y12 : List (DShape) := r9.2.1.2.1
      let y13 : List ((Int × Int)) := r9.2.1.2.2.1
      let r14 : (Int × DSource) := armplanmake_Source_Next y10 5
      .br (dom_armplanmake_Source_Next y10 5) (
       let x15 : Bool := decide (r14.1 = 1)
       .br (x15) (
        let r16 : (Int × DSource) := armplanmake_Source_Next r14.2 ((y11.1.length : Nat) : Int)
        .br (dom_armplanmake_Source_Next r14.2 ((y11.1.length : Nat) : Int)) (
         .br (room (y13.length + [((-1), r16.1)].length)) (
          .leaf (y11, (y12, (y13 ++ [((-1), r16.1)])))) .fail) .fail) (
        .leaf (y11, (y12, y13)))) .fail) .fail) .fail) .fail) .fail
def armplanmake_Scene (a0 : List (Int)) : DScene := (t_armplanmake_Scene a0).val
def dom_armplanmake_Scene (a0 : List (Int)) : Bool := (t_armplanmake_Scene a0).dom
theorem run_armplanmake_Scene : ∀ x, runF (mkC etys eeqs [(20, hd_armplanmake_Source_Next), (74, hd_armplanmake_robot)] [(15, Try.f15)] (lpOne 42 0 (loopLH loop_armplanmake_Scene_L0 0) (lpOne 42 2 (loopLH loop_armplanmake_Scene_L2 2) noLoops))) 200 42 Try.f42 (argsA [.list (.int .i64)] x) [] (fun v h => toRes h [TScene] v) = (t_armplanmake_Scene x.1).optA (fun r => (r, ())) := by
  intro x; kernel_rfl
theorem fn_armplanmake_Scene : FnOk Try.prog 42 [.list (.int .i64)] [TScene] (fun x => bif dom_armplanmake_Scene x.1 then some ((fun r => (r, ())) (armplanmake_Scene x.1)) else none) :=
  fn_part (t := fun (x : Ar [.list (.int .i64)]) => t_armplanmake_Scene x.1) (R := DScene) (Ts := [TScene]) (mk := (fun r => (r, ()))) (mkC_ok etys_ok eeqs_ok (fns_cons ok_armplanmake_Source_Next (fns_cons ok_armplanmake_robot (fns_nil _))) (inl_cons Try.func15 (by kernel_rfl) (inl_nil _)) (lpOne_ok (b := loopBody 0 (Try.f42.body.getD .skip)) Try.func42 (by kernel_rfl) lok_armplanmake_Scene_L0 (lpOne_ok (b := loopBody 2 (Try.f42.body.getD .skip)) Try.func42 (by kernel_rfl) lok_armplanmake_Scene_L2 noLoops_ok)) mixed) Try.func42 run_armplanmake_Scene
def hd_armplanmake_Scene : Hd := guardHd [.list (.int .i64)] [TScene] (fun x => dom_armplanmake_Scene x.1) (fun x => (fun r => (r, ())) (armplanmake_Scene x.1))
theorem ok_armplanmake_Scene : HdOk Try.prog 42 hd_armplanmake_Scene.sem ∧ Enters Try.prog 42 := guard_ok fn_armplanmake_Scene Try.func42 (by kernel_rfl) (by kernel_rfl)

/- loop 0 of armplan/armplanmake.Box -/
abbrev ss_armplanmake_Box_L0 : List Slot := [⟨[2], true, false, [.d (TRobot)]⟩, ⟨[5], true, false, [.d (TSource)]⟩, ⟨[6], false, false, [.v 26 (.pair (.int .i64) (.int .i64))]⟩, ⟨[7], false, false, [.d (.int .i64)]⟩]
abbrev os_armplanmake_Box_L0 : List (Exit × List Slot) := [(.exit 0, [⟨[2], true, false, [.d (TRobot)]⟩, ⟨[5], true, false, [.d (TSource)]⟩, ⟨[6], false, false, [.v 26 (.pair (.int .i64) (.int .i64))]⟩])]
def t_armplanmake_Box_L0 (a0 : DRobot) (a1 : DSource) (a2 : List ((Int × Int))) (a3 : Int) : Tr (Sl ss_armplanmake_Box_L0 ⊕ Outs os_armplanmake_Box_L0) :=
  let x1 : Bool := decide (a3 < ((a0.1.length : Nat) : Int))
  .br (x1) (
   .br (decide (0 ≤ a3) && decide (a3 < ((a0.1.length : Nat) : Int))) (
    .br (decide (0 ≤ a3) && decide (a3 < ((a0.1.length : Nat) : Int))) (
     let x2 : Int := IntKind.wrap .i64 ((((((((List.getD a0.1 a3.toNat (Ty.dflt (TJoint)))).2).2).2).2).2).1 - ((((((List.getD a0.1 a3.toNat (Ty.dflt (TJoint)))).2).2).2).2).1)
     let x3 : Int := IntKind.wrap .i64 (x2 + 1)
     let r4 : (Int × DSource) := armplanmake_Source_Next a1 x3
     .br (dom_armplanmake_Source_Next a1 x3) (
      let x5 : Int := IntKind.wrap .i64 (((((((List.getD a0.1 a3.toNat (Ty.dflt (TJoint)))).2).2).2).2).1 + r4.1)
      let r6 : (Int × DSource) := armplanmake_Source_Next r4.2 5
      .br (dom_armplanmake_Source_Next r4.2 5) (
       let x7 : Bool := decide (r6.1 = 0)
       .br (x7) (
        let x8 : Int := IntKind.wrap .i64 ((((((((List.getD a0.1 a3.toNat (Ty.dflt (TJoint)))).2).2).2).2).2).1 - ((((((List.getD a0.1 a3.toNat (Ty.dflt (TJoint)))).2).2).2).2).1)
        let x9 : Int := IntKind.wrap .i64 (x5 + x8)
        let x10 : Int := if x9 < (((((((List.getD a0.1 a3.toNat (Ty.dflt (TJoint)))).2).2).2).2).2).1 then x9 else (((((((List.getD a0.1 a3.toNat (Ty.dflt (TJoint)))).2).2).2).2).2).1
        .br (room (a2.length + [(x5, x10)].length)) (
         let x11 : Int := IntKind.wrap .i64 (a3 + 1)
         .leaf (.inl ((a0, ()), (r6.2, ()), ((a2 ++ [(x5, x10)]), ()), (x11, ()), ()))) .fail) (
        let x12 : Bool := decide (r6.1 = 1)
        .br (x12) (
         let r13 : (Int × DSource) := armplanmake_Source_Next r6.2 3000
         .br (dom_armplanmake_Source_Next r6.2 3000) (
          let x14 : Int := IntKind.wrap .i64 (x5 + r13.1)
          let x15 : Int := if x14 < (((((((List.getD a0.1 a3.toNat (Ty.dflt (TJoint)))).2).2).2).2).2).1 then x14 else (((((((List.getD a0.1 a3.toNat (Ty.dflt (TJoint)))).2).2).2).2).2).1
          .br (room (a2.length + [(x5, x15)].length)) (
           let x16 : Int := IntKind.wrap .i64 (a3 + 1)
           .leaf (.inl ((a0, ()), (r13.2, ()), ((a2 ++ [(x5, x15)]), ()), (x16, ()), ()))) .fail) .fail) (
         let x17 : Bool := decide (r6.1 = 2)
         .br (x17) (
          let r18 : (Int × DSource) := armplanmake_Source_Next r6.2 3000
          .br (dom_armplanmake_Source_Next r6.2 3000) (
           let x19 : Int := IntKind.wrap .i64 (x5 + r18.1)
           let x20 : Int := if x19 < (((((((List.getD a0.1 a3.toNat (Ty.dflt (TJoint)))).2).2).2).2).2).1 then x19 else (((((((List.getD a0.1 a3.toNat (Ty.dflt (TJoint)))).2).2).2).2).2).1
           .br (room (a2.length + [(x5, x20)].length)) (
            let x21 : Int := IntKind.wrap .i64 (a3 + 1)
            .leaf (.inl ((a0, ()), (r18.2, ()), ((a2 ++ [(x5, x20)]), ()), (x21, ()), ()))) .fail) .fail) (
          let x22 : Bool := decide (r6.1 = 3)
          .br (x22) (
           let r23 : (Int × DSource) := armplanmake_Source_Next r6.2 200
           .br (dom_armplanmake_Source_Next r6.2 200) (
            let x24 : Int := IntKind.wrap .i64 (x5 + r23.1)
            let x25 : Int := if x24 < (((((((List.getD a0.1 a3.toNat (Ty.dflt (TJoint)))).2).2).2).2).2).1 then x24 else (((((((List.getD a0.1 a3.toNat (Ty.dflt (TJoint)))).2).2).2).2).2).1
            .br (room (a2.length + [(x5, x25)].length)) (
             let x26 : Int := IntKind.wrap .i64 (a3 + 1)
             .leaf (.inl ((a0, ()), (r23.2, ()), ((a2 ++ [(x5, x25)]), ()), (x26, ()), ()))) .fail) .fail) (
           let x27 : Int := IntKind.wrap .i64 (x5 + 0)
           let x28 : Int := if x27 < (((((((List.getD a0.1 a3.toNat (Ty.dflt (TJoint)))).2).2).2).2).2).1 then x27 else (((((((List.getD a0.1 a3.toNat (Ty.dflt (TJoint)))).2).2).2).2).2).1
           .br (room (a2.length + [(x5, x28)].length)) (
            let x29 : Int := IntKind.wrap .i64 (a3 + 1)
            .leaf (.inl ((a0, ()), (r6.2, ()), ((a2 ++ [(x5, x28)]), ()), (x29, ()), ()))) .fail))))) .fail) .fail) .fail) .fail) (
   .leaf (.inr ((a0, ()), (a1, ()), (a2, ()), ())))
def step_armplanmake_Box_L0 : Sl ss_armplanmake_Box_L0 → Option (Sl ss_armplanmake_Box_L0 ⊕ Outs os_armplanmake_Box_L0) := fun x => (t_armplanmake_Box_L0 x.1.1 x.2.1.1 x.2.2.1.1 x.2.2.2.1.1).optA id
theorem run_armplanmake_Box_L0 : ∀ (x : Sl ss_armplanmake_Box_L0) (vs : Nat → Value), run (mkC etys eeqs [(20, hd_armplanmake_Source_Next)] [] noLoops) 200 43 (loopBody 0 (Try.f43.body.getD .skip)) (mkSt ss_armplanmake_Box_L0 x (baseT 68 [] [] vs)) (endK ss_armplanmake_Box_L0 os_armplanmake_Box_L0 68 []) = (t_armplanmake_Box_L0 x.1.1 x.2.1.1 x.2.2.1.1 x.2.2.2.1.1).optA fun r => (r, [].map (keptA [] vs)) := by
  intro x vs; kernel_rfl
instance inh_armplanmake_Box_L0 : Inhabited (Outs os_armplanmake_Box_L0) := ⟨outsDflt os_armplanmake_Box_L0⟩
def dom_armplanmake_Box_L0 (x : Sl ss_armplanmake_Box_L0) : Bool := (loopN step_armplanmake_Box_L0 rounds x).isSome
def val_armplanmake_Box_L0 (x : Sl ss_armplanmake_Box_L0) : Outs os_armplanmake_Box_L0 := (loopN step_armplanmake_Box_L0 rounds x).getD default
def loop_armplanmake_Box_L0 : LoopD := mkLoop ss_armplanmake_Box_L0 os_armplanmake_Box_L0 68 [] [] step_armplanmake_Box_L0 dom_armplanmake_Box_L0 val_armplanmake_Box_L0 (loop_hv step_armplanmake_Box_L0)
theorem lok_armplanmake_Box_L0 : LoopOk Try.prog (loopLH loop_armplanmake_Box_L0 0) 0 (.loop (loopBody 0 (Try.f43.body.getD .skip))) := loop_in (D := loop_armplanmake_Box_L0) (n := 200) (cur := 43) (mkC_ok etys_ok eeqs_ok (fns_cons ok_armplanmake_Source_Next (fns_nil _)) (inl_nil _) noLoops_ok mixed) Try.func43 (by kernel_rfl) (turns_of run_armplanmake_Box_L0) (by kernel_rfl) (by kernel_rfl) (by kernel_rfl)

/- armplan/armplanmake.Box -/
def t_armplanmake_Box (a0 : DRobot) (a1 : List (Int)) : Tr (List ((Int × Int))) :=
  let r1 : Outs os_armplanmake_Box_L0 := val_armplanmake_Box_L0 ((a0, ()), ((a1, 0), ()), ([], ()), (0, ()), ())
  .br (dom_armplanmake_Box_L0 ((a0, ()), ((a1, 0), ()), ([], ()), (0, ()), ())) (
   let y2 : DRobot := r1.1.1
   let y3 : DSource := r1.2.1.1
   let y4 : List ((Int × Int)) := r1.2.2.1.1
   .leaf y4) .fail
def armplanmake_Box (a0 : DRobot) (a1 : List (Int)) : List ((Int × Int)) := (t_armplanmake_Box a0 a1).val
def dom_armplanmake_Box (a0 : DRobot) (a1 : List (Int)) : Bool := (t_armplanmake_Box a0 a1).dom
theorem run_armplanmake_Box : ∀ x, runF (mkC etys eeqs [] [(15, Try.f15)] (lpOne 43 0 (loopLH loop_armplanmake_Box_L0 0) noLoops)) 200 43 Try.f43 (argsA [TRobot, .list (.int .i64)] x) [] (fun v h => toRes h [.list (.pair (.int .i64) (.int .i64))] v) = (t_armplanmake_Box x.1 x.2.1).optA (fun r => (r, ())) := by
  intro x; kernel_rfl
theorem fn_armplanmake_Box : FnOk Try.prog 43 [TRobot, .list (.int .i64)] [.list (.pair (.int .i64) (.int .i64))] (fun x => bif dom_armplanmake_Box x.1 x.2.1 then some ((fun r => (r, ())) (armplanmake_Box x.1 x.2.1)) else none) :=
  fn_part (t := fun (x : Ar [TRobot, .list (.int .i64)]) => t_armplanmake_Box x.1 x.2.1) (R := List ((Int × Int))) (Ts := [.list (.pair (.int .i64) (.int .i64))]) (mk := (fun r => (r, ()))) (mkC_ok etys_ok eeqs_ok (fns_nil _) (inl_cons Try.func15 (by kernel_rfl) (inl_nil _)) (lpOne_ok (b := loopBody 0 (Try.f43.body.getD .skip)) Try.func43 (by kernel_rfl) lok_armplanmake_Box_L0 noLoops_ok) mixed) Try.func43 run_armplanmake_Box
def hd_armplanmake_Box : Hd := guardHd [TRobot, .list (.int .i64)] [.list (.pair (.int .i64) (.int .i64))] (fun x => dom_armplanmake_Box x.1 x.2.1) (fun x => (fun r => (r, ())) (armplanmake_Box x.1 x.2.1))
theorem ok_armplanmake_Box : HdOk Try.prog 43 hd_armplanmake_Box.sem ∧ Enters Try.prog 43 := guard_ok fn_armplanmake_Box Try.func43 (by kernel_rfl) (by kernel_rfl)

end Go.RX

/-
  The contracts of functions.
-/
namespace Go.RX
open Go.Proofs

def ftys : List (Nat × TRow) := [(2, ⟨.int .i64, 1, 8, [.int .i64 0], .int .i64⟩),
  (3, ⟨.int .i64, 1, 8, [.int .i64 0], .int .i64⟩),
  (26, ⟨.struct [(0, 1), (1, 1)], 2, 16, [.int .i64 0, .int .i64 0], .pair (.int .i64) (.int .i64)⟩),
  (28, ⟨.arr 3 26, 6, 48, [.int .i64 0, .int .i64 0, .int .i64 0, .int .i64 0, .int .i64 0, .int .i64 0], TIVec⟩),
  (32, ⟨.arr 3 2, 3, 24, [.int .i64 0, .int .i64 0, .int .i64 0], TVec⟩),
  (49, ⟨.struct [(0, 18), (18, 6)], 24, 192, [.int .i64 0, .int .i64 0, .int .i64 0, .int .i64 0, .int .i64 0, .int .i64 0, .int .i64 0, .int .i64 0, .int .i64 0, .int .i64 0, .int .i64 0, .int .i64 0, .int .i64 0, .int .i64 0, .int .i64 0, .int .i64 0, .int .i64 0, .int .i64 0, .int .i64 0, .int .i64 0, .int .i64 0, .int .i64 0, .int .i64 0, .int .i64 0], TPose⟩),
  (58, ⟨.other, 1, 8, [.nilFunc], .unit⟩),
  (62, ⟨.struct [(0, 1), (1, 1), (2, 1), (3, 3), (6, 1), (7, 1), (8, 1), (9, 1), (10, 1), (11, 1)], 12, 104, [.string (ByteArray.mk #[]), .int .i64 0, .int .i64 0, .int .i64 0, .int .i64 0, .int .i64 0, .int .i64 0, .int .i64 0, .int .i64 0, .int .i64 0, .int .i64 0, .int .i64 0], TJoint⟩),
  (63, ⟨.slice 62, 1, 24, [.slice none 0 0], .list (TJoint)⟩),
  (66, ⟨.struct [(0, 1), (1, 1)], 2, 48, [.slice none 0 0, .slice none 0 0], TRobot⟩),
  (70, ⟨.struct [(0, 2), (2, 1), (3, 1)], 4, 96, [.slice none 0 0, .slice none 0 0, .slice none 0 0, .slice none 0 0], TScene⟩),
  (72, ⟨.slice 26, 1, 24, [.slice none 0 0], .list (.pair (.int .i64) (.int .i64))⟩),
  (108, ⟨.struct [(0, 1), (1, 1)], 2, 16, [.int .i64 0, .nilFunc], .unit⟩)]
def feqs : List (Nat × (Bool × List TK)) := [(28, (true, [.int .i64, .int .i64, .int .i64, .int .i64, .int .i64, .int .i64])),
  (49, (true, [.int .i64, .int .i64, .int .i64, .int .i64, .int .i64, .int .i64, .int .i64, .int .i64, .int .i64, .int .i64, .int .i64, .int .i64, .int .i64, .int .i64, .int .i64, .int .i64, .int .i64, .int .i64, .int .i64, .int .i64, .int .i64, .int .i64, .int .i64, .int .i64]))]
theorem ftys_ok : tableOk Try.prog ftys = true := by kernel_rfl
theorem feqs_ok : eqsOk Try.prog feqs = true := by kernel_rfl

/- armplan/kinematics.slide -/
def t_kinematics_slide (a0 : Int) (a1 : (Int × Int)) : Tr DPose :=
  .br (decide (a0 = 0)) (
   let r1 : DPose := pose_Shift (a1, ((0, 0), (0, 0)))
   .leaf r1) (
   .br (decide (a0 = 1)) (
    let r2 : DPose := pose_Shift ((0, 0), (a1, (0, 0)))
    .leaf r2) (
    .br (decide (a0 = 2)) (
     let r3 : DPose := pose_Shift ((0, 0), ((0, 0), a1))
     .leaf r3) (
     .fail)))
def kinematics_slide (a0 : Int) (a1 : (Int × Int)) : DPose := (t_kinematics_slide a0 a1).val
def dom_kinematics_slide (a0 : Int) (a1 : (Int × Int)) : Bool := (t_kinematics_slide a0 a1).dom
theorem run_kinematics_slide : ∀ x, runF (mkC ftys feqs [(33, hd_pose_Shift)] [] noLoops) 200 102 Try.f102 (argsA [.int .i64, .pair (.int .i64) (.int .i64)] x) [] (fun v h => toRes h [TPose] v) = (t_kinematics_slide x.1 x.2.1).optA (fun r => (r, ())) := by
  intro x; kernel_rfl
theorem fn_kinematics_slide : FnOk Try.prog 102 [.int .i64, .pair (.int .i64) (.int .i64)] [TPose] (fun x => bif dom_kinematics_slide x.1 x.2.1 then some ((fun r => (r, ())) (kinematics_slide x.1 x.2.1)) else none) :=
  fn_part (t := fun (x : Ar [.int .i64, .pair (.int .i64) (.int .i64)]) => t_kinematics_slide x.1 x.2.1) (R := DPose) (Ts := [TPose]) (mk := (fun r => (r, ()))) (mkC_ok ftys_ok feqs_ok (fns_cons ok_pose_Shift (fns_nil _)) (inl_nil _) noLoops_ok mixed) Try.func102 run_kinematics_slide
def hd_kinematics_slide : Hd := guardHd [.int .i64, .pair (.int .i64) (.int .i64)] [TPose] (fun x => dom_kinematics_slide x.1 x.2.1) (fun x => (fun r => (r, ())) (kinematics_slide x.1 x.2.1))
theorem ok_kinematics_slide : HdOk Try.prog 102 hd_kinematics_slide.sem ∧ Enters Try.prog 102 := guard_ok fn_kinematics_slide Try.func102 (by kernel_rfl) (by kernel_rfl)

/- armplan/kinematics.rest -/
def t_kinematics_rest (a0 : Int) (a1 : (Int × Int)) : Tr DPose :=
  let r1 : DPose := pose_Identity
  .leaf r1
def kinematics_rest (a0 : Int) (a1 : (Int × Int)) : DPose := (t_kinematics_rest a0 a1).val
theorem run_kinematics_rest : ∀ x, runF (mkC ftys feqs [(37, hd_pose_Identity)] [] noLoops) 200 103 Try.f103 (argsA [.int .i64, .pair (.int .i64) (.int .i64)] x) [] (fun v h => toRes h [TPose] v) = (t_kinematics_rest x.1 x.2.1).optA (fun r => (r, ())) := by
  intro x; kernel_rfl
theorem fn_kinematics_rest : FnOk Try.prog 103 [.int .i64, .pair (.int .i64) (.int .i64)] [TPose] (fun x => some ((fun r => (r, ())) (kinematics_rest x.1 x.2.1))) :=
  fn_tot (t := fun (x : Ar [.int .i64, .pair (.int .i64) (.int .i64)]) => t_kinematics_rest x.1 x.2.1) (R := DPose) (Ts := [TPose]) (mk := (fun r => (r, ()))) (mkC_ok ftys_ok feqs_ok (fns_cons ok_pose_Identity (fns_nil _)) (inl_nil _) noLoops_ok mixed) Try.func103 run_kinematics_rest (fun _ => by kernel_rfl)
def hd_kinematics_rest : Hd := dataHd [.int .i64, .pair (.int .i64) (.int .i64)] [TPose] (fun x => some ((fun r => (r, ())) (kinematics_rest x.1 x.2.1)))
theorem ok_kinematics_rest : HdOk Try.prog 103 hd_kinematics_rest.sem ∧ Enters Try.prog 103 := data_ok fn_kinematics_rest Try.func103 (by kernel_rfl) (by kernel_rfl)

/- armplan/kinematics.Joint -/
def t_kinematics_Joint (a0 : DJoint) (a1 : (Int × Int)) : Tr DPose :=
  let x1 : Bool := decide (a0.2.1 = 1)
  .br (x1) (
   let x2 : Int := IntKind.wrap .i64 (a0.2.1 - 1)
   let r3 : DIVec := matrix_Point a0.2.2.2.1
   let r4 : DPose := pose_Shift r3
   let r5 : DPose := pose_Turn x2 a1
   let r6 : DPose := pose_Compose r4 r5
   .leaf r6) (
   let x7 : Bool := decide (a0.2.1 = 2)
   .br (x7) (
    let x8 : Int := IntKind.wrap .i64 (a0.2.1 - 1)
    let r9 : DIVec := matrix_Point a0.2.2.2.1
    let r10 : DPose := pose_Shift r9
    let r11 : DPose := pose_Turn x8 a1
    let r12 : DPose := pose_Compose r10 r11
    .leaf r12) (
    let x13 : Bool := decide (a0.2.1 = 3)
    .br (x13) (
     let x14 : Int := IntKind.wrap .i64 (a0.2.1 - 1)
     let r15 : DIVec := matrix_Point a0.2.2.2.1
     let r16 : DPose := pose_Shift r15
     let r17 : DPose := pose_Turn x14 a1
     let r18 : DPose := pose_Compose r16 r17
     .leaf r18) (
     let x19 : Bool := decide (a0.2.1 = 4)
     .br (x19) (
      let x20 : Int := IntKind.wrap .i64 (a0.2.1 - 4)
      let r21 : DIVec := matrix_Point a0.2.2.2.1
      let r22 : DPose := pose_Shift r21
      let r23 : DPose := kinematics_slide x20 a1
      .br (dom_kinematics_slide x20 a1) (
       let r24 : DPose := pose_Compose r22 r23
       .leaf r24) .fail) (
      let x25 : Bool := decide (a0.2.1 = 5)
      .br (x25) (
       let x26 : Int := IntKind.wrap .i64 (a0.2.1 - 4)
       let r27 : DIVec := matrix_Point a0.2.2.2.1
       let r28 : DPose := pose_Shift r27
       let r29 : DPose := kinematics_slide x26 a1
       .br (dom_kinematics_slide x26 a1) (
        let r30 : DPose := pose_Compose r28 r29
        .leaf r30) .fail) (
       let x31 : Bool := decide (a0.2.1 = 6)
       .br (x31) (
        let x32 : Int := IntKind.wrap .i64 (a0.2.1 - 4)
        let r33 : DIVec := matrix_Point a0.2.2.2.1
        let r34 : DPose := pose_Shift r33
        let r35 : DPose := kinematics_slide x32 a1
        .br (dom_kinematics_slide x32 a1) (
         let r36 : DPose := pose_Compose r34 r35
         .leaf r36) .fail) (
        let r37 : DIVec := matrix_Point a0.2.2.2.1
        let r38 : DPose := pose_Shift r37
        let r39 : DPose := kinematics_rest 0 a1
        let r40 : DPose := pose_Compose r38 r39
        .leaf r40))))))
def kinematics_Joint (a0 : DJoint) (a1 : (Int × Int)) : DPose := (t_kinematics_Joint a0 a1).val
def dom_kinematics_Joint (a0 : DJoint) (a1 : (Int × Int)) : Bool := (t_kinematics_Joint a0 a1).dom
theorem run_kinematics_Joint : ∀ x, runF (mkC ftys feqs [(31, hd_pose_Compose), (33, hd_pose_Shift), (39, hd_pose_Turn), (66, hd_matrix_Point), (102, hd_kinematics_slide), (103, hd_kinematics_rest)] [(77, Try.f77)] noLoops) 200 45 Try.f45 (argsA [TJoint, .pair (.int .i64) (.int .i64)] x) [] (fun v h => toRes h [TPose] v) = (t_kinematics_Joint x.1 x.2.1).optA (fun r => (r, ())) := by
  intro x; kernel_rfl
theorem fn_kinematics_Joint : FnOk Try.prog 45 [TJoint, .pair (.int .i64) (.int .i64)] [TPose] (fun x => bif dom_kinematics_Joint x.1 x.2.1 then some ((fun r => (r, ())) (kinematics_Joint x.1 x.2.1)) else none) :=
  fn_part (t := fun (x : Ar [TJoint, .pair (.int .i64) (.int .i64)]) => t_kinematics_Joint x.1 x.2.1) (R := DPose) (Ts := [TPose]) (mk := (fun r => (r, ()))) (mkC_ok ftys_ok feqs_ok (fns_cons ok_pose_Compose (fns_cons ok_pose_Shift (fns_cons ok_pose_Turn (fns_cons ok_matrix_Point (fns_cons ok_kinematics_slide (fns_cons ok_kinematics_rest (fns_nil _))))))) (inl_cons Try.func77 (by kernel_rfl) (inl_nil _)) noLoops_ok mixed) Try.func45 run_kinematics_Joint
def hd_kinematics_Joint : Hd := guardHd [TJoint, .pair (.int .i64) (.int .i64)] [TPose] (fun x => dom_kinematics_Joint x.1 x.2.1) (fun x => (fun r => (r, ())) (kinematics_Joint x.1 x.2.1))
theorem ok_kinematics_Joint : HdOk Try.prog 45 hd_kinematics_Joint.sem ∧ Enters Try.prog 45 := guard_ok fn_kinematics_Joint Try.func45 (by kernel_rfl) (by kernel_rfl)

/- armplan/armplanlaw11.awake -/
def t_armplanlaw11_awake : Tr Bool :=
  let r1 : (Int × Int) := armplanref1_Of 16384
  let r2 : DPose := kinematics_Joint ((ByteArray.mk #[]), (3, (0, ((9, (0, 0)), (0, (0, (0, (0, (0, 0))))))))) r1
  .br (dom_kinematics_Joint ((ByteArray.mk #[]), (3, (0, ((9, (0, 0)), (0, (0, (0, (0, (0, 0))))))))) r1) (
   let r3 : DIVec := armplanref1_Point (5, (0, 0))
   let r4 : DIVec := armplanref1_Apply r2 r3
   let r5 : DIVec := armplanref1_Point (9, (5, 0))
   let x6 : Bool := (decide (r4.1.1 = r5.1.1) && (decide (r4.1.2 = r5.1.2) && (decide (r4.2.1.1 = r5.2.1.1) && (decide (r4.2.1.2 = r5.2.1.2) && (decide (r4.2.2.1 = r5.2.2.1) && (decide (r4.2.2.2 = r5.2.2.2) && true))))))
   .leaf x6) .fail
def armplanlaw11_awake : Bool := t_armplanlaw11_awake.val
def dom_armplanlaw11_awake : Bool := t_armplanlaw11_awake.dom
theorem run_armplanlaw11_awake : ∀ x, runF (mkC ftys feqs [(16, hd_armplanref1_Point), (21, hd_armplanref1_Of), (45, hd_kinematics_Joint), (76, hd_armplanref1_Apply)] [] noLoops) 200 44 Try.f44 (argsA [] x) [] (fun v h => toRes h [.bool] v) = (t_armplanlaw11_awake ).optA (fun r => (r, ())) := by
  intro x; kernel_rfl
theorem fn_armplanlaw11_awake : FnOk Try.prog 44 [] [.bool] (fun x => bif dom_armplanlaw11_awake  then some ((fun r => (r, ())) (armplanlaw11_awake )) else none) :=
  fn_part (t := fun (_ : Ar []) => t_armplanlaw11_awake ) (R := Bool) (Ts := [.bool]) (mk := (fun r => (r, ()))) (mkC_ok ftys_ok feqs_ok (fns_cons ok_armplanref1_Point (fns_cons ok_armplanref1_Of (fns_cons ok_kinematics_Joint (fns_cons ok_armplanref1_Apply (fns_nil _))))) (inl_nil _) noLoops_ok mixed) Try.func44 run_armplanlaw11_awake
def hd_armplanlaw11_awake : Hd := guardHd [] [.bool] (fun x => dom_armplanlaw11_awake ) (fun x => (fun r => (r, ())) (armplanlaw11_awake ))
theorem ok_armplanlaw11_awake : HdOk Try.prog 44 hd_armplanlaw11_awake.sem ∧ Enters Try.prog 44 := guard_ok fn_armplanlaw11_awake Try.func44 (by kernel_rfl) (by kernel_rfl)

/- armplan/armplanref10.Joint -/
def t_armplanref10_Joint (a0 : DJoint) (a1 : (Int × Int)) : Tr DPose :=
  let r1 : DPose := armplanref1_Rest
  let x2 : Bool := decide (a0.2.1 = 1)
  .br (x2) (
   let x3 : Int := IntKind.wrap .i64 (a0.2.1 - 1)
   let r4 : DPose := armplanref1_TurnPose x3 a1
   let r5 : DIVec := armplanref1_Point a0.2.2.2.1
   let r6 : DPose := armplanref1_Shift r5
   let r7 : DPose := armplanref1_Compose r6 r4
   .leaf r7) (
   let x8 : Bool := decide (a0.2.1 = 2)
   .br (x8) (
    let x9 : Int := IntKind.wrap .i64 (a0.2.1 - 1)
    let r10 : DPose := armplanref1_TurnPose x9 a1
    let r11 : DIVec := armplanref1_Point a0.2.2.2.1
    let r12 : DPose := armplanref1_Shift r11
    let r13 : DPose := armplanref1_Compose r12 r10
    .leaf r13) (
    let x14 : Bool := decide (a0.2.1 = 3)
    .br (x14) (
     let x15 : Int := IntKind.wrap .i64 (a0.2.1 - 1)
     let r16 : DPose := armplanref1_TurnPose x15 a1
     let r17 : DIVec := armplanref1_Point a0.2.2.2.1
     let r18 : DPose := armplanref1_Shift r17
     let r19 : DPose := armplanref1_Compose r18 r16
     .leaf r19) (
     let x20 : Bool := decide (a0.2.1 = 4)
     .br (x20) (
      let x21 : Int := IntKind.wrap .i64 (a0.2.1 - 4)
      .br (decide (x21 = 0)) (
       let r22 : DPose := armplanref1_Shift (a1, ((0, 0), (0, 0)))
       let r23 : DIVec := armplanref1_Point a0.2.2.2.1
       let r24 : DPose := armplanref1_Shift r23
       let r25 : DPose := armplanref1_Compose r24 r22
       .leaf r25) (
       .br (decide (x21 = 1)) (
        let r26 : DPose := armplanref1_Shift ((0, 0), (a1, (0, 0)))
        let r27 : DIVec := armplanref1_Point a0.2.2.2.1
        let r28 : DPose := armplanref1_Shift r27
        let r29 : DPose := armplanref1_Compose r28 r26
        .leaf r29) (
        .br (decide (x21 = 2)) (
         let r30 : DPose := armplanref1_Shift ((0, 0), ((0, 0), a1))
         let r31 : DIVec := armplanref1_Point a0.2.2.2.1
         let r32 : DPose := armplanref1_Shift r31
         let r33 : DPose := armplanref1_Compose r32 r30
         .leaf r33) (
         .fail)))) (
      let x34 : Bool := decide (a0.2.1 = 5)
      .br (x34) (
       let x35 : Int := IntKind.wrap .i64 (a0.2.1 - 4)
       .br (decide (x35 = 0)) (
        let r36 : DPose := armplanref1_Shift (a1, ((0, 0), (0, 0)))
        let r37 : DIVec := armplanref1_Point a0.2.2.2.1
        let r38 : DPose := armplanref1_Shift r37
        let r39 : DPose := armplanref1_Compose r38 r36
        .leaf r39) (
        .br (decide (x35 = 1)) (
         let r40 : DPose := armplanref1_Shift ((0, 0), (a1, (0, 0)))
         let r41 : DIVec := armplanref1_Point a0.2.2.2.1
         let r42 : DPose := armplanref1_Shift r41
         let r43 : DPose := armplanref1_Compose r42 r40
         .leaf r43) (
         .br (decide (x35 = 2)) (
          let r44 : DPose := armplanref1_Shift ((0, 0), ((0, 0), a1))
          let r45 : DIVec := armplanref1_Point a0.2.2.2.1
          let r46 : DPose := armplanref1_Shift r45
          let r47 : DPose := armplanref1_Compose r46 r44
          .leaf r47) (
          .fail)))) (
       let x48 : Bool := decide (a0.2.1 = 6)
       .br (x48) (
        let x49 : Int := IntKind.wrap .i64 (a0.2.1 - 4)
        .br (decide (x49 = 0)) (
         let r50 : DPose := armplanref1_Shift (a1, ((0, 0), (0, 0)))
         let r51 : DIVec := armplanref1_Point a0.2.2.2.1
         let r52 : DPose := armplanref1_Shift r51
         let r53 : DPose := armplanref1_Compose r52 r50
         .leaf r53) (
         .br (decide (x49 = 1)) (
          let r54 : DPose := armplanref1_Shift ((0, 0), (a1, (0, 0)))
          let r55 : DIVec := armplanref1_Point a0.2.2.2.1
          let r56 : DPose := armplanref1_Shift r55
          let r57 : DPose := armplanref1_Compose r56 r54
          .leaf r57) (
          .br (decide (x49 = 2)) (
           let r58 : DPose := armplanref1_Shift ((0, 0), ((0, 0), a1))
           let r59 : DIVec := armplanref1_Point a0.2.2.2.1
           let r60 : DPose := armplanref1_Shift r59
           let r61 : DPose := armplanref1_Compose r60 r58
           .leaf r61) (
           .fail)))) (
        let r62 : DIVec := armplanref1_Point a0.2.2.2.1
        let r63 : DPose := armplanref1_Shift r62
        let r64 : DPose := armplanref1_Compose r63 r1
        .leaf r64))))))
def armplanref10_Joint (a0 : DJoint) (a1 : (Int × Int)) : DPose := (t_armplanref10_Joint a0 a1).val
def dom_armplanref10_Joint (a0 : DJoint) (a1 : (Int × Int)) : Bool := (t_armplanref10_Joint a0 a1).dom
theorem run_armplanref10_Joint : ∀ x, runF (mkC ftys feqs [(16, hd_armplanref1_Point), (34, hd_armplanref1_Shift), (38, hd_armplanref1_Rest), (40, hd_armplanref1_TurnPose), (41, hd_armplanref1_Compose)] [] noLoops) 200 46 Try.f46 (argsA [TJoint, .pair (.int .i64) (.int .i64)] x) [] (fun v h => toRes h [TPose] v) = (t_armplanref10_Joint x.1 x.2.1).optA (fun r => (r, ())) := by
  intro x; kernel_rfl
theorem fn_armplanref10_Joint : FnOk Try.prog 46 [TJoint, .pair (.int .i64) (.int .i64)] [TPose] (fun x => bif dom_armplanref10_Joint x.1 x.2.1 then some ((fun r => (r, ())) (armplanref10_Joint x.1 x.2.1)) else none) :=
  fn_part (t := fun (x : Ar [TJoint, .pair (.int .i64) (.int .i64)]) => t_armplanref10_Joint x.1 x.2.1) (R := DPose) (Ts := [TPose]) (mk := (fun r => (r, ()))) (mkC_ok ftys_ok feqs_ok (fns_cons ok_armplanref1_Point (fns_cons ok_armplanref1_Shift (fns_cons ok_armplanref1_Rest (fns_cons ok_armplanref1_TurnPose (fns_cons ok_armplanref1_Compose (fns_nil _)))))) (inl_nil _) noLoops_ok mixed) Try.func46 run_armplanref10_Joint
def hd_armplanref10_Joint : Hd := guardHd [TJoint, .pair (.int .i64) (.int .i64)] [TPose] (fun x => dom_armplanref10_Joint x.1 x.2.1) (fun x => (fun r => (r, ())) (armplanref10_Joint x.1 x.2.1))
theorem ok_armplanref10_Joint : HdOk Try.prog 46 hd_armplanref10_Joint.sem ∧ Enters Try.prog 46 := guard_ok fn_armplanref10_Joint Try.func46 (by kernel_rfl) (by kernel_rfl)

/- armplan/armplanlaw11.KinematicsJoints -/
def t_armplanlaw11_KinematicsJoints (a0 : DJoint) (a1 : (Int × Int)) (a2 : List (Int)) (a3 : Int) : Tr Bool :=
  let r1 : DScene := armplanmake_Scene a2
  .br (dom_armplanmake_Scene a2) (
   let r2 : List ((Int × Int)) := armplanmake_Box r1.1 a2
   .br (dom_armplanmake_Box r1.1 a2) (
    .br (decide (0 < ((r1.1.1.length : Nat) : Int))) (
     let r3 : Int := armplanmake_Round a3 9
     let x4 : Int := IntKind.wrap .i64 (r3 - 1)
     let r5 : Bool := armplanlaw11_awake
     .br (dom_armplanlaw11_awake) (
      .br (r5) (
       let r6 : DPose := kinematics_Joint a0 a1
       .br (dom_kinematics_Joint a0 a1) (
        let r7 : DPose := armplanref10_Joint a0 a1
        .br (dom_armplanref10_Joint a0 a1) (
         let x8 : Bool := (decide (r6.1.1.1.1 = r7.1.1.1.1) && (decide (r6.1.1.1.2 = r7.1.1.1.2) && (decide (r6.1.1.2.1.1 = r7.1.1.2.1.1) && (decide (r6.1.1.2.1.2 = r7.1.1.2.1.2) && (decide (r6.1.1.2.2.1 = r7.1.1.2.2.1) && (decide (r6.1.1.2.2.2 = r7.1.1.2.2.2) && (decide (r6.1.2.1.1.1 = r7.1.2.1.1.1) && (decide (r6.1.2.1.1.2 = r7.1.2.1.1.2) && (decide (r6.1.2.1.2.1.1 = r7.1.2.1.2.1.1) && (decide (r6.1.2.1.2.1.2 = r7.1.2.1.2.1.2) && (decide (r6.1.2.1.2.2.1 = r7.1.2.1.2.2.1) && (decide (r6.1.2.1.2.2.2 = r7.1.2.1.2.2.2) && (decide (r6.1.2.2.1.1 = r7.1.2.2.1.1) && (decide (r6.1.2.2.1.2 = r7.1.2.2.1.2) && (decide (r6.1.2.2.2.1.1 = r7.1.2.2.2.1.1) && (decide (r6.1.2.2.2.1.2 = r7.1.2.2.2.1.2) && (decide (r6.1.2.2.2.2.1 = r7.1.2.2.2.2.1) && (decide (r6.1.2.2.2.2.2 = r7.1.2.2.2.2.2) && (decide (r6.2.1.1 = r7.2.1.1) && (decide (r6.2.1.2 = r7.2.1.2) && (decide (r6.2.2.1.1 = r7.2.2.1.1) && (decide (r6.2.2.1.2 = r7.2.2.1.2) && (decide (r6.2.2.2.1 = r7.2.2.2.1) && (decide (r6.2.2.2.2 = r7.2.2.2.2) && true))))))))))))))))))))))))
         .br (x8) (
          .br (decide (0 < ((r2.length : Nat) : Int))) (
           let r9 : DPose := kinematics_Joint (((List.getD r1.1.1 0 (Ty.dflt (TJoint)))).1, (x4, (((List.getD r1.1.1 0 (Ty.dflt (TJoint)))).2).2)) (List.getD r2 0 (Ty.dflt (.pair (.int .i64) (.int .i64))))
           .br (dom_kinematics_Joint (((List.getD r1.1.1 0 (Ty.dflt (TJoint)))).1, (x4, (((List.getD r1.1.1 0 (Ty.dflt (TJoint)))).2).2)) (List.getD r2 0 (Ty.dflt (.pair (.int .i64) (.int .i64))))) (
            .br (decide (0 < ((r2.length : Nat) : Int))) (
             let r10 : DPose := armplanref10_Joint (((List.getD r1.1.1 0 (Ty.dflt (TJoint)))).1, (x4, (((List.getD r1.1.1 0 (Ty.dflt (TJoint)))).2).2)) (List.getD r2 0 (Ty.dflt (.pair (.int .i64) (.int .i64))))
             .br (dom_armplanref10_Joint (((List.getD r1.1.1 0 (Ty.dflt (TJoint)))).1, (x4, (((List.getD r1.1.1 0 (Ty.dflt (TJoint)))).2).2)) (List.getD r2 0 (Ty.dflt (.pair (.int .i64) (.int .i64))))) (
              let x11 : Bool := (decide (r9.1.1.1.1 = r10.1.1.1.1) && (decide (r9.1.1.1.2 = r10.1.1.1.2) && (decide (r9.1.1.2.1.1 = r10.1.1.2.1.1) && (decide (r9.1.1.2.1.2 = r10.1.1.2.1.2) && (decide (r9.1.1.2.2.1 = r10.1.1.2.2.1) && (decide (r9.1.1.2.2.2 = r10.1.1.2.2.2) && (decide (r9.1.2.1.1.1 = r10.1.2.1.1.1) && (decide (r9.1.2.1.1.2 = r10.1.2.1.1.2) && (decide (r9.1.2.1.2.1.1 = r10.1.2.1.2.1.1) && (decide (r9.1.2.1.2.1.2 = r10.1.2.1.2.1.2) && (decide (r9.1.2.1.2.2.1 = r10.1.2.1.2.2.1) && (decide (r9.1.2.1.2.2.2 = r10.1.2.1.2.2.2) && (decide (r9.1.2.2.1.1 = r10.1.2.2.1.1) && (decide (r9.1.2.2.1.2 = r10.1.2.2.1.2) && (decide (r9.1.2.2.2.1.1 = r10.1.2.2.2.1.1) && (decide (r9.1.2.2.2.1.2 = r10.1.2.2.2.1.2) && (decide (r9.1.2.2.2.2.1 = r10.1.2.2.2.2.1) && (decide (r9.1.2.2.2.2.2 = r10.1.2.2.2.2.2) && (decide (r9.2.1.1 = r10.2.1.1) && (decide (r9.2.1.2 = r10.2.1.2) && (decide (r9.2.2.1.1 = r10.2.2.1.1) && (decide (r9.2.2.1.2 = r10.2.2.1.2) && (decide (r9.2.2.2.1 = r10.2.2.2.1) && (decide (r9.2.2.2.2 = r10.2.2.2.2) && true))))))))))))))))))))))))
              .br (x11) (
               let r12 : DPose := kinematics_Joint (((List.getD r1.1.1 0 (Ty.dflt (TJoint)))).1, (x4, (((List.getD r1.1.1 0 (Ty.dflt (TJoint)))).2).2)) a1
               .br (dom_kinematics_Joint (((List.getD r1.1.1 0 (Ty.dflt (TJoint)))).1, (x4, (((List.getD r1.1.1 0 (Ty.dflt (TJoint)))).2).2)) a1) (
                let r13 : DPose := armplanref10_Joint (((List.getD r1.1.1 0 (Ty.dflt (TJoint)))).1, (x4, (((List.getD r1.1.1 0 (Ty.dflt (TJoint)))).2).2)) a1
                .br (dom_armplanref10_Joint (((List.getD r1.1.1 0 (Ty.dflt (TJoint)))).1, (x4, (((List.getD r1.1.1 0 (Ty.dflt (TJoint)))).2).2)) a1) (
                 let x14 : Bool := (decide (r12.1.1.1.1 = r13.1.1.1.1) && (decide (r12.1.1.1.2 = r13.1.1.1.2) && (decide (r12.1.1.2.1.1 = r13.1.1.2.1.1) && (decide (r12.1.1.2.1.2 = r13.1.1.2.1.2) && (decide (r12.1.1.2.2.1 = r13.1.1.2.2.1) && (decide (r12.1.1.2.2.2 = r13.1.1.2.2.2) && (decide (r12.1.2.1.1.1 = r13.1.2.1.1.1) && (decide (r12.1.2.1.1.2 = r13.1.2.1.1.2) && (decide (r12.1.2.1.2.1.1 = r13.1.2.1.2.1.1) && (decide (r12.1.2.1.2.1.2 = r13.1.2.1.2.1.2) && (decide (r12.1.2.1.2.2.1 = r13.1.2.1.2.2.1) && (decide (r12.1.2.1.2.2.2 = r13.1.2.1.2.2.2) && (decide (r12.1.2.2.1.1 = r13.1.2.2.1.1) && (decide (r12.1.2.2.1.2 = r13.1.2.2.1.2) && (decide (r12.1.2.2.2.1.1 = r13.1.2.2.2.1.1) && (decide (r12.1.2.2.2.1.2 = r13.1.2.2.2.1.2) && (decide (r12.1.2.2.2.2.1 = r13.1.2.2.2.2.1) && (decide (r12.1.2.2.2.2.2 = r13.1.2.2.2.2.2) && (decide (r12.2.1.1 = r13.2.1.1) && (decide (r12.2.1.2 = r13.2.1.2) && (decide (r12.2.2.1.1 = r13.2.2.1.1) && (decide (r12.2.2.1.2 = r13.2.2.1.2) && (decide (r12.2.2.2.1 = r13.2.2.2.1) && (decide (r12.2.2.2.2 = r13.2.2.2.2) && true))))))))))))))))))))))))
                 .leaf x14) .fail) .fail) (
               .leaf false)) .fail) .fail) .fail) .fail) (
          .leaf false)) .fail) .fail) (
       .leaf false)) .fail) .fail) .fail) .fail
def armplanlaw11_KinematicsJoints (a0 : DJoint) (a1 : (Int × Int)) (a2 : List (Int)) (a3 : Int) : Bool := (t_armplanlaw11_KinematicsJoints a0 a1 a2 a3).val
def dom_armplanlaw11_KinematicsJoints (a0 : DJoint) (a1 : (Int × Int)) (a2 : List (Int)) (a3 : Int) : Bool := (t_armplanlaw11_KinematicsJoints a0 a1 a2 a3).dom
theorem run_armplanlaw11_KinematicsJoints : ∀ x, runF (mkC ftys feqs [(36, hd_armplanmake_Round), (42, hd_armplanmake_Scene), (43, hd_armplanmake_Box), (44, hd_armplanlaw11_awake), (45, hd_kinematics_Joint), (46, hd_armplanref10_Joint)] [] noLoops) 200 9 Try.f9 (argsA [TJoint, .pair (.int .i64) (.int .i64), .list (.int .i64), .int .i64] x) [] (fun v h => toRes h [.bool] v) = (t_armplanlaw11_KinematicsJoints x.1 x.2.1 x.2.2.1 x.2.2.2.1).optA (fun r => (r, ())) := by
  intro x; kernel_rfl
theorem fn_armplanlaw11_KinematicsJoints : FnOk Try.prog 9 [TJoint, .pair (.int .i64) (.int .i64), .list (.int .i64), .int .i64] [.bool] (fun x => bif dom_armplanlaw11_KinematicsJoints x.1 x.2.1 x.2.2.1 x.2.2.2.1 then some ((fun r => (r, ())) (armplanlaw11_KinematicsJoints x.1 x.2.1 x.2.2.1 x.2.2.2.1)) else none) :=
  fn_part (t := fun (x : Ar [TJoint, .pair (.int .i64) (.int .i64), .list (.int .i64), .int .i64]) => t_armplanlaw11_KinematicsJoints x.1 x.2.1 x.2.2.1 x.2.2.2.1) (R := Bool) (Ts := [.bool]) (mk := (fun r => (r, ()))) (mkC_ok ftys_ok feqs_ok (fns_cons ok_armplanmake_Round (fns_cons ok_armplanmake_Scene (fns_cons ok_armplanmake_Box (fns_cons ok_armplanlaw11_awake (fns_cons ok_kinematics_Joint (fns_cons ok_armplanref10_Joint (fns_nil _))))))) (inl_nil _) noLoops_ok mixed) Try.func9 run_armplanlaw11_KinematicsJoints
end Go.RX

/-
  token.Name, whose loop runs over a text's letters: its contract.
-/
namespace Go.RX
open Go.Proofs Go.RowKit

/-- A byte that may stand at place i of a name. -/
def nameByte (i : Nat) (b : UInt8) : Bool := (decide (97 ≤ b.toNat) && decide (b.toNat ≤ 122)) || (!decide (i = 0) && (decide (b.toNat = 95) || (decide (48 ≤ b.toNat) && decide (b.toNat ≤ 57))))

def nameFrom : Nat → List UInt8 → Bool
  | _, [] => true
  | i, b :: l => nameByte i b && nameFrom (i + 1) l

def token_Name (s : ByteArray) : Bool := nameFrom 0 s.data.toList && (decide (1 ≤ (s.size : Int)) && decide ((s.size : Int) ≤ 16) && !(s.toList == [119, 111, 114, 108, 100]))

theorem nameFrom_drop (s : ByteArray) (pos : Nat) (h : pos < s.size) : nameFrom pos (s.data.toList.drop pos) = (nameByte pos (s[pos]'h) && nameFrom (pos + 1) (s.data.toList.drop (pos + 1))) := by
  have hl : pos < s.data.toList.length := by simpa using h
  rw [List.drop_eq_getElem_cons hl]
  rfl

set_option maxRecDepth 1000000 in
theorem walk_token_Name (s : ByteArray) (w : World) :
    Calls Try.prog 124 #[.string s] w fun e w' => e = .returned (.bool (token_Name s)) ∧ ∃ pos, w' = w.iter s pos := by
  go_enter Try.func124, Try.ntmps124
  go_wp2
  go_loopw [] (fun w' => ∃ (pos : Nat), w' = w.iter s pos ∧ pos ≤ s.size ∧ nameFrom 0 s.data.toList = nameFrom pos (s.data.toList.drop pos)) (fun w' => s.size - w'.iterPos w.heap.size)
  case atStart => exact ⟨0, rfl, Nat.zero_le _, rfl⟩
  case round =>
    obtain ⟨pos, rfl, hps, hc⟩ := hrel
    by_cases hp : pos < s.size
    · have hnx : ∀ ty, (Instr.next (.pointer (some ⟨w.heap.size, 0, none⟩)) true ty).run Try.prog (w.iter s pos) = _ := fun ty => run_next_any w s pos ty hp
      rw [nameFrom_drop s pos hp] at hc
      by_cases hb : (s[pos]'hp).toNat < 128
      · simp only [decode_ascii s pos hp hb] at hnx
        generalize hbb : s[pos]'hp = b at hc hnx hb
        have hon : nameByte pos b = true → nameFrom 0 s.data.toList = nameFrom (pos + 1) (s.data.toList.drop (pos + 1)) := fun h => by rw [hc, h]; rfl
        have hoff : nameByte pos b = false → token_Name s = false := fun h => by unfold token_Name; rw [hc, h]; rfl
        clear hc hbb
        go_wp2
        all_goals clear hnx
        all_goals try simp only [Bool.not_eq_true', Bool.not_eq_false', decide_eq_true_eq, decide_eq_false_iff_not, beq_iff_eq, bne_iff_ne, Bool.or_eq_true, Bool.and_eq_true, beq_eq_false_iff_ne, bne_eq_false_iff_eq, Bool.or_eq_false_iff, Bool.and_eq_false_iff] at *
        all_goals first
          | (exfalso; omega)
          | (refine ⟨⟨_, rfl, by omega, hon (by unfold nameByte; simp only [Bool.or_eq_true, Bool.and_eq_true, Bool.not_eq_true', decide_eq_true_eq, decide_eq_false_iff_not]; omega)⟩, by simp; omega⟩)
          | (go_ret; refine ⟨?_, _, rfl⟩; show Ending.returned (Value.bool false) = _; rw [hoff (by unfold nameByte; simp only [Bool.or_eq_false_iff, Bool.and_eq_false_iff, Bool.not_eq_false', decide_eq_true_eq, decide_eq_false_iff_not]; omega)])
      · have hh := decode_high s pos hp (by omega)
        generalize (Utf8.decode s pos) = d at hnx hh
        generalize hbb : s[pos]'hp = b at hc hb
        have hoff : token_Name s = false := by
          have : nameByte pos b = false := by unfold nameByte; simp only [Bool.or_eq_false_iff, Bool.and_eq_false_iff, Bool.not_eq_false', decide_eq_true_eq, decide_eq_false_iff_not]; omega
          unfold token_Name; rw [hc, this]; rfl
        clear hc hbb
        go_wp2
        all_goals clear hnx
        all_goals try simp only [Bool.not_eq_true', Bool.not_eq_false', decide_eq_true_eq, decide_eq_false_iff_not, beq_iff_eq, bne_iff_ne, Bool.or_eq_true, Bool.and_eq_true, beq_eq_false_iff_ne, bne_eq_false_iff_eq, Bool.or_eq_false_iff, Bool.and_eq_false_iff] at *
        all_goals first
          | (exfalso; omega)
          | (go_ret; refine ⟨?_, _, rfl⟩; show Ending.returned (Value.bool false) = _; rw [hoff])
    · have hnx : ∀ ty, (Instr.next (.pointer (some ⟨w.heap.size, 0, none⟩)) true ty).run Try.prog (w.iter s pos) = _ := fun ty => run_next_end w s pos ty hp
      have hall : nameFrom 0 s.data.toList = true := by rw [hc, List.drop_eq_nil_of_le (by simpa using Nat.not_lt.1 hp)]; rfl
      go_wp2
      all_goals
        go_ret
        refine ⟨?_, _, rfl⟩
        unfold token_Name
        rw [hall]
        first
          | (show Ending.returned (Value.bool false) = _; rw [decide_eq_false (p := (1 : Int) ≤ (s.size : Int)) (by omega)]; rfl)
          | (show Ending.returned (Value.bool false) = _; rw [decide_eq_false (p := (s.size : Int) ≤ 16) (by omega), Bool.and_false]; rfl)
          | (show Ending.returned (Value.bool _) = _; rw [decide_eq_true (p := (1 : Int) ≤ (s.size : Int)) (by omega), decide_eq_true (p := (s.size : Int) ≤ 16) (by omega)]; rfl)

theorem frozen_iter' (w : World) (s : ByteArray) (pos : Nat) (a : Addr) : (w.iter s pos).frozen? a = w.frozen? a := by
  by_cases h : a.block = w.heap.size
  · have e1 : (w.iter s pos).heap[a.block]? = some (.stringIter s pos) := by rw [h]; exact World.iter_heap w s pos
    have e2 : w.heap[a.block]? = none := by rw [h]; simp
    simp [World.frozen?, e1, e2]
  · exact World.frozen?_alloc_old _ _ _ h

theorem fn_token_Name : FnOk Try.prog 124 [.str] [.bool] (fun x => some (token_Name x.1, ())) := by
  intro fr w x vals r hx hF
  simp only [Option.some.injEq] at hF
  subst hF
  obtain ⟨v, us, e, h1, h2⟩ := hx
  obtain rfl : us = [] := h2
  obtain h1 : [v] = [Value.string x.1] := h1
  simp only [List.cons.injEq, and_true] at h1
  subst h1
  have hv : vals = #[.string x.1] := Array.ext' (by simpa using e)
  subst hv
  refine (walk_token_Name x.1 w).mono fun e w' ⟨he, pos, hw⟩ => ?_
  subst hw
  exact ⟨_, fr, he, ⟨[.bool (token_Name x.1)], ⟨_, _, rfl, rfl, rfl⟩, rfl⟩, (Below.refl _ w).alloc (Nat.le_refl _) _, frozen_iter' w x.1 pos, fun _ _ _ => Iff.rfl⟩

def hd_token_Name : Hd := dataHd [.str] [.bool] (fun x => some (token_Name x.1, ()))
theorem ok_token_Name : HdOk Try.prog 124 hd_token_Name.sem ∧ Enters Try.prog 124 := data_ok fn_token_Name Try.func124 (by kernel_rfl) (by kernel_rfl)

end Go.RX

/-
  The contracts of functions.
-/
namespace Go.RX
open Go.Proofs

def gtys : List (Nat × TRow) := [(2, ⟨.int .i64, 1, 8, [.int .i64 0], .int .i64⟩),
  (3, ⟨.int .i64, 1, 8, [.int .i64 0], .int .i64⟩),
  (9, ⟨.str, 1, 16, [.string (ByteArray.mk #[])], .str⟩),
  (32, ⟨.arr 3 2, 3, 24, [.int .i64 0, .int .i64 0, .int .i64 0], TVec⟩),
  (62, ⟨.struct [(0, 1), (1, 1), (2, 1), (3, 3), (6, 1), (7, 1), (8, 1), (9, 1), (10, 1), (11, 1)], 12, 104, [.string (ByteArray.mk #[]), .int .i64 0, .int .i64 0, .int .i64 0, .int .i64 0, .int .i64 0, .int .i64 0, .int .i64 0, .int .i64 0, .int .i64 0, .int .i64 0, .int .i64 0], TJoint⟩),
  (63, ⟨.slice 62, 1, 24, [.slice none 0 0], .list (TJoint)⟩),
  (64, ⟨.slice 123, 1, 24, [.slice none 0 0], .list (TMass)⟩),
  (66, ⟨.struct [(0, 1), (1, 1)], 2, 48, [.slice none 0 0, .slice none 0 0], TRobot⟩),
  (123, ⟨.struct [(0, 1), (1, 1), (2, 3)], 5, 40, [.int .i64 0, .int .i64 0, .int .i64 0, .int .i64 0, .int .i64 0], TMass⟩)]
def geqs : List (Nat × (Bool × List TK)) := []
theorem gtys_ok : tableOk Try.prog gtys = true := by kernel_rfl
theorem geqs_ok : eqsOk Try.prog geqs = true := by kernel_rfl

/- armplan/robot.between -/
def t_robot_between (a0 : Int) (a1 : Int) (a2 : Int) : Tr Bool :=
  let x1 : Bool := decide (a0 ≤ a1)
  .br (x1) (
   let x2 : Bool := decide (a1 ≤ a2)
   .leaf x2) (
   .leaf false)
def robot_between (a0 : Int) (a1 : Int) (a2 : Int) : Bool := (t_robot_between a0 a1 a2).val
theorem run_robot_between : ∀ x, runF (mkC gtys geqs [] [] noLoops) 200 107 Try.f107 (argsA [.int .i64, .int .i64, .int .i64] x) [] (fun v h => toRes h [.bool] v) = (t_robot_between x.1 x.2.1 x.2.2.1).optA (fun r => (r, ())) := by
  intro x; kernel_rfl
theorem fn_robot_between : FnOk Try.prog 107 [.int .i64, .int .i64, .int .i64] [.bool] (fun x => some ((fun r => (r, ())) (robot_between x.1 x.2.1 x.2.2.1))) :=
  fn_tot (t := fun (x : Ar [.int .i64, .int .i64, .int .i64]) => t_robot_between x.1 x.2.1 x.2.2.1) (R := Bool) (Ts := [.bool]) (mk := (fun r => (r, ()))) (mkC_ok gtys_ok geqs_ok (fns_nil _) (inl_nil _) noLoops_ok mixed) Try.func107 run_robot_between (fun _ => by kernel_rfl)
def hd_robot_between : Hd := dataHd [.int .i64, .int .i64, .int .i64] [.bool] (fun x => some ((fun r => (r, ())) (robot_between x.1 x.2.1 x.2.2.1)))
theorem ok_robot_between : HdOk Try.prog 107 hd_robot_between.sem ∧ Enters Try.prog 107 := data_ok fn_robot_between Try.func107 (by kernel_rfl) (by kernel_rfl)

/- armplan/robot.long -/
def t_robot_long (a0 : DVec) : Tr Bool :=
  let x1 : Bool := decide (a0.1 < (-4194304))
  .br (x1) (
   .leaf true) (
   let x2 : Bool := decide (4194304 < a0.1)
   .br (x2) (
    .leaf true) (
    let x3 : Bool := decide (a0.2.1 < (-4194304))
    .br (x3) (
     .leaf true) (
     let x4 : Bool := decide (4194304 < a0.2.1)
     .br (x4) (
      .leaf true) (
      let x5 : Bool := decide (a0.2.2 < (-4194304))
      .br (x5) (
       .leaf true) (
       let x6 : Bool := decide (4194304 < a0.2.2)
       .br (x6) (
        .leaf true) (
        .leaf false))))))
def robot_long (a0 : DVec) : Bool := (t_robot_long a0).val
theorem run_robot_long : ∀ x, runF (mkC gtys geqs [] [] noLoops) 200 108 Try.f108 (argsA [TVec] x) [] (fun v h => toRes h [.bool] v) = (t_robot_long x.1).optA (fun r => (r, ())) := by
  intro x; kernel_rfl
theorem fn_robot_long : FnOk Try.prog 108 [TVec] [.bool] (fun x => some ((fun r => (r, ())) (robot_long x.1))) :=
  fn_tot (t := fun (x : Ar [TVec]) => t_robot_long x.1) (R := Bool) (Ts := [.bool]) (mk := (fun r => (r, ()))) (mkC_ok gtys_ok geqs_ok (fns_nil _) (inl_nil _) noLoops_ok mixed) Try.func108 run_robot_long (fun _ => by kernel_rfl)
def hd_robot_long : Hd := dataHd [TVec] [.bool] (fun x => some ((fun r => (r, ())) (robot_long x.1)))
theorem ok_robot_long : HdOk Try.prog 108 hd_robot_long.sem ∧ Enters Try.prog 108 := data_ok fn_robot_long Try.func108 (by kernel_rfl) (by kernel_rfl)

/- armplan/robot.bound -/
def t_robot_bound (a0 : Int) : Tr Int :=
  let x1 : Bool := decide (a0 = 0)
  .br (x1) (
   .leaf 0) (
   let x2 : Bool := decide (a0 = 1)
   .br (x2) (
    .leaf 524288) (
    let x3 : Bool := decide (a0 = 2)
    .br (x3) (
     .leaf 524288) (
     let x4 : Bool := decide (a0 = 3)
     .br (x4) (
      .leaf 524288) (
      .leaf 4194304))))
def robot_bound (a0 : Int) : Int := (t_robot_bound a0).val
theorem run_robot_bound : ∀ x, runF (mkC gtys geqs [] [] noLoops) 200 123 Try.f123 (argsA [.int .i64] x) [] (fun v h => toRes h [.int .i64] v) = (t_robot_bound x.1).optA (fun r => (r, ())) := by
  intro x; kernel_rfl
theorem fn_robot_bound : FnOk Try.prog 123 [.int .i64] [.int .i64] (fun x => some ((fun r => (r, ())) (robot_bound x.1))) :=
  fn_tot (t := fun (x : Ar [.int .i64]) => t_robot_bound x.1) (R := Int) (Ts := [.int .i64]) (mk := (fun r => (r, ()))) (mkC_ok gtys_ok geqs_ok (fns_nil _) (inl_nil _) noLoops_ok mixed) Try.func123 run_robot_bound (fun _ => by kernel_rfl)
def hd_robot_bound : Hd := dataHd [.int .i64] [.int .i64] (fun x => some ((fun r => (r, ())) (robot_bound x.1)))
theorem ok_robot_bound : HdOk Try.prog 123 hd_robot_bound.sem ∧ Enters Try.prog 123 := data_ok fn_robot_bound Try.func123 (by kernel_rfl) (by kernel_rfl)

/- loop 0 of slices.IndexFunc[[]armplan/api.Joint,armplan/api.Joint] -/
abbrev ss_robot_place_slices_IndexFunc___api_Joint_api_Joint__L0 : List Slot := [⟨[], true, false, [.d (.str)]⟩, ⟨[0], false, false, [.d (.list (TJoint))]⟩, ⟨[7], false, false, [.d (.int .i64)]⟩, ⟨[8], false, false, [.d (.int .i64)]⟩]
abbrev os_robot_place_slices_IndexFunc___api_Joint_api_Joint__L0 : List (Exit × List Slot) := [(.exit 0, [⟨[], true, false, [.d (.str)]⟩]), (.ret, [⟨[], true, false, [.d (.str)]⟩, ⟨[4], false, false, [.d (.int .i64)]⟩])]
def t_robot_place_slices_IndexFunc___api_Joint_api_Joint__L0 (a0 : ByteArray) (a1 : List (DJoint)) (a2 : Int) (a3 : Int) : Tr (Sl ss_robot_place_slices_IndexFunc___api_Joint_api_Joint__L0 ⊕ Outs os_robot_place_slices_IndexFunc___api_Joint_api_Joint__L0) :=
  let x1 : Bool := decide (a3 < a2)
  .br (x1) (
   .br (decide (0 ≤ a3) && decide (a3 < ((a1.length : Nat) : Int))) (
    let x2 : Bool := ((((List.getD a1 a3.toNat (Ty.dflt (TJoint)))).1).toList == a0.toList)
    .br (x2) (
     .leaf (.inr (.inr ((a0, ()), (a3, ()), ())))) (
     let x3 : Int := IntKind.wrap .i64 (a3 + 1)
     .leaf (.inl ((a0, ()), (a1, ()), (a2, ()), (x3, ()), ())))) .fail) (
   .leaf (.inr (.inl ((a0, ()), ()))))
def step_robot_place_slices_IndexFunc___api_Joint_api_Joint__L0 : Sl ss_robot_place_slices_IndexFunc___api_Joint_api_Joint__L0 → Option (Sl ss_robot_place_slices_IndexFunc___api_Joint_api_Joint__L0 ⊕ Outs os_robot_place_slices_IndexFunc___api_Joint_api_Joint__L0) := fun x => (t_robot_place_slices_IndexFunc___api_Joint_api_Joint__L0 x.1.1 x.2.1.1 x.2.2.1.1 x.2.2.2.1.1).optA id
theorem run_robot_place_slices_IndexFunc___api_Joint_api_Joint__L0 : ∀ (x : Sl ss_robot_place_slices_IndexFunc___api_Joint_api_Joint__L0) (vs : Nat → Value), run (mkC gtys geqs [] [(137, Try.f137)] noLoops) 200 136 (loopBody 0 (Try.f136.body.getD .skip)) (mkSt ss_robot_place_slices_IndexFunc___api_Joint_api_Joint__L0 x (baseT 19 [1] [(1, ⟨137, [], [0]⟩)] vs)) (endK ss_robot_place_slices_IndexFunc___api_Joint_api_Joint__L0 os_robot_place_slices_IndexFunc___api_Joint_api_Joint__L0 19 [1]) = (t_robot_place_slices_IndexFunc___api_Joint_api_Joint__L0 x.1.1 x.2.1.1 x.2.2.1.1 x.2.2.2.1.1).optA fun r => (r, [1].map (keptA [(1, ⟨137, [], [0]⟩)] vs)) := by
  intro x vs; kernel_rfl
instance inh_robot_place_slices_IndexFunc___api_Joint_api_Joint__L0 : Inhabited (Outs os_robot_place_slices_IndexFunc___api_Joint_api_Joint__L0) := ⟨outsDflt os_robot_place_slices_IndexFunc___api_Joint_api_Joint__L0⟩
def dom_robot_place_slices_IndexFunc___api_Joint_api_Joint__L0 (x : Sl ss_robot_place_slices_IndexFunc___api_Joint_api_Joint__L0) : Bool := (loopN step_robot_place_slices_IndexFunc___api_Joint_api_Joint__L0 rounds x).isSome
def val_robot_place_slices_IndexFunc___api_Joint_api_Joint__L0 (x : Sl ss_robot_place_slices_IndexFunc___api_Joint_api_Joint__L0) : Outs os_robot_place_slices_IndexFunc___api_Joint_api_Joint__L0 := (loopN step_robot_place_slices_IndexFunc___api_Joint_api_Joint__L0 rounds x).getD default
def loop_robot_place_slices_IndexFunc___api_Joint_api_Joint__L0 : LoopD := mkLoop ss_robot_place_slices_IndexFunc___api_Joint_api_Joint__L0 os_robot_place_slices_IndexFunc___api_Joint_api_Joint__L0 19 [1] [(1, ⟨137, [], [0]⟩)] step_robot_place_slices_IndexFunc___api_Joint_api_Joint__L0 dom_robot_place_slices_IndexFunc___api_Joint_api_Joint__L0 val_robot_place_slices_IndexFunc___api_Joint_api_Joint__L0 (loop_hv step_robot_place_slices_IndexFunc___api_Joint_api_Joint__L0)
theorem lok_robot_place_slices_IndexFunc___api_Joint_api_Joint__L0 : LoopOk Try.prog (loopLH loop_robot_place_slices_IndexFunc___api_Joint_api_Joint__L0 0) 0 (.loop (loopBody 0 (Try.f136.body.getD .skip))) := loop_in (D := loop_robot_place_slices_IndexFunc___api_Joint_api_Joint__L0) (n := 200) (cur := 136) (mkC_ok gtys_ok geqs_ok (fns_nil _) (inl_cons Try.func137 (by kernel_rfl) (inl_nil _)) noLoops_ok mixed) Try.func136 (by kernel_rfl) (turns_of run_robot_place_slices_IndexFunc___api_Joint_api_Joint__L0) (by kernel_rfl) (by kernel_rfl) (by kernel_rfl)

/- armplan/robot.place -/
def t_robot_place (a0 : List (DJoint)) (a1 : ByteArray) : Tr Int :=
  let r1 : Outs os_robot_place_slices_IndexFunc___api_Joint_api_Joint__L0 := val_robot_place_slices_IndexFunc___api_Joint_api_Joint__L0 ((a1, ()), (a0, ()), (((a0.length : Nat) : Int), ()), (0, ()), ())
  .br (dom_robot_place_slices_IndexFunc___api_Joint_api_Joint__L0 ((a1, ()), (a0, ()), (((a0.length : Nat) : Int), ()), (0, ()), ())) (
   let r2 := getL r1
   let r3 := getR r1
   .br (isL r1) (
    let y4 : ByteArray := r2.1.1
    .leaf (-1)) (
    let y5 : ByteArray := r3.1.1
    let y6 : Int := r3.2.1.1
    .leaf y6)) .fail
def robot_place (a0 : List (DJoint)) (a1 : ByteArray) : Int := (t_robot_place a0 a1).val
def dom_robot_place (a0 : List (DJoint)) (a1 : ByteArray) : Bool := (t_robot_place a0 a1).dom
theorem run_robot_place : ∀ x, runF (mkC gtys geqs [] [(136, Try.f136)] (lpOne 136 0 (loopLH loop_robot_place_slices_IndexFunc___api_Joint_api_Joint__L0 0) noLoops)) 200 125 Try.f125 (argsA [.list (TJoint), .str] x) [] (fun v h => toRes h [.int .i64] v) = (t_robot_place x.1 x.2.1).optA (fun r => (r, ())) := by
  intro x; kernel_rfl
theorem fn_robot_place : FnOk Try.prog 125 [.list (TJoint), .str] [.int .i64] (fun x => bif dom_robot_place x.1 x.2.1 then some ((fun r => (r, ())) (robot_place x.1 x.2.1)) else none) :=
  fn_part (t := fun (x : Ar [.list (TJoint), .str]) => t_robot_place x.1 x.2.1) (R := Int) (Ts := [.int .i64]) (mk := (fun r => (r, ()))) (mkC_ok gtys_ok geqs_ok (fns_nil _) (inl_cons Try.func136 (by kernel_rfl) (inl_nil _)) (lpOne_ok (b := loopBody 0 (Try.f136.body.getD .skip)) Try.func136 (by kernel_rfl) lok_robot_place_slices_IndexFunc___api_Joint_api_Joint__L0 noLoops_ok) mixed) Try.func125 run_robot_place
def hd_robot_place : Hd := guardHd [.list (TJoint), .str] [.int .i64] (fun x => dom_robot_place x.1 x.2.1) (fun x => (fun r => (r, ())) (robot_place x.1 x.2.1))
theorem ok_robot_place : HdOk Try.prog 125 hd_robot_place.sem ∧ Enters Try.prog 125 := guard_ok fn_robot_place Try.func125 (by kernel_rfl) (by kernel_rfl)

/- armplan/robot.checkJoint -/
def t_robot_checkJoint (a0 : List (DJoint)) (a1 : DJoint) : Tr Int :=
  let r1 : Int := robot_bound a1.2.1
  let r2 : Bool := token_Name a1.1
  .br ((!r2)) (
   .leaf 802) (
   let r3 : Int := robot_place a0 a1.1
   .br (dom_robot_place a0 a1.1) (
    let x4 : Bool := decide (0 ≤ r3)
    .br (x4) (
     .leaf 802) (
     let x5 : Bool := decide (a1.2.1 < 0)
     .br (x5) (
      .leaf 803) (
      let x6 : Bool := decide (6 < a1.2.1)
      .br (x6) (
       .leaf 803) (
       let x7 : Bool := decide (a1.2.2.1 < (-1))
       .br (x7) (
        .leaf 804) (
        let x8 : Bool := decide (((a0.length : Nat) : Int) ≤ a1.2.2.1)
        .br (x8) (
         .leaf 804) (
         let r9 : Bool := robot_long a1.2.2.2.1
         .br (r9) (
          .leaf 805) (
          let x10 : Bool := decide (a1.2.2.2.2.2.1 < a1.2.2.2.2.1)
          .br (x10) (
           .leaf 806) (
           let x11 : Int := IntKind.wrap .i64 (0 - r1)
           let x12 : Bool := decide (a1.2.2.2.2.1 < x11)
           .br (x12) (
            .leaf 806) (
            let x13 : Bool := decide (r1 < a1.2.2.2.2.2.1)
            .br (x13) (
             .leaf 806) (
             let r14 : Bool := robot_between 1 a1.2.2.2.2.2.2.1 1024
             .br ((!r14)) (
              .leaf 807) (
              let r15 : Bool := robot_between 1 a1.2.2.2.2.2.2.2.1 1048576
              .br ((!r15)) (
               .leaf 807) (
               let r16 : Bool := robot_between 1 a1.2.2.2.2.2.2.2.2.1 1048576
               .br ((!r16)) (
                .leaf 807) (
                let r17 : Bool := robot_between 1 a1.2.2.2.2.2.2.2.2.2 1099511627776
                .br ((!r17)) (
                 .leaf 807) (
                 .leaf 0)))))))))))))) .fail)
def robot_checkJoint (a0 : List (DJoint)) (a1 : DJoint) : Int := (t_robot_checkJoint a0 a1).val
def dom_robot_checkJoint (a0 : List (DJoint)) (a1 : DJoint) : Bool := (t_robot_checkJoint a0 a1).dom
theorem run_robot_checkJoint : ∀ x, runF (mkC gtys geqs [(107, hd_robot_between), (108, hd_robot_long), (123, hd_robot_bound), (124, hd_token_Name), (125, hd_robot_place)] [] noLoops) 200 106 Try.f106 (argsA [.list (TJoint), TJoint] x) [] (fun v h => toRes h [.int .i64] v) = (t_robot_checkJoint x.1 x.2.1).optA (fun r => (r, ())) := by
  intro x; kernel_rfl
theorem fn_robot_checkJoint : FnOk Try.prog 106 [.list (TJoint), TJoint] [.int .i64] (fun x => bif dom_robot_checkJoint x.1 x.2.1 then some ((fun r => (r, ())) (robot_checkJoint x.1 x.2.1)) else none) :=
  fn_part (t := fun (x : Ar [.list (TJoint), TJoint]) => t_robot_checkJoint x.1 x.2.1) (R := Int) (Ts := [.int .i64]) (mk := (fun r => (r, ()))) (mkC_ok gtys_ok geqs_ok (fns_cons ok_robot_between (fns_cons ok_robot_long (fns_cons ok_robot_bound (fns_cons ok_token_Name (fns_cons ok_robot_place (fns_nil _)))))) (inl_nil _) noLoops_ok mixed) Try.func106 run_robot_checkJoint
def hd_robot_checkJoint : Hd := guardHd [.list (TJoint), TJoint] [.int .i64] (fun x => dom_robot_checkJoint x.1 x.2.1) (fun x => (fun r => (r, ())) (robot_checkJoint x.1 x.2.1))
theorem ok_robot_checkJoint : HdOk Try.prog 106 hd_robot_checkJoint.sem ∧ Enters Try.prog 106 := guard_ok fn_robot_checkJoint Try.func106 (by kernel_rfl) (by kernel_rfl)

/- loop 0 of armplan/robot.Check -/
abbrev ss_robot_Check_L0 : List Slot := [⟨[1], true, false, [.d (TRobot)]⟩, ⟨[19], false, false, [.d (.list (TJoint))]⟩, ⟨[20], false, false, [.d (.int .i64)]⟩, ⟨[21], false, false, [.d (.int .i64)]⟩]
abbrev os_robot_Check_L0 : List (Exit × List Slot) := [(.exit 0, [⟨[1], true, false, [.d (TRobot)]⟩]), (.ret, [⟨[1], true, false, [.d (TRobot)]⟩, ⟨[2], false, false, [.d (.int .i64)]⟩])]
def t_robot_Check_L0 (a0 : DRobot) (a1 : List (DJoint)) (a2 : Int) (a3 : Int) : Tr (Sl ss_robot_Check_L0 ⊕ Outs os_robot_Check_L0) :=
  let x1 : Bool := decide (a3 < a2)
  .br (x1) (
   .br (decide (0 ≤ a3) && decide (a3 < ((a1.length : Nat) : Int))) (
    .br (decide (0 ≤ a3) && decide (a3 ≤ ((a0.1.length : Nat) : Int))) (
     let r2 : Int := robot_checkJoint (List.drop 0 (List.take a3.toNat a0.1)) (List.getD a1 a3.toNat (Ty.dflt (TJoint)))
     .br (dom_robot_checkJoint (List.drop 0 (List.take a3.toNat a0.1)) (List.getD a1 a3.toNat (Ty.dflt (TJoint)))) (
      let x3 : Bool := !decide (r2 = 0)
      .br (x3) (
       .leaf (.inr (.inr ((a0, ()), (r2, ()), ())))) (
       let x4 : Int := IntKind.wrap .i64 (a3 + 1)
       .leaf (.inl ((a0, ()), (a1, ()), (a2, ()), (x4, ()), ())))) .fail) .fail) .fail) (
   .leaf (.inr (.inl ((a0, ()), ()))))
def step_robot_Check_L0 : Sl ss_robot_Check_L0 → Option (Sl ss_robot_Check_L0 ⊕ Outs os_robot_Check_L0) := fun x => (t_robot_Check_L0 x.1.1 x.2.1.1 x.2.2.1.1 x.2.2.2.1.1).optA id
theorem run_robot_Check_L0 : ∀ (x : Sl ss_robot_Check_L0) (vs : Nat → Value), run (mkC gtys geqs [(106, hd_robot_checkJoint)] [] noLoops) 200 81 (loopBody 0 (Try.f81.body.getD .skip)) (mkSt ss_robot_Check_L0 x (baseT 70 [] [] vs)) (endK ss_robot_Check_L0 os_robot_Check_L0 70 []) = (t_robot_Check_L0 x.1.1 x.2.1.1 x.2.2.1.1 x.2.2.2.1.1).optA fun r => (r, [].map (keptA [] vs)) := by
  intro x vs; kernel_rfl
instance inh_robot_Check_L0 : Inhabited (Outs os_robot_Check_L0) := ⟨outsDflt os_robot_Check_L0⟩
def dom_robot_Check_L0 (x : Sl ss_robot_Check_L0) : Bool := (loopN step_robot_Check_L0 rounds x).isSome
def val_robot_Check_L0 (x : Sl ss_robot_Check_L0) : Outs os_robot_Check_L0 := (loopN step_robot_Check_L0 rounds x).getD default
def loop_robot_Check_L0 : LoopD := mkLoop ss_robot_Check_L0 os_robot_Check_L0 70 [] [] step_robot_Check_L0 dom_robot_Check_L0 val_robot_Check_L0 (loop_hv step_robot_Check_L0)
theorem lok_robot_Check_L0 : LoopOk Try.prog (loopLH loop_robot_Check_L0 0) 0 (.loop (loopBody 0 (Try.f81.body.getD .skip))) := loop_in (D := loop_robot_Check_L0) (n := 200) (cur := 81) (mkC_ok gtys_ok geqs_ok (fns_cons ok_robot_checkJoint (fns_nil _)) (inl_nil _) noLoops_ok mixed) Try.func81 (by kernel_rfl) (turns_of run_robot_Check_L0) (by kernel_rfl) (by kernel_rfl) (by kernel_rfl)

/- loop 2 of armplan/robot.Check -/
abbrev ss_robot_Check_L2 : List Slot := [⟨[1], true, false, [.d (TRobot)]⟩, ⟨[41], false, false, [.d (.list (TMass))]⟩, ⟨[42], false, false, [.d (.int .i64)]⟩, ⟨[43], false, false, [.d (.int .i64)]⟩]
abbrev os_robot_Check_L2 : List (Exit × List Slot) := [(.exit 2, [⟨[1], true, false, [.d (TRobot)]⟩]), (.ret, [⟨[1], true, false, [.d (TRobot)]⟩, ⟨[2], false, false, [.d (.int .i64)]⟩])]
def t_robot_Check_L2 (a0 : DRobot) (a1 : List (DMass)) (a2 : Int) (a3 : Int) : Tr (Sl ss_robot_Check_L2 ⊕ Outs os_robot_Check_L2) :=
  let x1 : Bool := decide (a3 < a2)
  .br (x1) (
   .br (decide (0 ≤ a3) && decide (a3 < ((a1.length : Nat) : Int))) (
    let x2 : Bool := decide (((List.getD a1 a3.toNat (Ty.dflt (TMass)))).1 < 0)
    .br (x2) (
     .leaf (.inr (.inr ((a0, ()), (808, ()), ())))) (
     let x3 : Bool := decide (((a0.1.length : Nat) : Int) ≤ ((List.getD a1 a3.toNat (Ty.dflt (TMass)))).1)
     .br (x3) (
      .leaf (.inr (.inr ((a0, ()), (808, ()), ())))) (
      let r4 : Bool := robot_between 1 ((((List.getD a1 a3.toNat (Ty.dflt (TMass)))).2).1) 65536
      .br ((!r4)) (
       .leaf (.inr (.inr ((a0, ()), (808, ()), ())))) (
       let r5 : Bool := robot_long ((((List.getD a1 a3.toNat (Ty.dflt (TMass)))).2).2)
       .br (r5) (
        .leaf (.inr (.inr ((a0, ()), (808, ()), ())))) (
        let x6 : Int := IntKind.wrap .i64 (a3 + 1)
        .leaf (.inl ((a0, ()), (a1, ()), (a2, ()), (x6, ()), ()))))))) .fail) (
   .leaf (.inr (.inl ((a0, ()), ()))))
def step_robot_Check_L2 : Sl ss_robot_Check_L2 → Option (Sl ss_robot_Check_L2 ⊕ Outs os_robot_Check_L2) := fun x => (t_robot_Check_L2 x.1.1 x.2.1.1 x.2.2.1.1 x.2.2.2.1.1).optA id
theorem run_robot_Check_L2 : ∀ (x : Sl ss_robot_Check_L2) (vs : Nat → Value), run (mkC gtys geqs [(107, hd_robot_between), (108, hd_robot_long)] [] noLoops) 200 81 (loopBody 2 (Try.f81.body.getD .skip)) (mkSt ss_robot_Check_L2 x (baseT 70 [] [] vs)) (endK ss_robot_Check_L2 os_robot_Check_L2 70 []) = (t_robot_Check_L2 x.1.1 x.2.1.1 x.2.2.1.1 x.2.2.2.1.1).optA fun r => (r, [].map (keptA [] vs)) := by
  intro x vs; kernel_rfl
instance inh_robot_Check_L2 : Inhabited (Outs os_robot_Check_L2) := ⟨outsDflt os_robot_Check_L2⟩
def dom_robot_Check_L2 (x : Sl ss_robot_Check_L2) : Bool := (loopN step_robot_Check_L2 rounds x).isSome
def val_robot_Check_L2 (x : Sl ss_robot_Check_L2) : Outs os_robot_Check_L2 := (loopN step_robot_Check_L2 rounds x).getD default
def loop_robot_Check_L2 : LoopD := mkLoop ss_robot_Check_L2 os_robot_Check_L2 70 [] [] step_robot_Check_L2 dom_robot_Check_L2 val_robot_Check_L2 (loop_hv step_robot_Check_L2)
theorem lok_robot_Check_L2 : LoopOk Try.prog (loopLH loop_robot_Check_L2 2) 2 (.loop (loopBody 2 (Try.f81.body.getD .skip))) := loop_in (D := loop_robot_Check_L2) (n := 200) (cur := 81) (mkC_ok gtys_ok geqs_ok (fns_cons ok_robot_between (fns_cons ok_robot_long (fns_nil _))) (inl_nil _) noLoops_ok mixed) Try.func81 (by kernel_rfl) (turns_of run_robot_Check_L2) (by kernel_rfl) (by kernel_rfl) (by kernel_rfl)

/- armplan/robot.Check -/
def t_robot_Check (a0 : DRobot) : Tr Int :=
  let x1 : Bool := decide (((a0.1.length : Nat) : Int) < 1)
  .br (x1) (
   .leaf 801) (
   let x2 : Bool := decide (10 < ((a0.1.length : Nat) : Int))
   .br (x2) (
    .leaf 801) (
    let r3 : Outs os_robot_Check_L0 := val_robot_Check_L0 ((a0, ()), (a0.1, ()), (((a0.1.length : Nat) : Int), ()), (0, ()), ())
    .br (dom_robot_Check_L0 ((a0, ()), (a0.1, ()), (((a0.1.length : Nat) : Int), ()), (0, ()), ())) (
     let r4 := getL r3
     let r5 := getR r3
     .br (isL r3) (
      let y6 : DRobot := r4.1.1
      let x7 : Bool := decide (32 < ((y6.2.length : Nat) : Int))
      .br (x7) (
       .leaf 808) (
       let r8 : Outs os_robot_Check_L2 := val_robot_Check_L2 ((y6, ()), (y6.2, ()), (((y6.2.length : Nat) : Int), ()), (0, ()), ())
       .br (dom_robot_Check_L2 ((y6, ()), (y6.2, ()), (((y6.2.length : Nat) : Int), ()), (0, ()), ())) (
        let r9 := getL r8
        let r10 := getR r8
        .br (isL r8) (
         let y11 : DRobot := r9.1.1
         .leaf 0) (
         let y12 : DRobot := r10.1.1
         let y13 : Int := r10.2.1.1
         .leaf y13)) .fail)) (
      let y14 : DRobot := r5.1.1
      let y15 : Int := r5.2.1.1
      .leaf y15)) .fail))
def robot_Check (a0 : DRobot) : Int := (t_robot_Check a0).val
def dom_robot_Check (a0 : DRobot) : Bool := (t_robot_Check a0).dom
theorem run_robot_Check : ∀ x, runF (mkC gtys geqs [] [] (lpOne 81 0 (loopLH loop_robot_Check_L0 0) (lpOne 81 2 (loopLH loop_robot_Check_L2 2) noLoops))) 200 81 Try.f81 (argsA [TRobot] x) [] (fun v h => toRes h [.int .i64] v) = (t_robot_Check x.1).optA (fun r => (r, ())) := by
  intro x; kernel_rfl
theorem fn_robot_Check : FnOk Try.prog 81 [TRobot] [.int .i64] (fun x => bif dom_robot_Check x.1 then some ((fun r => (r, ())) (robot_Check x.1)) else none) :=
  fn_part (t := fun (x : Ar [TRobot]) => t_robot_Check x.1) (R := Int) (Ts := [.int .i64]) (mk := (fun r => (r, ()))) (mkC_ok gtys_ok geqs_ok (fns_nil _) (inl_nil _) (lpOne_ok (b := loopBody 0 (Try.f81.body.getD .skip)) Try.func81 (by kernel_rfl) lok_robot_Check_L0 (lpOne_ok (b := loopBody 2 (Try.f81.body.getD .skip)) Try.func81 (by kernel_rfl) lok_robot_Check_L2 noLoops_ok)) mixed) Try.func81 run_robot_Check
def hd_robot_Check : Hd := guardHd [TRobot] [.int .i64] (fun x => dom_robot_Check x.1) (fun x => (fun r => (r, ())) (robot_Check x.1))
theorem ok_robot_Check : HdOk Try.prog 81 hd_robot_Check.sem ∧ Enters Try.prog 81 := guard_ok fn_robot_Check Try.func81 (by kernel_rfl) (by kernel_rfl)

end Go.RX

/-
  The contracts of functions.
-/
import Derived.Test.YtlikaaohkecccaaFB
namespace Go.RX
open Go.Proofs

def ctys : List (Nat × TRow) := [(2, ⟨.int .i64, 1, 8, [.int .i64 0], .int .i64⟩),
  (3, ⟨.int .i64, 1, 8, [.int .i64 0], .int .i64⟩),
  (24, ⟨.struct [(0, 1), (1, 1)], 2, 16, [.int .i64 0, .int .i64 0], .pair (.int .i64) (.int .i64)⟩),
  (34, ⟨.int .u64, 1, 8, [.int .u64 0], .int .u64⟩),
  (43, ⟨.arr 3 24, 6, 48, [.int .i64 0, .int .i64 0, .int .i64 0, .int .i64 0, .int .i64 0, .int .i64 0], .pair (.pair (.int .i64) (.int .i64)) (.pair (.pair (.int .i64) (.int .i64)) (.pair (.int .i64) (.int .i64)))⟩),
  (45, ⟨.arr 3 43, 18, 144, [.int .i64 0, .int .i64 0, .int .i64 0, .int .i64 0, .int .i64 0, .int .i64 0, .int .i64 0, .int .i64 0, .int .i64 0, .int .i64 0, .int .i64 0, .int .i64 0, .int .i64 0, .int .i64 0, .int .i64 0, .int .i64 0, .int .i64 0, .int .i64 0], .pair (.pair (.pair (.int .i64) (.int .i64)) (.pair (.pair (.int .i64) (.int .i64)) (.pair (.int .i64) (.int .i64)))) (.pair (.pair (.pair (.int .i64) (.int .i64)) (.pair (.pair (.int .i64) (.int .i64)) (.pair (.int .i64) (.int .i64)))) (.pair (.pair (.int .i64) (.int .i64)) (.pair (.pair (.int .i64) (.int .i64)) (.pair (.int .i64) (.int .i64)))))⟩),
  (48, ⟨.slice 3, 1, 24, [.slice none 0 0], .list (.int .i64)⟩),
  (51, ⟨.arr 3 24, 6, 48, [.int .i64 0, .int .i64 0, .int .i64 0, .int .i64 0, .int .i64 0, .int .i64 0], .pair (.pair (.int .i64) (.int .i64)) (.pair (.pair (.int .i64) (.int .i64)) (.pair (.int .i64) (.int .i64)))⟩),
  (55, ⟨.arr 3 2, 3, 24, [.int .i64 0, .int .i64 0, .int .i64 0], .pair (.int .i64) (.pair (.int .i64) (.int .i64))⟩),
  (118, ⟨.struct [(0, 1), (1, 1)], 2, 32, [.slice none 0 0, .int .i64 0], .pair (.list (.int .i64)) (.int .i64)⟩)]
def ceqs : List (Nat × (Bool × List TK)) := [(4, (false, [.bool])),
  (24, (true, [.int .i64, .int .i64])),
  (45, (true, [.int .i64, .int .i64, .int .i64, .int .i64, .int .i64, .int .i64, .int .i64, .int .i64, .int .i64, .int .i64, .int .i64, .int .i64, .int .i64, .int .i64, .int .i64, .int .i64, .int .i64, .int .i64])),
  (51, (true, [.int .i64, .int .i64, .int .i64, .int .i64, .int .i64, .int .i64]))]
theorem ctys_ok : tableOk Try.prog ctys = true := by kernel_rfl
theorem ceqs_ok : eqsOk Try.prog ceqs = true := by kernel_rfl

/- (*armplan/armplanmake.Source).Next -/
def t_armplanmake_Source_Next (a0 : (List (Int) × Int)) (a1 : Int) : Tr (Int × (List (Int) × Int)) :=
  let x1 : Bool := decide (((a0.1.length : Nat) : Int) ≤ a0.2)
  .br (x1) (
   .leaf (0, a0)) (
   let x2 : Int := IntKind.wrap .i64 (a0.2 + 1)
   let x3 : Int := IntKind.wrap .i64 (x2 - 1)
   .br (decide (0 ≤ x3) && decide (x3 < ((a0.1.length : Nat) : Int))) (
    let r4 : Int := armplanmake_Round (List.getD a0.1 x3.toNat (Ty.dflt (.int .i64))) a1
    .br (dom_armplanmake_Round (List.getD a0.1 x3.toNat (Ty.dflt (.int .i64))) a1) (
     .leaf (r4, (a0.1, x2))) .fail) .fail)
def armplanmake_Source_Next (a0 : (List (Int) × Int)) (a1 : Int) : (Int × (List (Int) × Int)) := (t_armplanmake_Source_Next a0 a1).val
def dom_armplanmake_Source_Next (a0 : (List (Int) × Int)) (a1 : Int) : Bool := (t_armplanmake_Source_Next a0 a1).dom
theorem run_armplanmake_Source_Next : ∀ x, runF (mkC ctys ceqs [(30, hd_armplanmake_Round)] [] noLoops) 200 57 Try.f57 (mkT id [⟨[0], true, false, [.d (.pair (.list (.int .i64)) (.int .i64))]⟩, ⟨[1], false, false, [.d (.int .i64)]⟩] x 0 (List.replicate 2 .top)) (mkH id [⟨[0], true, false, [.d (.pair (.list (.int .i64)) (.int .i64))]⟩, ⟨[1], false, false, [.d (.int .i64)]⟩] x 0) (endS [.int .i64] [⟨[], true, false, [.d (.pair (.list (.int .i64)) (.int .i64))]⟩]) = (t_armplanmake_Source_Next x.1.1 x.2.1.1).optA (fun (r : (Int × (List (Int) × Int))) => ((r.1, ()), ((r.2, ()), ()))) := by
  intro x; kernel_rfl
def hd_armplanmake_Source_Next : Hd := hdS 2 [⟨[0], true, false, [.d (.pair (.list (.int .i64)) (.int .i64))]⟩, ⟨[1], false, false, [.d (.int .i64)]⟩] [⟨[], true, false, [.d (.pair (.list (.int .i64)) (.int .i64))]⟩] [.int .i64] (fun x => dom_armplanmake_Source_Next x.1.1 x.2.1.1) (fun x => (fun (r : (Int × (List (Int) × Int))) => ((r.1, ()), ((r.2, ()), ()))) (armplanmake_Source_Next x.1.1 x.2.1.1)) (by kernel_rfl)
theorem fn_armplanmake_Source_Next : FnS Try.prog 57 2 [⟨[0], true, false, [.d (.pair (.list (.int .i64)) (.int .i64))]⟩, ⟨[1], false, false, [.d (.int .i64)]⟩] [⟨[], true, false, [.d (.pair (.list (.int .i64)) (.int .i64))]⟩] [.int .i64] (fun x => bif (fun x => dom_armplanmake_Source_Next x.1.1 x.2.1.1) x then some ((fun x => (fun (r : (Int × (List (Int) × Int))) => ((r.1, ()), ((r.2, ()), ()))) (armplanmake_Source_Next x.1.1 x.2.1.1)) x) else none) :=
  fnS_tree (np := 2) (ss := [⟨[0], true, false, [.d (.pair (.list (.int .i64)) (.int .i64))]⟩, ⟨[1], false, false, [.d (.int .i64)]⟩]) (ss1 := [⟨[], true, false, [.d (.pair (.list (.int .i64)) (.int .i64))]⟩]) (Ts := [.int .i64]) (R := (Int × (List (Int) × Int))) (dom := fun x => dom_armplanmake_Source_Next x.1.1 x.2.1.1) (t := fun (x : Sl [⟨[0], true, false, [.d (.pair (.list (.int .i64)) (.int .i64))]⟩, ⟨[1], false, false, [.d (.int .i64)]⟩]) => t_armplanmake_Source_Next x.1.1 x.2.1.1) (mk := (fun (r : (Int × (List (Int) × Int))) => ((r.1, ()), ((r.2, ()), ())))) (mkC_ok ctys_ok ceqs_ok (fns_cons ok_armplanmake_Round (fns_nil _)) (inl_nil _) noLoops_ok mixed) Try.func57 (by kernel_rfl) run_armplanmake_Source_Next (fun _ => .inr rfl)
theorem ok_armplanmake_Source_Next : HdOk Try.prog 57 hd_armplanmake_Source_Next.sem ∧ Enters Try.prog 57 := ⟨hdS_ok (by kernel_rfl) fn_armplanmake_Source_Next, _, Try.func57, by kernel_rfl, by kernel_rfl⟩

/- (*armplan/armplanmake.Source).Signed -/
def t_armplanmake_Source_Signed (a0 : (List (Int) × Int)) (a1 : Int) : Tr (Int × (List (Int) × Int)) :=
  let x1 : Int := IntKind.wrap .i64 (2 * a1)
  let x2 : Int := IntKind.wrap .i64 (x1 + 1)
  let r3 : (Int × (List (Int) × Int)) := armplanmake_Source_Next a0 x2
  .br (dom_armplanmake_Source_Next a0 x2) (
   let x4 : Int := IntKind.wrap .i64 (r3.1 - a1)
   .leaf (x4, r3.2)) .fail
def armplanmake_Source_Signed (a0 : (List (Int) × Int)) (a1 : Int) : (Int × (List (Int) × Int)) := (t_armplanmake_Source_Signed a0 a1).val
def dom_armplanmake_Source_Signed (a0 : (List (Int) × Int)) (a1 : Int) : Bool := (t_armplanmake_Source_Signed a0 a1).dom
theorem run_armplanmake_Source_Signed : ∀ x, runF (mkC ctys ceqs [(57, hd_armplanmake_Source_Next)] [] noLoops) 200 55 Try.f55 (mkT id [⟨[0], true, false, [.d (.pair (.list (.int .i64)) (.int .i64))]⟩, ⟨[1], false, false, [.d (.int .i64)]⟩] x 0 (List.replicate 2 .top)) (mkH id [⟨[0], true, false, [.d (.pair (.list (.int .i64)) (.int .i64))]⟩, ⟨[1], false, false, [.d (.int .i64)]⟩] x 0) (endS [.int .i64] [⟨[], true, false, [.d (.pair (.list (.int .i64)) (.int .i64))]⟩]) = (t_armplanmake_Source_Signed x.1.1 x.2.1.1).optA (fun (r : (Int × (List (Int) × Int))) => ((r.1, ()), ((r.2, ()), ()))) := by
  intro x; kernel_rfl
def hd_armplanmake_Source_Signed : Hd := hdS 2 [⟨[0], true, false, [.d (.pair (.list (.int .i64)) (.int .i64))]⟩, ⟨[1], false, false, [.d (.int .i64)]⟩] [⟨[], true, false, [.d (.pair (.list (.int .i64)) (.int .i64))]⟩] [.int .i64] (fun x => dom_armplanmake_Source_Signed x.1.1 x.2.1.1) (fun x => (fun (r : (Int × (List (Int) × Int))) => ((r.1, ()), ((r.2, ()), ()))) (armplanmake_Source_Signed x.1.1 x.2.1.1)) (by kernel_rfl)
theorem fn_armplanmake_Source_Signed : FnS Try.prog 55 2 [⟨[0], true, false, [.d (.pair (.list (.int .i64)) (.int .i64))]⟩, ⟨[1], false, false, [.d (.int .i64)]⟩] [⟨[], true, false, [.d (.pair (.list (.int .i64)) (.int .i64))]⟩] [.int .i64] (fun x => bif (fun x => dom_armplanmake_Source_Signed x.1.1 x.2.1.1) x then some ((fun x => (fun (r : (Int × (List (Int) × Int))) => ((r.1, ()), ((r.2, ()), ()))) (armplanmake_Source_Signed x.1.1 x.2.1.1)) x) else none) :=
  fnS_tree (np := 2) (ss := [⟨[0], true, false, [.d (.pair (.list (.int .i64)) (.int .i64))]⟩, ⟨[1], false, false, [.d (.int .i64)]⟩]) (ss1 := [⟨[], true, false, [.d (.pair (.list (.int .i64)) (.int .i64))]⟩]) (Ts := [.int .i64]) (R := (Int × (List (Int) × Int))) (dom := fun x => dom_armplanmake_Source_Signed x.1.1 x.2.1.1) (t := fun (x : Sl [⟨[0], true, false, [.d (.pair (.list (.int .i64)) (.int .i64))]⟩, ⟨[1], false, false, [.d (.int .i64)]⟩]) => t_armplanmake_Source_Signed x.1.1 x.2.1.1) (mk := (fun (r : (Int × (List (Int) × Int))) => ((r.1, ()), ((r.2, ()), ())))) (mkC_ok ctys_ok ceqs_ok (fns_cons ok_armplanmake_Source_Next (fns_nil _)) (inl_nil _) noLoops_ok mixed) Try.func55 (by kernel_rfl) run_armplanmake_Source_Signed (fun _ => .inr rfl)
theorem ok_armplanmake_Source_Signed : HdOk Try.prog 55 hd_armplanmake_Source_Signed.sem ∧ Enters Try.prog 55 := ⟨hdS_ok (by kernel_rfl) fn_armplanmake_Source_Signed, _, Try.func55, by kernel_rfl, by kernel_rfl⟩

/- armplan/armplanlaw4.square -/
def t_armplanlaw4_square (a0 : ((Int × Int) × ((Int × Int) × (Int × Int)))) : Tr (Int × Int) :=
  let r1 : (Int × Int) := armplanref1_Square a0.1
  let r2 : (Int × Int) := armplanref1_Square a0.2.1
  let r3 : (Int × Int) := armplanref1_Add r1 r2
  let r4 : (Int × Int) := armplanref1_Square a0.2.2
  let r5 : (Int × Int) := armplanref1_Add r3 r4
  .leaf r5
def armplanlaw4_square (a0 : ((Int × Int) × ((Int × Int) × (Int × Int)))) : (Int × Int) := (t_armplanlaw4_square a0).val
theorem run_armplanlaw4_square : ∀ x, runF (mkC ctys ceqs [(37, hd_armplanref1_Add), (38, hd_armplanref1_Square)] [] noLoops) 200 59 Try.f59 (argsA [.pair (.pair (.int .i64) (.int .i64)) (.pair (.pair (.int .i64) (.int .i64)) (.pair (.int .i64) (.int .i64)))] x) [] (fun v h => toRes h [.pair (.int .i64) (.int .i64)] v) = (t_armplanlaw4_square x.1).optA (fun r => (r, ())) := by
  intro x; kernel_rfl
theorem fn_armplanlaw4_square : FnOk Try.prog 59 [.pair (.pair (.int .i64) (.int .i64)) (.pair (.pair (.int .i64) (.int .i64)) (.pair (.int .i64) (.int .i64)))] [.pair (.int .i64) (.int .i64)] (fun x => some ((fun r => (r, ())) (armplanlaw4_square x.1))) :=
  fn_tot (t := fun (x : Ar [.pair (.pair (.int .i64) (.int .i64)) (.pair (.pair (.int .i64) (.int .i64)) (.pair (.int .i64) (.int .i64)))]) => t_armplanlaw4_square x.1) (R := (Int × Int)) (Ts := [.pair (.int .i64) (.int .i64)]) (mk := (fun r => (r, ()))) (mkC_ok ctys_ok ceqs_ok (fns_cons ok_armplanref1_Add (fns_cons ok_armplanref1_Square (fns_nil _))) (inl_nil _) noLoops_ok mixed) Try.func59 run_armplanlaw4_square (fun _ => by kernel_rfl)
def hd_armplanlaw4_square : Hd := dataHd [.pair (.pair (.int .i64) (.int .i64)) (.pair (.pair (.int .i64) (.int .i64)) (.pair (.int .i64) (.int .i64)))] [.pair (.int .i64) (.int .i64)] (fun x => some ((fun r => (r, ())) (armplanlaw4_square x.1)))
theorem ok_armplanlaw4_square : HdOk Try.prog 59 hd_armplanlaw4_square.sem ∧ Enters Try.prog 59 := data_ok fn_armplanlaw4_square Try.func59 (by kernel_rfl) (by kernel_rfl)

/- armplan/armplanlaw4.MatrixLength -/
def t_armplanlaw4_MatrixLength (a0 : List (Int)) : Tr Bool :=
  let r1 : (Int × (List (Int) × Int)) := armplanmake_Source_Signed (a0, 0) 327680
  .br (dom_armplanmake_Source_Signed (a0, 0) 327680) (
   let r2 : (Int × (List (Int) × Int)) := armplanmake_Source_Signed r1.2 327680
   .br (dom_armplanmake_Source_Signed r1.2 327680) (
    let r3 : (Int × (List (Int) × Int)) := armplanmake_Source_Signed r2.2 327680
    .br (dom_armplanmake_Source_Signed r2.2 327680) (
     let r4 : ((Int × Int) × ((Int × Int) × (Int × Int))) := armplanref1_Point (r1.1, (r2.1, r3.1))
     let r5 : (Int × (List (Int) × Int)) := armplanmake_Source_Next r3.2 3
     .br (dom_armplanmake_Source_Next r3.2 3) (
      let r6 : (Int × (List (Int) × Int)) := armplanmake_Source_Signed r5.2 70000
      .br (dom_armplanmake_Source_Signed r5.2 70000) (
       let r7 : (Int × Int) := armplanref1_Of r6.1
       let r8 : (((Int × Int) × ((Int × Int) × (Int × Int))) × (((Int × Int) × ((Int × Int) × (Int × Int))) × ((Int × Int) × ((Int × Int) × (Int × Int))))) := matrix_Turn r5.1 r7
       let r9 : ((Int × Int) × ((Int × Int) × (Int × Int))) := matrix_Apply r8 r4
       let r10 : (Int × Int) := armplanlaw4_square r4
       let r11 : (Int × Int) := armplanlaw4_square r9
       let r12 : ((Int × Int) × Bool) := armplanref1_Meet r10 r11
       let r13 : Bool := armplanlaw4_awake
       .br (r13) (
        .leaf r12.2) (
        .leaf false)) .fail) .fail) .fail) .fail) .fail
def armplanlaw4_MatrixLength (a0 : List (Int)) : Bool := (t_armplanlaw4_MatrixLength a0).val
def dom_armplanlaw4_MatrixLength (a0 : List (Int)) : Bool := (t_armplanlaw4_MatrixLength a0).dom
theorem run_armplanlaw4_MatrixLength : ∀ x, runF (mkC ctys ceqs [(43, hd_armplanref1_Meet), (50, hd_armplanlaw4_awake), (51, hd_matrix_Turn), (54, hd_armplanref1_Point), (55, hd_armplanmake_Source_Signed), (56, hd_matrix_Apply), (57, hd_armplanmake_Source_Next), (58, hd_armplanref1_Of), (59, hd_armplanlaw4_square)] [(53, Try.f53)] noLoops) 200 13 Try.f13 (argsA [.list (.int .i64)] x) [] (fun v h => toRes h [.bool] v) = (t_armplanlaw4_MatrixLength x.1).optA (fun r => (r, ())) := by
  intro x; kernel_rfl
theorem fn_armplanlaw4_MatrixLength : FnOk Try.prog 13 [.list (.int .i64)] [.bool] (fun x => bif dom_armplanlaw4_MatrixLength x.1 then some ((fun r => (r, ())) (armplanlaw4_MatrixLength x.1)) else none) :=
  fn_part (t := fun (x : Ar [.list (.int .i64)]) => t_armplanlaw4_MatrixLength x.1) (R := Bool) (Ts := [.bool]) (mk := (fun r => (r, ()))) (mkC_ok ctys_ok ceqs_ok (fns_cons ok_armplanref1_Meet (fns_cons ok_armplanlaw4_awake (fns_cons ok_matrix_Turn (fns_cons ok_armplanref1_Point (fns_cons ok_armplanmake_Source_Signed (fns_cons ok_matrix_Apply (fns_cons ok_armplanmake_Source_Next (fns_cons ok_armplanref1_Of (fns_cons ok_armplanlaw4_square (fns_nil _)))))))))) (inl_cons Try.func53 (by kernel_rfl) (inl_nil _)) noLoops_ok mixed) Try.func13 run_armplanlaw4_MatrixLength
def hd_armplanlaw4_MatrixLength : Hd := guardHd [.list (.int .i64)] [.bool] (fun x => dom_armplanlaw4_MatrixLength x.1) (fun x => (fun r => (r, ())) (armplanlaw4_MatrixLength x.1))
theorem ok_armplanlaw4_MatrixLength : HdOk Try.prog 13 hd_armplanlaw4_MatrixLength.sem ∧ Enters Try.prog 13 := guard_ok fn_armplanlaw4_MatrixLength Try.func13 (by kernel_rfl) (by kernel_rfl)

/- armplan/armplanlaw4.turn -/
def t_armplanlaw4_turn (a0 : (List (Int) × Int)) : Tr ((((Int × Int) × ((Int × Int) × (Int × Int))) × (((Int × Int) × ((Int × Int) × (Int × Int))) × ((Int × Int) × ((Int × Int) × (Int × Int))))) × (List (Int) × Int)) :=
  let r1 : (Int × (List (Int) × Int)) := armplanmake_Source_Signed a0 70000
  .br (dom_armplanmake_Source_Signed a0 70000) (
   let r2 : (Int × (List (Int) × Int)) := armplanmake_Source_Next r1.2 3
   .br (dom_armplanmake_Source_Next r1.2 3) (
    let r3 : (Int × (List (Int) × Int)) := armplanmake_Source_Next r2.2 3
    .br (dom_armplanmake_Source_Next r2.2 3) (
     let r4 : (Int × (List (Int) × Int)) := armplanmake_Source_Next r3.2 9000
     .br (dom_armplanmake_Source_Next r3.2 9000) (
      let x5 : Int := IntKind.wrap .i64 (r3.1 * r4.1)
      let x6 : Int := IntKind.wrap .i64 (r1.1 + x5)
      let r7 : (((Int × Int) × ((Int × Int) × (Int × Int))) × (((Int × Int) × ((Int × Int) × (Int × Int))) × ((Int × Int) × ((Int × Int) × (Int × Int))))) := armplanref1_Turn r2.1 (r1.1, x6)
      .leaf (r7, r4.2)) .fail) .fail) .fail) .fail
def armplanlaw4_turn (a0 : (List (Int) × Int)) : ((((Int × Int) × ((Int × Int) × (Int × Int))) × (((Int × Int) × ((Int × Int) × (Int × Int))) × ((Int × Int) × ((Int × Int) × (Int × Int))))) × (List (Int) × Int)) := (t_armplanlaw4_turn a0).val
def dom_armplanlaw4_turn (a0 : (List (Int) × Int)) : Bool := (t_armplanlaw4_turn a0).dom
theorem run_armplanlaw4_turn : ∀ x, runF (mkC ctys ceqs [(52, hd_armplanref1_Turn), (55, hd_armplanmake_Source_Signed), (57, hd_armplanmake_Source_Next)] [] noLoops) 200 60 Try.f60 (mkT id [⟨[0], true, false, [.d (.pair (.list (.int .i64)) (.int .i64))]⟩] x 0 (List.replicate 1 .top)) (mkH id [⟨[0], true, false, [.d (.pair (.list (.int .i64)) (.int .i64))]⟩] x 0) (endS [.pair (.pair (.pair (.int .i64) (.int .i64)) (.pair (.pair (.int .i64) (.int .i64)) (.pair (.int .i64) (.int .i64)))) (.pair (.pair (.pair (.int .i64) (.int .i64)) (.pair (.pair (.int .i64) (.int .i64)) (.pair (.int .i64) (.int .i64)))) (.pair (.pair (.int .i64) (.int .i64)) (.pair (.pair (.int .i64) (.int .i64)) (.pair (.int .i64) (.int .i64)))))] [⟨[], true, false, [.d (.pair (.list (.int .i64)) (.int .i64))]⟩]) = (t_armplanlaw4_turn x.1.1).optA (fun (r : ((((Int × Int) × ((Int × Int) × (Int × Int))) × (((Int × Int) × ((Int × Int) × (Int × Int))) × ((Int × Int) × ((Int × Int) × (Int × Int))))) × (List (Int) × Int))) => ((r.1, ()), ((r.2, ()), ()))) := by
  intro x; kernel_rfl
def hd_armplanlaw4_turn : Hd := hdS 1 [⟨[0], true, false, [.d (.pair (.list (.int .i64)) (.int .i64))]⟩] [⟨[], true, false, [.d (.pair (.list (.int .i64)) (.int .i64))]⟩] [.pair (.pair (.pair (.int .i64) (.int .i64)) (.pair (.pair (.int .i64) (.int .i64)) (.pair (.int .i64) (.int .i64)))) (.pair (.pair (.pair (.int .i64) (.int .i64)) (.pair (.pair (.int .i64) (.int .i64)) (.pair (.int .i64) (.int .i64)))) (.pair (.pair (.int .i64) (.int .i64)) (.pair (.pair (.int .i64) (.int .i64)) (.pair (.int .i64) (.int .i64)))))] (fun x => dom_armplanlaw4_turn x.1.1) (fun x => (fun (r : ((((Int × Int) × ((Int × Int) × (Int × Int))) × (((Int × Int) × ((Int × Int) × (Int × Int))) × ((Int × Int) × ((Int × Int) × (Int × Int))))) × (List (Int) × Int))) => ((r.1, ()), ((r.2, ()), ()))) (armplanlaw4_turn x.1.1)) (by kernel_rfl)
theorem fn_armplanlaw4_turn : FnS Try.prog 60 1 [⟨[0], true, false, [.d (.pair (.list (.int .i64)) (.int .i64))]⟩] [⟨[], true, false, [.d (.pair (.list (.int .i64)) (.int .i64))]⟩] [.pair (.pair (.pair (.int .i64) (.int .i64)) (.pair (.pair (.int .i64) (.int .i64)) (.pair (.int .i64) (.int .i64)))) (.pair (.pair (.pair (.int .i64) (.int .i64)) (.pair (.pair (.int .i64) (.int .i64)) (.pair (.int .i64) (.int .i64)))) (.pair (.pair (.int .i64) (.int .i64)) (.pair (.pair (.int .i64) (.int .i64)) (.pair (.int .i64) (.int .i64)))))] (fun x => bif (fun x => dom_armplanlaw4_turn x.1.1) x then some ((fun x => (fun (r : ((((Int × Int) × ((Int × Int) × (Int × Int))) × (((Int × Int) × ((Int × Int) × (Int × Int))) × ((Int × Int) × ((Int × Int) × (Int × Int))))) × (List (Int) × Int))) => ((r.1, ()), ((r.2, ()), ()))) (armplanlaw4_turn x.1.1)) x) else none) :=
  fnS_tree (np := 1) (ss := [⟨[0], true, false, [.d (.pair (.list (.int .i64)) (.int .i64))]⟩]) (ss1 := [⟨[], true, false, [.d (.pair (.list (.int .i64)) (.int .i64))]⟩]) (Ts := [.pair (.pair (.pair (.int .i64) (.int .i64)) (.pair (.pair (.int .i64) (.int .i64)) (.pair (.int .i64) (.int .i64)))) (.pair (.pair (.pair (.int .i64) (.int .i64)) (.pair (.pair (.int .i64) (.int .i64)) (.pair (.int .i64) (.int .i64)))) (.pair (.pair (.int .i64) (.int .i64)) (.pair (.pair (.int .i64) (.int .i64)) (.pair (.int .i64) (.int .i64)))))]) (R := ((((Int × Int) × ((Int × Int) × (Int × Int))) × (((Int × Int) × ((Int × Int) × (Int × Int))) × ((Int × Int) × ((Int × Int) × (Int × Int))))) × (List (Int) × Int))) (dom := fun x => dom_armplanlaw4_turn x.1.1) (t := fun (x : Sl [⟨[0], true, false, [.d (.pair (.list (.int .i64)) (.int .i64))]⟩]) => t_armplanlaw4_turn x.1.1) (mk := (fun (r : ((((Int × Int) × ((Int × Int) × (Int × Int))) × (((Int × Int) × ((Int × Int) × (Int × Int))) × ((Int × Int) × ((Int × Int) × (Int × Int))))) × (List (Int) × Int))) => ((r.1, ()), ((r.2, ()), ())))) (mkC_ok ctys_ok ceqs_ok (fns_cons ok_armplanref1_Turn (fns_cons ok_armplanmake_Source_Signed (fns_cons ok_armplanmake_Source_Next (fns_nil _)))) (inl_nil _) noLoops_ok mixed) Try.func60 (by kernel_rfl) run_armplanlaw4_turn (fun _ => .inr rfl)
theorem ok_armplanlaw4_turn : HdOk Try.prog 60 hd_armplanlaw4_turn.sem ∧ Enters Try.prog 60 := ⟨hdS_ok (by kernel_rfl) fn_armplanlaw4_turn, _, Try.func60, by kernel_rfl, by kernel_rfl⟩

/- armplan/armplanlaw4.vec -/
def t_armplanlaw4_vec (a0 : (List (Int) × Int)) : Tr (((Int × Int) × ((Int × Int) × (Int × Int))) × (List (Int) × Int)) :=
  let r1 : (Int × (List (Int) × Int)) := armplanmake_Source_Signed a0 327680
  .br (dom_armplanmake_Source_Signed a0 327680) (
   let r2 : (Int × (List (Int) × Int)) := armplanmake_Source_Next r1.2 3
   .br (dom_armplanmake_Source_Next r1.2 3) (
    let r3 : (Int × (List (Int) × Int)) := armplanmake_Source_Next r2.2 40000
    .br (dom_armplanmake_Source_Next r2.2 40000) (
     let x4 : Int := IntKind.wrap .i64 (r2.1 * r3.1)
     let x5 : Int := IntKind.wrap .i64 (r1.1 + x4)
     let r6 : (Int × (List (Int) × Int)) := armplanmake_Source_Signed r3.2 327680
     .br (dom_armplanmake_Source_Signed r3.2 327680) (
      let r7 : (Int × (List (Int) × Int)) := armplanmake_Source_Next r6.2 3
      .br (dom_armplanmake_Source_Next r6.2 3) (
       let r8 : (Int × (List (Int) × Int)) := armplanmake_Source_Next r7.2 40000
       .br (dom_armplanmake_Source_Next r7.2 40000) (
        let x9 : Int := IntKind.wrap .i64 (r7.1 * r8.1)
        let x10 : Int := IntKind.wrap .i64 (r6.1 + x9)
        let r11 : (Int × (List (Int) × Int)) := armplanmake_Source_Signed r8.2 327680
        .br (dom_armplanmake_Source_Signed r8.2 327680) (
         let r12 : (Int × (List (Int) × Int)) := armplanmake_Source_Next r11.2 3
         .br (dom_armplanmake_Source_Next r11.2 3) (
          let r13 : (Int × (List (Int) × Int)) := armplanmake_Source_Next r12.2 40000
          .br (dom_armplanmake_Source_Next r12.2 40000) (
           let x14 : Int := IntKind.wrap .i64 (r12.1 * r13.1)
           let x15 : Int := IntKind.wrap .i64 (r11.1 + x14)
           .leaf (((r1.1, x5), ((r6.1, x10), (r11.1, x15))), r13.2)) .fail) .fail) .fail) .fail) .fail) .fail) .fail) .fail) .fail
def armplanlaw4_vec (a0 : (List (Int) × Int)) : (((Int × Int) × ((Int × Int) × (Int × Int))) × (List (Int) × Int)) := (t_armplanlaw4_vec a0).val
def dom_armplanlaw4_vec (a0 : (List (Int) × Int)) : Bool := (t_armplanlaw4_vec a0).dom
theorem run_armplanlaw4_vec : ∀ x, runF (mkC ctys ceqs [(55, hd_armplanmake_Source_Signed), (57, hd_armplanmake_Source_Next)] [] noLoops) 200 61 Try.f61 (mkT id [⟨[0], true, false, [.d (.pair (.list (.int .i64)) (.int .i64))]⟩] x 0 (List.replicate 1 .top)) (mkH id [⟨[0], true, false, [.d (.pair (.list (.int .i64)) (.int .i64))]⟩] x 0) (endS [.pair (.pair (.int .i64) (.int .i64)) (.pair (.pair (.int .i64) (.int .i64)) (.pair (.int .i64) (.int .i64)))] [⟨[], true, false, [.d (.pair (.list (.int .i64)) (.int .i64))]⟩]) = (t_armplanlaw4_vec x.1.1).optA (fun (r : (((Int × Int) × ((Int × Int) × (Int × Int))) × (List (Int) × Int))) => ((r.1, ()), ((r.2, ()), ()))) := by
  intro x; kernel_rfl
def hd_armplanlaw4_vec : Hd := hdS 1 [⟨[0], true, false, [.d (.pair (.list (.int .i64)) (.int .i64))]⟩] [⟨[], true, false, [.d (.pair (.list (.int .i64)) (.int .i64))]⟩] [.pair (.pair (.int .i64) (.int .i64)) (.pair (.pair (.int .i64) (.int .i64)) (.pair (.int .i64) (.int .i64)))] (fun x => dom_armplanlaw4_vec x.1.1) (fun x => (fun (r : (((Int × Int) × ((Int × Int) × (Int × Int))) × (List (Int) × Int))) => ((r.1, ()), ((r.2, ()), ()))) (armplanlaw4_vec x.1.1)) (by kernel_rfl)
theorem fn_armplanlaw4_vec : FnS Try.prog 61 1 [⟨[0], true, false, [.d (.pair (.list (.int .i64)) (.int .i64))]⟩] [⟨[], true, false, [.d (.pair (.list (.int .i64)) (.int .i64))]⟩] [.pair (.pair (.int .i64) (.int .i64)) (.pair (.pair (.int .i64) (.int .i64)) (.pair (.int .i64) (.int .i64)))] (fun x => bif (fun x => dom_armplanlaw4_vec x.1.1) x then some ((fun x => (fun (r : (((Int × Int) × ((Int × Int) × (Int × Int))) × (List (Int) × Int))) => ((r.1, ()), ((r.2, ()), ()))) (armplanlaw4_vec x.1.1)) x) else none) :=
  fnS_tree (np := 1) (ss := [⟨[0], true, false, [.d (.pair (.list (.int .i64)) (.int .i64))]⟩]) (ss1 := [⟨[], true, false, [.d (.pair (.list (.int .i64)) (.int .i64))]⟩]) (Ts := [.pair (.pair (.int .i64) (.int .i64)) (.pair (.pair (.int .i64) (.int .i64)) (.pair (.int .i64) (.int .i64)))]) (R := (((Int × Int) × ((Int × Int) × (Int × Int))) × (List (Int) × Int))) (dom := fun x => dom_armplanlaw4_vec x.1.1) (t := fun (x : Sl [⟨[0], true, false, [.d (.pair (.list (.int .i64)) (.int .i64))]⟩]) => t_armplanlaw4_vec x.1.1) (mk := (fun (r : (((Int × Int) × ((Int × Int) × (Int × Int))) × (List (Int) × Int))) => ((r.1, ()), ((r.2, ()), ())))) (mkC_ok ctys_ok ceqs_ok (fns_cons ok_armplanmake_Source_Signed (fns_cons ok_armplanmake_Source_Next (fns_nil _))) (inl_nil _) noLoops_ok mixed) Try.func61 (by kernel_rfl) run_armplanlaw4_vec (fun _ => .inr rfl)
theorem ok_armplanlaw4_vec : HdOk Try.prog 61 hd_armplanlaw4_vec.sem ∧ Enters Try.prog 61 := ⟨hdS_ok (by kernel_rfl) fn_armplanlaw4_vec, _, Try.func61, by kernel_rfl, by kernel_rfl⟩

/- armplan/matrix.Add -/
def t_matrix_Add (a0 : ((Int × Int) × ((Int × Int) × (Int × Int)))) (a1 : ((Int × Int) × ((Int × Int) × (Int × Int)))) : Tr ((Int × Int) × ((Int × Int) × (Int × Int))) :=
  let r1 : (Int × Int) := interval_Add a0.1 a1.1
  let r2 : (Int × Int) := interval_Add a0.2.1 a1.2.1
  let r3 : (Int × Int) := interval_Add a0.2.2 a1.2.2
  .leaf (r1, (r2, r3))
def matrix_Add (a0 : ((Int × Int) × ((Int × Int) × (Int × Int)))) (a1 : ((Int × Int) × ((Int × Int) × (Int × Int)))) : ((Int × Int) × ((Int × Int) × (Int × Int))) := (t_matrix_Add a0 a1).val
theorem run_matrix_Add : ∀ x, runF (mkC ctys ceqs [(121, hd_interval_Add)] [] noLoops) 200 72 Try.f72 (argsA [.pair (.pair (.int .i64) (.int .i64)) (.pair (.pair (.int .i64) (.int .i64)) (.pair (.int .i64) (.int .i64))), .pair (.pair (.int .i64) (.int .i64)) (.pair (.pair (.int .i64) (.int .i64)) (.pair (.int .i64) (.int .i64)))] x) [] (fun v h => toRes h [.pair (.pair (.int .i64) (.int .i64)) (.pair (.pair (.int .i64) (.int .i64)) (.pair (.int .i64) (.int .i64)))] v) = (t_matrix_Add x.1 x.2.1).optA (fun r => (r, ())) := by
  intro x; kernel_rfl
theorem fn_matrix_Add : FnOk Try.prog 72 [.pair (.pair (.int .i64) (.int .i64)) (.pair (.pair (.int .i64) (.int .i64)) (.pair (.int .i64) (.int .i64))), .pair (.pair (.int .i64) (.int .i64)) (.pair (.pair (.int .i64) (.int .i64)) (.pair (.int .i64) (.int .i64)))] [.pair (.pair (.int .i64) (.int .i64)) (.pair (.pair (.int .i64) (.int .i64)) (.pair (.int .i64) (.int .i64)))] (fun x => some ((fun r => (r, ())) (matrix_Add x.1 x.2.1))) :=
  fn_tot (t := fun (x : Ar [.pair (.pair (.int .i64) (.int .i64)) (.pair (.pair (.int .i64) (.int .i64)) (.pair (.int .i64) (.int .i64))), .pair (.pair (.int .i64) (.int .i64)) (.pair (.pair (.int .i64) (.int .i64)) (.pair (.int .i64) (.int .i64)))]) => t_matrix_Add x.1 x.2.1) (R := ((Int × Int) × ((Int × Int) × (Int × Int)))) (Ts := [.pair (.pair (.int .i64) (.int .i64)) (.pair (.pair (.int .i64) (.int .i64)) (.pair (.int .i64) (.int .i64)))]) (mk := (fun r => (r, ()))) (mkC_ok ctys_ok ceqs_ok (fns_cons ok_interval_Add (fns_nil _)) (inl_nil _) noLoops_ok mixed) Try.func72 run_matrix_Add (fun _ => by kernel_rfl)
def hd_matrix_Add : Hd := dataHd [.pair (.pair (.int .i64) (.int .i64)) (.pair (.pair (.int .i64) (.int .i64)) (.pair (.int .i64) (.int .i64))), .pair (.pair (.int .i64) (.int .i64)) (.pair (.pair (.int .i64) (.int .i64)) (.pair (.int .i64) (.int .i64)))] [.pair (.pair (.int .i64) (.int .i64)) (.pair (.pair (.int .i64) (.int .i64)) (.pair (.int .i64) (.int .i64)))] (fun x => some ((fun r => (r, ())) (matrix_Add x.1 x.2.1)))
theorem ok_matrix_Add : HdOk Try.prog 72 hd_matrix_Add.sem ∧ Enters Try.prog 72 := data_ok fn_matrix_Add Try.func72 (by kernel_rfl) (by kernel_rfl)

/- armplan/interval.Sub -/
def t_interval_Sub (a0 : (Int × Int)) (a1 : (Int × Int)) : Tr (Int × Int) :=
  let r1 : Bool := interval_both a0 a1
  .br ((!r1)) (
   .leaf (0, 0)) (
   let x2 : Int := IntKind.wrap .i64 (a0.1 - a1.2)
   let x3 : Int := IntKind.wrap .i64 (a0.2 - a1.1)
   let r4 : (Int × Int) := interval_limit x2 x3
   .leaf r4)
def interval_Sub (a0 : (Int × Int)) (a1 : (Int × Int)) : (Int × Int) := (t_interval_Sub a0 a1).val
theorem run_interval_Sub : ∀ x, runF (mkC ctys ceqs [(144, hd_interval_limit), (145, hd_interval_both)] [] noLoops) 200 122 Try.f122 (argsA [.pair (.int .i64) (.int .i64), .pair (.int .i64) (.int .i64)] x) [] (fun v h => toRes h [.pair (.int .i64) (.int .i64)] v) = (t_interval_Sub x.1 x.2.1).optA (fun r => (r, ())) := by
  intro x; kernel_rfl
theorem fn_interval_Sub : FnOk Try.prog 122 [.pair (.int .i64) (.int .i64), .pair (.int .i64) (.int .i64)] [.pair (.int .i64) (.int .i64)] (fun x => some ((fun r => (r, ())) (interval_Sub x.1 x.2.1))) :=
  fn_tot (t := fun (x : Ar [.pair (.int .i64) (.int .i64), .pair (.int .i64) (.int .i64)]) => t_interval_Sub x.1 x.2.1) (R := (Int × Int)) (Ts := [.pair (.int .i64) (.int .i64)]) (mk := (fun r => (r, ()))) (mkC_ok ctys_ok ceqs_ok (fns_cons ok_interval_limit (fns_cons ok_interval_both (fns_nil _))) (inl_nil _) noLoops_ok mixed) Try.func122 run_interval_Sub (fun _ => by kernel_rfl)
def hd_interval_Sub : Hd := dataHd [.pair (.int .i64) (.int .i64), .pair (.int .i64) (.int .i64)] [.pair (.int .i64) (.int .i64)] (fun x => some ((fun r => (r, ())) (interval_Sub x.1 x.2.1)))
theorem ok_interval_Sub : HdOk Try.prog 122 hd_interval_Sub.sem ∧ Enters Try.prog 122 := data_ok fn_interval_Sub Try.func122 (by kernel_rfl) (by kernel_rfl)

/- armplan/matrix.Sub -/
def t_matrix_Sub (a0 : ((Int × Int) × ((Int × Int) × (Int × Int)))) (a1 : ((Int × Int) × ((Int × Int) × (Int × Int)))) : Tr ((Int × Int) × ((Int × Int) × (Int × Int))) :=
  let r1 : (Int × Int) := interval_Sub a0.1 a1.1
  let r2 : (Int × Int) := interval_Sub a0.2.1 a1.2.1
  let r3 : (Int × Int) := interval_Sub a0.2.2 a1.2.2
  .leaf (r1, (r2, r3))
def matrix_Sub (a0 : ((Int × Int) × ((Int × Int) × (Int × Int)))) (a1 : ((Int × Int) × ((Int × Int) × (Int × Int)))) : ((Int × Int) × ((Int × Int) × (Int × Int))) := (t_matrix_Sub a0 a1).val
theorem run_matrix_Sub : ∀ x, runF (mkC ctys ceqs [(122, hd_interval_Sub)] [] noLoops) 200 73 Try.f73 (argsA [.pair (.pair (.int .i64) (.int .i64)) (.pair (.pair (.int .i64) (.int .i64)) (.pair (.int .i64) (.int .i64))), .pair (.pair (.int .i64) (.int .i64)) (.pair (.pair (.int .i64) (.int .i64)) (.pair (.int .i64) (.int .i64)))] x) [] (fun v h => toRes h [.pair (.pair (.int .i64) (.int .i64)) (.pair (.pair (.int .i64) (.int .i64)) (.pair (.int .i64) (.int .i64)))] v) = (t_matrix_Sub x.1 x.2.1).optA (fun r => (r, ())) := by
  intro x; kernel_rfl
theorem fn_matrix_Sub : FnOk Try.prog 73 [.pair (.pair (.int .i64) (.int .i64)) (.pair (.pair (.int .i64) (.int .i64)) (.pair (.int .i64) (.int .i64))), .pair (.pair (.int .i64) (.int .i64)) (.pair (.pair (.int .i64) (.int .i64)) (.pair (.int .i64) (.int .i64)))] [.pair (.pair (.int .i64) (.int .i64)) (.pair (.pair (.int .i64) (.int .i64)) (.pair (.int .i64) (.int .i64)))] (fun x => some ((fun r => (r, ())) (matrix_Sub x.1 x.2.1))) :=
  fn_tot (t := fun (x : Ar [.pair (.pair (.int .i64) (.int .i64)) (.pair (.pair (.int .i64) (.int .i64)) (.pair (.int .i64) (.int .i64))), .pair (.pair (.int .i64) (.int .i64)) (.pair (.pair (.int .i64) (.int .i64)) (.pair (.int .i64) (.int .i64)))]) => t_matrix_Sub x.1 x.2.1) (R := ((Int × Int) × ((Int × Int) × (Int × Int)))) (Ts := [.pair (.pair (.int .i64) (.int .i64)) (.pair (.pair (.int .i64) (.int .i64)) (.pair (.int .i64) (.int .i64)))]) (mk := (fun r => (r, ()))) (mkC_ok ctys_ok ceqs_ok (fns_cons ok_interval_Sub (fns_nil _)) (inl_nil _) noLoops_ok mixed) Try.func73 run_matrix_Sub (fun _ => by kernel_rfl)
def hd_matrix_Sub : Hd := dataHd [.pair (.pair (.int .i64) (.int .i64)) (.pair (.pair (.int .i64) (.int .i64)) (.pair (.int .i64) (.int .i64))), .pair (.pair (.int .i64) (.int .i64)) (.pair (.pair (.int .i64) (.int .i64)) (.pair (.int .i64) (.int .i64)))] [.pair (.pair (.int .i64) (.int .i64)) (.pair (.pair (.int .i64) (.int .i64)) (.pair (.int .i64) (.int .i64)))] (fun x => some ((fun r => (r, ())) (matrix_Sub x.1 x.2.1)))
theorem ok_matrix_Sub : HdOk Try.prog 73 hd_matrix_Sub.sem ∧ Enters Try.prog 73 := data_ok fn_matrix_Sub Try.func73 (by kernel_rfl) (by kernel_rfl)

/- armplan/armplanref1.AddVec -/
def t_armplanref1_AddVec (a0 : ((Int × Int) × ((Int × Int) × (Int × Int)))) (a1 : ((Int × Int) × ((Int × Int) × (Int × Int)))) : Tr ((Int × Int) × ((Int × Int) × (Int × Int))) :=
  let r1 : (Int × Int) := armplanref1_Add a0.1 a1.1
  let r2 : (Int × Int) := armplanref1_Add a0.2.1 a1.2.1
  let r3 : (Int × Int) := armplanref1_Add a0.2.2 a1.2.2
  .leaf (r1, (r2, r3))
def armplanref1_AddVec (a0 : ((Int × Int) × ((Int × Int) × (Int × Int)))) (a1 : ((Int × Int) × ((Int × Int) × (Int × Int)))) : ((Int × Int) × ((Int × Int) × (Int × Int))) := (t_armplanref1_AddVec a0 a1).val
theorem run_armplanref1_AddVec : ∀ x, runF (mkC ctys ceqs [(37, hd_armplanref1_Add)] [] noLoops) 200 80 Try.f80 (argsA [.pair (.pair (.int .i64) (.int .i64)) (.pair (.pair (.int .i64) (.int .i64)) (.pair (.int .i64) (.int .i64))), .pair (.pair (.int .i64) (.int .i64)) (.pair (.pair (.int .i64) (.int .i64)) (.pair (.int .i64) (.int .i64)))] x) [] (fun v h => toRes h [.pair (.pair (.int .i64) (.int .i64)) (.pair (.pair (.int .i64) (.int .i64)) (.pair (.int .i64) (.int .i64)))] v) = (t_armplanref1_AddVec x.1 x.2.1).optA (fun r => (r, ())) := by
  intro x; kernel_rfl
theorem fn_armplanref1_AddVec : FnOk Try.prog 80 [.pair (.pair (.int .i64) (.int .i64)) (.pair (.pair (.int .i64) (.int .i64)) (.pair (.int .i64) (.int .i64))), .pair (.pair (.int .i64) (.int .i64)) (.pair (.pair (.int .i64) (.int .i64)) (.pair (.int .i64) (.int .i64)))] [.pair (.pair (.int .i64) (.int .i64)) (.pair (.pair (.int .i64) (.int .i64)) (.pair (.int .i64) (.int .i64)))] (fun x => some ((fun r => (r, ())) (armplanref1_AddVec x.1 x.2.1))) :=
  fn_tot (t := fun (x : Ar [.pair (.pair (.int .i64) (.int .i64)) (.pair (.pair (.int .i64) (.int .i64)) (.pair (.int .i64) (.int .i64))), .pair (.pair (.int .i64) (.int .i64)) (.pair (.pair (.int .i64) (.int .i64)) (.pair (.int .i64) (.int .i64)))]) => t_armplanref1_AddVec x.1 x.2.1) (R := ((Int × Int) × ((Int × Int) × (Int × Int)))) (Ts := [.pair (.pair (.int .i64) (.int .i64)) (.pair (.pair (.int .i64) (.int .i64)) (.pair (.int .i64) (.int .i64)))]) (mk := (fun r => (r, ()))) (mkC_ok ctys_ok ceqs_ok (fns_cons ok_armplanref1_Add (fns_nil _)) (inl_nil _) noLoops_ok mixed) Try.func80 run_armplanref1_AddVec (fun _ => by kernel_rfl)
def hd_armplanref1_AddVec : Hd := dataHd [.pair (.pair (.int .i64) (.int .i64)) (.pair (.pair (.int .i64) (.int .i64)) (.pair (.int .i64) (.int .i64))), .pair (.pair (.int .i64) (.int .i64)) (.pair (.pair (.int .i64) (.int .i64)) (.pair (.int .i64) (.int .i64)))] [.pair (.pair (.int .i64) (.int .i64)) (.pair (.pair (.int .i64) (.int .i64)) (.pair (.int .i64) (.int .i64)))] (fun x => some ((fun r => (r, ())) (armplanref1_AddVec x.1 x.2.1)))
theorem ok_armplanref1_AddVec : HdOk Try.prog 80 hd_armplanref1_AddVec.sem ∧ Enters Try.prog 80 := data_ok fn_armplanref1_AddVec Try.func80 (by kernel_rfl) (by kernel_rfl)

/- armplan/armplanref1.WithinVec -/
def t_armplanref1_WithinVec (a0 : ((Int × Int) × ((Int × Int) × (Int × Int)))) (a1 : ((Int × Int) × ((Int × Int) × (Int × Int)))) : Tr Bool :=
  let r1 : Bool := armplanref1_Within a0.1 a1.1
  .br (r1) (
   let r2 : Bool := armplanref1_Within a0.2.1 a1.2.1
   .br (r2) (
    let r3 : Bool := armplanref1_Within a0.2.2 a1.2.2
    .leaf r3) (
    .leaf false)) (
   .leaf false)
def armplanref1_WithinVec (a0 : ((Int × Int) × ((Int × Int) × (Int × Int)))) (a1 : ((Int × Int) × ((Int × Int) × (Int × Int)))) : Bool := (t_armplanref1_WithinVec a0 a1).val
theorem run_armplanref1_WithinVec : ∀ x, runF (mkC ctys ceqs [(40, hd_armplanref1_Within)] [] noLoops) 200 94 Try.f94 (argsA [.pair (.pair (.int .i64) (.int .i64)) (.pair (.pair (.int .i64) (.int .i64)) (.pair (.int .i64) (.int .i64))), .pair (.pair (.int .i64) (.int .i64)) (.pair (.pair (.int .i64) (.int .i64)) (.pair (.int .i64) (.int .i64)))] x) [] (fun v h => toRes h [.bool] v) = (t_armplanref1_WithinVec x.1 x.2.1).optA (fun r => (r, ())) := by
  intro x; kernel_rfl
theorem fn_armplanref1_WithinVec : FnOk Try.prog 94 [.pair (.pair (.int .i64) (.int .i64)) (.pair (.pair (.int .i64) (.int .i64)) (.pair (.int .i64) (.int .i64))), .pair (.pair (.int .i64) (.int .i64)) (.pair (.pair (.int .i64) (.int .i64)) (.pair (.int .i64) (.int .i64)))] [.bool] (fun x => some ((fun r => (r, ())) (armplanref1_WithinVec x.1 x.2.1))) :=
  fn_tot (t := fun (x : Ar [.pair (.pair (.int .i64) (.int .i64)) (.pair (.pair (.int .i64) (.int .i64)) (.pair (.int .i64) (.int .i64))), .pair (.pair (.int .i64) (.int .i64)) (.pair (.pair (.int .i64) (.int .i64)) (.pair (.int .i64) (.int .i64)))]) => t_armplanref1_WithinVec x.1 x.2.1) (R := Bool) (Ts := [.bool]) (mk := (fun r => (r, ()))) (mkC_ok ctys_ok ceqs_ok (fns_cons ok_armplanref1_Within (fns_nil _)) (inl_nil _) noLoops_ok mixed) Try.func94 run_armplanref1_WithinVec (fun _ => by kernel_rfl)
def hd_armplanref1_WithinVec : Hd := dataHd [.pair (.pair (.int .i64) (.int .i64)) (.pair (.pair (.int .i64) (.int .i64)) (.pair (.int .i64) (.int .i64))), .pair (.pair (.int .i64) (.int .i64)) (.pair (.pair (.int .i64) (.int .i64)) (.pair (.int .i64) (.int .i64)))] [.bool] (fun x => some ((fun r => (r, ())) (armplanref1_WithinVec x.1 x.2.1)))
theorem ok_armplanref1_WithinVec : HdOk Try.prog 94 hd_armplanref1_WithinVec.sem ∧ Enters Try.prog 94 := data_ok fn_armplanref1_WithinVec Try.func94 (by kernel_rfl) (by kernel_rfl)

/- armplan/armplanref1.ApplyMat -/
def t_armplanref1_ApplyMat (a0 : (((Int × Int) × ((Int × Int) × (Int × Int))) × (((Int × Int) × ((Int × Int) × (Int × Int))) × ((Int × Int) × ((Int × Int) × (Int × Int)))))) (a1 : ((Int × Int) × ((Int × Int) × (Int × Int)))) : Tr ((Int × Int) × ((Int × Int) × (Int × Int))) :=
  let r1 : (Int × Int) := armplanref1_Mul a0.1.1 a1.1
  let r2 : (Int × Int) := armplanref1_Mul a0.1.2.1 a1.2.1
  let r3 : (Int × Int) := armplanref1_Add r1 r2
  let r4 : (Int × Int) := armplanref1_Mul a0.1.2.2 a1.2.2
  let r5 : (Int × Int) := armplanref1_Add r3 r4
  let r6 : (Int × Int) := armplanref1_Mul a0.2.1.1 a1.1
  let r7 : (Int × Int) := armplanref1_Mul a0.2.1.2.1 a1.2.1
  let r8 : (Int × Int) := armplanref1_Add r6 r7
  let r9 : (Int × Int) := armplanref1_Mul a0.2.1.2.2 a1.2.2
  let r10 : (Int × Int) := armplanref1_Add r8 r9
  let r11 : (Int × Int) := armplanref1_Mul a0.2.2.1 a1.1
  let r12 : (Int × Int) := armplanref1_Mul a0.2.2.2.1 a1.2.1
  let r13 : (Int × Int) := armplanref1_Add r11 r12
  let r14 : (Int × Int) := armplanref1_Mul a0.2.2.2.2 a1.2.2
  let r15 : (Int × Int) := armplanref1_Add r13 r14
  .leaf (r5, (r10, r15))
def armplanref1_ApplyMat (a0 : (((Int × Int) × ((Int × Int) × (Int × Int))) × (((Int × Int) × ((Int × Int) × (Int × Int))) × ((Int × Int) × ((Int × Int) × (Int × Int)))))) (a1 : ((Int × Int) × ((Int × Int) × (Int × Int)))) : ((Int × Int) × ((Int × Int) × (Int × Int))) := (t_armplanref1_ApplyMat a0 a1).val
theorem run_armplanref1_ApplyMat : ∀ x, runF (mkC ctys ceqs [(37, hd_armplanref1_Add), (41, hd_armplanref1_Mul)] [] noLoops) 200 113 Try.f113 (argsA [.pair (.pair (.pair (.int .i64) (.int .i64)) (.pair (.pair (.int .i64) (.int .i64)) (.pair (.int .i64) (.int .i64)))) (.pair (.pair (.pair (.int .i64) (.int .i64)) (.pair (.pair (.int .i64) (.int .i64)) (.pair (.int .i64) (.int .i64)))) (.pair (.pair (.int .i64) (.int .i64)) (.pair (.pair (.int .i64) (.int .i64)) (.pair (.int .i64) (.int .i64))))), .pair (.pair (.int .i64) (.int .i64)) (.pair (.pair (.int .i64) (.int .i64)) (.pair (.int .i64) (.int .i64)))] x) [] (fun v h => toRes h [.pair (.pair (.int .i64) (.int .i64)) (.pair (.pair (.int .i64) (.int .i64)) (.pair (.int .i64) (.int .i64)))] v) = (t_armplanref1_ApplyMat x.1 x.2.1).optA (fun r => (r, ())) := by
  intro x; kernel_rfl
theorem fn_armplanref1_ApplyMat : FnOk Try.prog 113 [.pair (.pair (.pair (.int .i64) (.int .i64)) (.pair (.pair (.int .i64) (.int .i64)) (.pair (.int .i64) (.int .i64)))) (.pair (.pair (.pair (.int .i64) (.int .i64)) (.pair (.pair (.int .i64) (.int .i64)) (.pair (.int .i64) (.int .i64)))) (.pair (.pair (.int .i64) (.int .i64)) (.pair (.pair (.int .i64) (.int .i64)) (.pair (.int .i64) (.int .i64))))), .pair (.pair (.int .i64) (.int .i64)) (.pair (.pair (.int .i64) (.int .i64)) (.pair (.int .i64) (.int .i64)))] [.pair (.pair (.int .i64) (.int .i64)) (.pair (.pair (.int .i64) (.int .i64)) (.pair (.int .i64) (.int .i64)))] (fun x => some ((fun r => (r, ())) (armplanref1_ApplyMat x.1 x.2.1))) :=
  fn_tot (t := fun (x : Ar [.pair (.pair (.pair (.int .i64) (.int .i64)) (.pair (.pair (.int .i64) (.int .i64)) (.pair (.int .i64) (.int .i64)))) (.pair (.pair (.pair (.int .i64) (.int .i64)) (.pair (.pair (.int .i64) (.int .i64)) (.pair (.int .i64) (.int .i64)))) (.pair (.pair (.int .i64) (.int .i64)) (.pair (.pair (.int .i64) (.int .i64)) (.pair (.int .i64) (.int .i64))))), .pair (.pair (.int .i64) (.int .i64)) (.pair (.pair (.int .i64) (.int .i64)) (.pair (.int .i64) (.int .i64)))]) => t_armplanref1_ApplyMat x.1 x.2.1) (R := ((Int × Int) × ((Int × Int) × (Int × Int)))) (Ts := [.pair (.pair (.int .i64) (.int .i64)) (.pair (.pair (.int .i64) (.int .i64)) (.pair (.int .i64) (.int .i64)))]) (mk := (fun r => (r, ()))) (mkC_ok ctys_ok ceqs_ok (fns_cons ok_armplanref1_Add (fns_cons ok_armplanref1_Mul (fns_nil _))) (inl_nil _) noLoops_ok mixed) Try.func113 run_armplanref1_ApplyMat (fun _ => by kernel_rfl)
def hd_armplanref1_ApplyMat : Hd := dataHd [.pair (.pair (.pair (.int .i64) (.int .i64)) (.pair (.pair (.int .i64) (.int .i64)) (.pair (.int .i64) (.int .i64)))) (.pair (.pair (.pair (.int .i64) (.int .i64)) (.pair (.pair (.int .i64) (.int .i64)) (.pair (.int .i64) (.int .i64)))) (.pair (.pair (.int .i64) (.int .i64)) (.pair (.pair (.int .i64) (.int .i64)) (.pair (.int .i64) (.int .i64))))), .pair (.pair (.int .i64) (.int .i64)) (.pair (.pair (.int .i64) (.int .i64)) (.pair (.int .i64) (.int .i64)))] [.pair (.pair (.int .i64) (.int .i64)) (.pair (.pair (.int .i64) (.int .i64)) (.pair (.int .i64) (.int .i64)))] (fun x => some ((fun r => (r, ())) (armplanref1_ApplyMat x.1 x.2.1)))
theorem ok_armplanref1_ApplyMat : HdOk Try.prog 113 hd_armplanref1_ApplyMat.sem ∧ Enters Try.prog 113 := data_ok fn_armplanref1_ApplyMat Try.func113 (by kernel_rfl) (by kernel_rfl)

/- armplan/armplanref1.SubVec -/
def t_armplanref1_SubVec (a0 : ((Int × Int) × ((Int × Int) × (Int × Int)))) (a1 : ((Int × Int) × ((Int × Int) × (Int × Int)))) : Tr ((Int × Int) × ((Int × Int) × (Int × Int))) :=
  let r1 : (Int × Int) := armplanref1_Sub a0.1 a1.1
  let r2 : (Int × Int) := armplanref1_Sub a0.2.1 a1.2.1
  let r3 : (Int × Int) := armplanref1_Sub a0.2.2 a1.2.2
  .leaf (r1, (r2, r3))
def armplanref1_SubVec (a0 : ((Int × Int) × ((Int × Int) × (Int × Int)))) (a1 : ((Int × Int) × ((Int × Int) × (Int × Int)))) : ((Int × Int) × ((Int × Int) × (Int × Int))) := (t_armplanref1_SubVec a0 a1).val
theorem run_armplanref1_SubVec : ∀ x, runF (mkC ctys ceqs [(42, hd_armplanref1_Sub)] [] noLoops) 200 114 Try.f114 (argsA [.pair (.pair (.int .i64) (.int .i64)) (.pair (.pair (.int .i64) (.int .i64)) (.pair (.int .i64) (.int .i64))), .pair (.pair (.int .i64) (.int .i64)) (.pair (.pair (.int .i64) (.int .i64)) (.pair (.int .i64) (.int .i64)))] x) [] (fun v h => toRes h [.pair (.pair (.int .i64) (.int .i64)) (.pair (.pair (.int .i64) (.int .i64)) (.pair (.int .i64) (.int .i64)))] v) = (t_armplanref1_SubVec x.1 x.2.1).optA (fun r => (r, ())) := by
  intro x; kernel_rfl
theorem fn_armplanref1_SubVec : FnOk Try.prog 114 [.pair (.pair (.int .i64) (.int .i64)) (.pair (.pair (.int .i64) (.int .i64)) (.pair (.int .i64) (.int .i64))), .pair (.pair (.int .i64) (.int .i64)) (.pair (.pair (.int .i64) (.int .i64)) (.pair (.int .i64) (.int .i64)))] [.pair (.pair (.int .i64) (.int .i64)) (.pair (.pair (.int .i64) (.int .i64)) (.pair (.int .i64) (.int .i64)))] (fun x => some ((fun r => (r, ())) (armplanref1_SubVec x.1 x.2.1))) :=
  fn_tot (t := fun (x : Ar [.pair (.pair (.int .i64) (.int .i64)) (.pair (.pair (.int .i64) (.int .i64)) (.pair (.int .i64) (.int .i64))), .pair (.pair (.int .i64) (.int .i64)) (.pair (.pair (.int .i64) (.int .i64)) (.pair (.int .i64) (.int .i64)))]) => t_armplanref1_SubVec x.1 x.2.1) (R := ((Int × Int) × ((Int × Int) × (Int × Int)))) (Ts := [.pair (.pair (.int .i64) (.int .i64)) (.pair (.pair (.int .i64) (.int .i64)) (.pair (.int .i64) (.int .i64)))]) (mk := (fun r => (r, ()))) (mkC_ok ctys_ok ceqs_ok (fns_cons ok_armplanref1_Sub (fns_nil _)) (inl_nil _) noLoops_ok mixed) Try.func114 run_armplanref1_SubVec (fun _ => by kernel_rfl)
def hd_armplanref1_SubVec : Hd := dataHd [.pair (.pair (.int .i64) (.int .i64)) (.pair (.pair (.int .i64) (.int .i64)) (.pair (.int .i64) (.int .i64))), .pair (.pair (.int .i64) (.int .i64)) (.pair (.pair (.int .i64) (.int .i64)) (.pair (.int .i64) (.int .i64)))] [.pair (.pair (.int .i64) (.int .i64)) (.pair (.pair (.int .i64) (.int .i64)) (.pair (.int .i64) (.int .i64)))] (fun x => some ((fun r => (r, ())) (armplanref1_SubVec x.1 x.2.1)))
theorem ok_armplanref1_SubVec : HdOk Try.prog 114 hd_armplanref1_SubVec.sem ∧ Enters Try.prog 114 := data_ok fn_armplanref1_SubVec Try.func114 (by kernel_rfl) (by kernel_rfl)

/- armplan/armplanlaw4.applies -/
def t_armplanlaw4_applies (a0 : (((Int × Int) × ((Int × Int) × (Int × Int))) × (((Int × Int) × ((Int × Int) × (Int × Int))) × ((Int × Int) × ((Int × Int) × (Int × Int)))))) (a1 : ((Int × Int) × ((Int × Int) × (Int × Int)))) (a2 : ((Int × Int) × ((Int × Int) × (Int × Int)))) : Tr Bool :=
  let r1 : ((Int × Int) × ((Int × Int) × (Int × Int))) := matrix_Apply a0 a1
  let r2 : ((Int × Int) × ((Int × Int) × (Int × Int))) := armplanref1_ApplyMat a0 a1
  let x3 : Bool := (decide (r1.1.1 = r2.1.1) && (decide (r1.1.2 = r2.1.2) && (decide (r1.2.1.1 = r2.2.1.1) && (decide (r1.2.1.2 = r2.2.1.2) && (decide (r1.2.2.1 = r2.2.2.1) && (decide (r1.2.2.2 = r2.2.2.2) && true))))))
  .br (x3) (
   let r4 : ((Int × Int) × ((Int × Int) × (Int × Int))) := matrix_Add a1 a2
   let r5 : ((Int × Int) × ((Int × Int) × (Int × Int))) := armplanref1_AddVec a1 a2
   let x6 : Bool := (decide (r4.1.1 = r5.1.1) && (decide (r4.1.2 = r5.1.2) && (decide (r4.2.1.1 = r5.2.1.1) && (decide (r4.2.1.2 = r5.2.1.2) && (decide (r4.2.2.1 = r5.2.2.1) && (decide (r4.2.2.2 = r5.2.2.2) && true))))))
   .br (x6) (
    let r7 : ((Int × Int) × ((Int × Int) × (Int × Int))) := matrix_Sub a1 a2
    let r8 : ((Int × Int) × ((Int × Int) × (Int × Int))) := armplanref1_SubVec a1 a2
    let x9 : Bool := (decide (r7.1.1 = r8.1.1) && (decide (r7.1.2 = r8.1.2) && (decide (r7.2.1.1 = r8.2.1.1) && (decide (r7.2.1.2 = r8.2.1.2) && (decide (r7.2.2.1 = r8.2.2.1) && (decide (r7.2.2.2 = r8.2.2.2) && true))))))
    .br (x9) (
     let r10 : Bool := matrix_Within a1 a2
     let r11 : Bool := armplanref1_WithinVec a1 a2
     let x12 : Bool := ((r10 == r11) && true)
     .leaf x12) (
     .leaf false)) (
    .leaf false)) (
   .leaf false)
def armplanlaw4_applies (a0 : (((Int × Int) × ((Int × Int) × (Int × Int))) × (((Int × Int) × ((Int × Int) × (Int × Int))) × ((Int × Int) × ((Int × Int) × (Int × Int)))))) (a1 : ((Int × Int) × ((Int × Int) × (Int × Int)))) (a2 : ((Int × Int) × ((Int × Int) × (Int × Int)))) : Bool := (t_armplanlaw4_applies a0 a1 a2).val
theorem run_armplanlaw4_applies : ∀ x, runF (mkC ctys ceqs [(56, hd_matrix_Apply), (71, hd_matrix_Within), (72, hd_matrix_Add), (73, hd_matrix_Sub), (80, hd_armplanref1_AddVec), (94, hd_armplanref1_WithinVec), (113, hd_armplanref1_ApplyMat), (114, hd_armplanref1_SubVec)] [] noLoops) 200 62 Try.f62 (argsA [.pair (.pair (.pair (.int .i64) (.int .i64)) (.pair (.pair (.int .i64) (.int .i64)) (.pair (.int .i64) (.int .i64)))) (.pair (.pair (.pair (.int .i64) (.int .i64)) (.pair (.pair (.int .i64) (.int .i64)) (.pair (.int .i64) (.int .i64)))) (.pair (.pair (.int .i64) (.int .i64)) (.pair (.pair (.int .i64) (.int .i64)) (.pair (.int .i64) (.int .i64))))), .pair (.pair (.int .i64) (.int .i64)) (.pair (.pair (.int .i64) (.int .i64)) (.pair (.int .i64) (.int .i64))), .pair (.pair (.int .i64) (.int .i64)) (.pair (.pair (.int .i64) (.int .i64)) (.pair (.int .i64) (.int .i64)))] x) [] (fun v h => toRes h [.bool] v) = (t_armplanlaw4_applies x.1 x.2.1 x.2.2.1).optA (fun r => (r, ())) := by
  intro x; kernel_rfl
theorem fn_armplanlaw4_applies : FnOk Try.prog 62 [.pair (.pair (.pair (.int .i64) (.int .i64)) (.pair (.pair (.int .i64) (.int .i64)) (.pair (.int .i64) (.int .i64)))) (.pair (.pair (.pair (.int .i64) (.int .i64)) (.pair (.pair (.int .i64) (.int .i64)) (.pair (.int .i64) (.int .i64)))) (.pair (.pair (.int .i64) (.int .i64)) (.pair (.pair (.int .i64) (.int .i64)) (.pair (.int .i64) (.int .i64))))), .pair (.pair (.int .i64) (.int .i64)) (.pair (.pair (.int .i64) (.int .i64)) (.pair (.int .i64) (.int .i64))), .pair (.pair (.int .i64) (.int .i64)) (.pair (.pair (.int .i64) (.int .i64)) (.pair (.int .i64) (.int .i64)))] [.bool] (fun x => some ((fun r => (r, ())) (armplanlaw4_applies x.1 x.2.1 x.2.2.1))) :=
  fn_tot (t := fun (x : Ar [.pair (.pair (.pair (.int .i64) (.int .i64)) (.pair (.pair (.int .i64) (.int .i64)) (.pair (.int .i64) (.int .i64)))) (.pair (.pair (.pair (.int .i64) (.int .i64)) (.pair (.pair (.int .i64) (.int .i64)) (.pair (.int .i64) (.int .i64)))) (.pair (.pair (.int .i64) (.int .i64)) (.pair (.pair (.int .i64) (.int .i64)) (.pair (.int .i64) (.int .i64))))), .pair (.pair (.int .i64) (.int .i64)) (.pair (.pair (.int .i64) (.int .i64)) (.pair (.int .i64) (.int .i64))), .pair (.pair (.int .i64) (.int .i64)) (.pair (.pair (.int .i64) (.int .i64)) (.pair (.int .i64) (.int .i64)))]) => t_armplanlaw4_applies x.1 x.2.1 x.2.2.1) (R := Bool) (Ts := [.bool]) (mk := (fun r => (r, ()))) (mkC_ok ctys_ok ceqs_ok (fns_cons ok_matrix_Apply (fns_cons ok_matrix_Within (fns_cons ok_matrix_Add (fns_cons ok_matrix_Sub (fns_cons ok_armplanref1_AddVec (fns_cons ok_armplanref1_WithinVec (fns_cons ok_armplanref1_ApplyMat (fns_cons ok_armplanref1_SubVec (fns_nil _))))))))) (inl_nil _) noLoops_ok mixed) Try.func62 run_armplanlaw4_applies (fun _ => by kernel_rfl)
def hd_armplanlaw4_applies : Hd := dataHd [.pair (.pair (.pair (.int .i64) (.int .i64)) (.pair (.pair (.int .i64) (.int .i64)) (.pair (.int .i64) (.int .i64)))) (.pair (.pair (.pair (.int .i64) (.int .i64)) (.pair (.pair (.int .i64) (.int .i64)) (.pair (.int .i64) (.int .i64)))) (.pair (.pair (.int .i64) (.int .i64)) (.pair (.pair (.int .i64) (.int .i64)) (.pair (.int .i64) (.int .i64))))), .pair (.pair (.int .i64) (.int .i64)) (.pair (.pair (.int .i64) (.int .i64)) (.pair (.int .i64) (.int .i64))), .pair (.pair (.int .i64) (.int .i64)) (.pair (.pair (.int .i64) (.int .i64)) (.pair (.int .i64) (.int .i64)))] [.bool] (fun x => some ((fun r => (r, ())) (armplanlaw4_applies x.1 x.2.1 x.2.2.1)))
theorem ok_armplanlaw4_applies : HdOk Try.prog 62 hd_armplanlaw4_applies.sem ∧ Enters Try.prog 62 := data_ok fn_armplanlaw4_applies Try.func62 (by kernel_rfl) (by kernel_rfl)

/- armplan/armplanlaw4.MatrixApplies -/
def t_armplanlaw4_MatrixApplies (a0 : (((Int × Int) × ((Int × Int) × (Int × Int))) × (((Int × Int) × ((Int × Int) × (Int × Int))) × ((Int × Int) × ((Int × Int) × (Int × Int)))))) (a1 : ((Int × Int) × ((Int × Int) × (Int × Int)))) (a2 : ((Int × Int) × ((Int × Int) × (Int × Int)))) (a3 : (Int × (Int × Int))) (a4 : List (Int)) : Tr Bool :=
  let r1 : ((((Int × Int) × ((Int × Int) × (Int × Int))) × (((Int × Int) × ((Int × Int) × (Int × Int))) × ((Int × Int) × ((Int × Int) × (Int × Int))))) × (List (Int) × Int)) := armplanlaw4_turn (a4, 0)
  .br (dom_armplanlaw4_turn (a4, 0)) (
   let r2 : (((Int × Int) × ((Int × Int) × (Int × Int))) × (List (Int) × Int)) := armplanlaw4_vec r1.2
   .br (dom_armplanlaw4_vec r1.2) (
    let r3 : (((Int × Int) × ((Int × Int) × (Int × Int))) × (List (Int) × Int)) := armplanlaw4_vec r2.2
    .br (dom_armplanlaw4_vec r2.2) (
     let r4 : Bool := armplanlaw4_awake
     .br (r4) (
      let r5 : Bool := armplanlaw4_applies a0 a1 a2
      .br (r5) (
       let r6 : Bool := armplanlaw4_applies r1.1 r2.1 r3.1
       .br (r6) (
        let r7 : ((Int × Int) × ((Int × Int) × (Int × Int))) := matrix_Point a3
        let r8 : ((Int × Int) × ((Int × Int) × (Int × Int))) := armplanref1_Point a3
        let x9 : Bool := (decide (r7.1.1 = r8.1.1) && (decide (r7.1.2 = r8.1.2) && (decide (r7.2.1.1 = r8.2.1.1) && (decide (r7.2.1.2 = r8.2.1.2) && (decide (r7.2.2.1 = r8.2.2.1) && (decide (r7.2.2.2 = r8.2.2.2) && true))))))
        .leaf x9) (
        .leaf false)) (
       .leaf false)) (
      .leaf false)) .fail) .fail) .fail
def armplanlaw4_MatrixApplies (a0 : (((Int × Int) × ((Int × Int) × (Int × Int))) × (((Int × Int) × ((Int × Int) × (Int × Int))) × ((Int × Int) × ((Int × Int) × (Int × Int)))))) (a1 : ((Int × Int) × ((Int × Int) × (Int × Int)))) (a2 : ((Int × Int) × ((Int × Int) × (Int × Int)))) (a3 : (Int × (Int × Int))) (a4 : List (Int)) : Bool := (t_armplanlaw4_MatrixApplies a0 a1 a2 a3 a4).val
def dom_armplanlaw4_MatrixApplies (a0 : (((Int × Int) × ((Int × Int) × (Int × Int))) × (((Int × Int) × ((Int × Int) × (Int × Int))) × ((Int × Int) × ((Int × Int) × (Int × Int)))))) (a1 : ((Int × Int) × ((Int × Int) × (Int × Int)))) (a2 : ((Int × Int) × ((Int × Int) × (Int × Int)))) (a3 : (Int × (Int × Int))) (a4 : List (Int)) : Bool := (t_armplanlaw4_MatrixApplies a0 a1 a2 a3 a4).dom
theorem run_armplanlaw4_MatrixApplies : ∀ x, runF (mkC ctys ceqs [(50, hd_armplanlaw4_awake), (54, hd_armplanref1_Point), (60, hd_armplanlaw4_turn), (61, hd_armplanlaw4_vec), (62, hd_armplanlaw4_applies), (63, hd_matrix_Point)] [(53, Try.f53)] noLoops) 200 14 Try.f14 (argsA [.pair (.pair (.pair (.int .i64) (.int .i64)) (.pair (.pair (.int .i64) (.int .i64)) (.pair (.int .i64) (.int .i64)))) (.pair (.pair (.pair (.int .i64) (.int .i64)) (.pair (.pair (.int .i64) (.int .i64)) (.pair (.int .i64) (.int .i64)))) (.pair (.pair (.int .i64) (.int .i64)) (.pair (.pair (.int .i64) (.int .i64)) (.pair (.int .i64) (.int .i64))))), .pair (.pair (.int .i64) (.int .i64)) (.pair (.pair (.int .i64) (.int .i64)) (.pair (.int .i64) (.int .i64))), .pair (.pair (.int .i64) (.int .i64)) (.pair (.pair (.int .i64) (.int .i64)) (.pair (.int .i64) (.int .i64))), .pair (.int .i64) (.pair (.int .i64) (.int .i64)), .list (.int .i64)] x) [] (fun v h => toRes h [.bool] v) = (t_armplanlaw4_MatrixApplies x.1 x.2.1 x.2.2.1 x.2.2.2.1 x.2.2.2.2.1).optA (fun r => (r, ())) := by
  intro x; kernel_rfl
theorem fn_armplanlaw4_MatrixApplies : FnOk Try.prog 14 [.pair (.pair (.pair (.int .i64) (.int .i64)) (.pair (.pair (.int .i64) (.int .i64)) (.pair (.int .i64) (.int .i64)))) (.pair (.pair (.pair (.int .i64) (.int .i64)) (.pair (.pair (.int .i64) (.int .i64)) (.pair (.int .i64) (.int .i64)))) (.pair (.pair (.int .i64) (.int .i64)) (.pair (.pair (.int .i64) (.int .i64)) (.pair (.int .i64) (.int .i64))))), .pair (.pair (.int .i64) (.int .i64)) (.pair (.pair (.int .i64) (.int .i64)) (.pair (.int .i64) (.int .i64))), .pair (.pair (.int .i64) (.int .i64)) (.pair (.pair (.int .i64) (.int .i64)) (.pair (.int .i64) (.int .i64))), .pair (.int .i64) (.pair (.int .i64) (.int .i64)), .list (.int .i64)] [.bool] (fun x => bif dom_armplanlaw4_MatrixApplies x.1 x.2.1 x.2.2.1 x.2.2.2.1 x.2.2.2.2.1 then some ((fun r => (r, ())) (armplanlaw4_MatrixApplies x.1 x.2.1 x.2.2.1 x.2.2.2.1 x.2.2.2.2.1)) else none) :=
  fn_part (t := fun (x : Ar [.pair (.pair (.pair (.int .i64) (.int .i64)) (.pair (.pair (.int .i64) (.int .i64)) (.pair (.int .i64) (.int .i64)))) (.pair (.pair (.pair (.int .i64) (.int .i64)) (.pair (.pair (.int .i64) (.int .i64)) (.pair (.int .i64) (.int .i64)))) (.pair (.pair (.int .i64) (.int .i64)) (.pair (.pair (.int .i64) (.int .i64)) (.pair (.int .i64) (.int .i64))))), .pair (.pair (.int .i64) (.int .i64)) (.pair (.pair (.int .i64) (.int .i64)) (.pair (.int .i64) (.int .i64))), .pair (.pair (.int .i64) (.int .i64)) (.pair (.pair (.int .i64) (.int .i64)) (.pair (.int .i64) (.int .i64))), .pair (.int .i64) (.pair (.int .i64) (.int .i64)), .list (.int .i64)]) => t_armplanlaw4_MatrixApplies x.1 x.2.1 x.2.2.1 x.2.2.2.1 x.2.2.2.2.1) (R := Bool) (Ts := [.bool]) (mk := (fun r => (r, ()))) (mkC_ok ctys_ok ceqs_ok (fns_cons ok_armplanlaw4_awake (fns_cons ok_armplanref1_Point (fns_cons ok_armplanlaw4_turn (fns_cons ok_armplanlaw4_vec (fns_cons ok_armplanlaw4_applies (fns_cons ok_matrix_Point (fns_nil _))))))) (inl_cons Try.func53 (by kernel_rfl) (inl_nil _)) noLoops_ok mixed) Try.func14 run_armplanlaw4_MatrixApplies
def hd_armplanlaw4_MatrixApplies : Hd := guardHd [.pair (.pair (.pair (.int .i64) (.int .i64)) (.pair (.pair (.int .i64) (.int .i64)) (.pair (.int .i64) (.int .i64)))) (.pair (.pair (.pair (.int .i64) (.int .i64)) (.pair (.pair (.int .i64) (.int .i64)) (.pair (.int .i64) (.int .i64)))) (.pair (.pair (.int .i64) (.int .i64)) (.pair (.pair (.int .i64) (.int .i64)) (.pair (.int .i64) (.int .i64))))), .pair (.pair (.int .i64) (.int .i64)) (.pair (.pair (.int .i64) (.int .i64)) (.pair (.int .i64) (.int .i64))), .pair (.pair (.int .i64) (.int .i64)) (.pair (.pair (.int .i64) (.int .i64)) (.pair (.int .i64) (.int .i64))), .pair (.int .i64) (.pair (.int .i64) (.int .i64)), .list (.int .i64)] [.bool] (fun x => dom_armplanlaw4_MatrixApplies x.1 x.2.1 x.2.2.1 x.2.2.2.1 x.2.2.2.2.1) (fun x => (fun r => (r, ())) (armplanlaw4_MatrixApplies x.1 x.2.1 x.2.2.1 x.2.2.2.1 x.2.2.2.2.1))
theorem ok_armplanlaw4_MatrixApplies : HdOk Try.prog 14 hd_armplanlaw4_MatrixApplies.sem ∧ Enters Try.prog 14 := guard_ok fn_armplanlaw4_MatrixApplies Try.func14 (by kernel_rfl) (by kernel_rfl)

/- armplan/matrix.Transpose -/
def t_matrix_Transpose (a0 : (((Int × Int) × ((Int × Int) × (Int × Int))) × (((Int × Int) × ((Int × Int) × (Int × Int))) × ((Int × Int) × ((Int × Int) × (Int × Int)))))) : Tr (((Int × Int) × ((Int × Int) × (Int × Int))) × (((Int × Int) × ((Int × Int) × (Int × Int))) × ((Int × Int) × ((Int × Int) × (Int × Int))))) :=
  .leaf ((a0.1.1, (a0.2.1.1, a0.2.2.1)), ((a0.1.2.1, (a0.2.1.2.1, a0.2.2.2.1)), (a0.1.2.2, (a0.2.1.2.2, a0.2.2.2.2))))
def matrix_Transpose (a0 : (((Int × Int) × ((Int × Int) × (Int × Int))) × (((Int × Int) × ((Int × Int) × (Int × Int))) × ((Int × Int) × ((Int × Int) × (Int × Int)))))) : (((Int × Int) × ((Int × Int) × (Int × Int))) × (((Int × Int) × ((Int × Int) × (Int × Int))) × ((Int × Int) × ((Int × Int) × (Int × Int))))) := (t_matrix_Transpose a0).val
theorem run_matrix_Transpose : ∀ x, runF (mkC ctys ceqs [] [] noLoops) 200 67 Try.f67 (argsA [.pair (.pair (.pair (.int .i64) (.int .i64)) (.pair (.pair (.int .i64) (.int .i64)) (.pair (.int .i64) (.int .i64)))) (.pair (.pair (.pair (.int .i64) (.int .i64)) (.pair (.pair (.int .i64) (.int .i64)) (.pair (.int .i64) (.int .i64)))) (.pair (.pair (.int .i64) (.int .i64)) (.pair (.pair (.int .i64) (.int .i64)) (.pair (.int .i64) (.int .i64)))))] x) [] (fun v h => toRes h [.pair (.pair (.pair (.int .i64) (.int .i64)) (.pair (.pair (.int .i64) (.int .i64)) (.pair (.int .i64) (.int .i64)))) (.pair (.pair (.pair (.int .i64) (.int .i64)) (.pair (.pair (.int .i64) (.int .i64)) (.pair (.int .i64) (.int .i64)))) (.pair (.pair (.int .i64) (.int .i64)) (.pair (.pair (.int .i64) (.int .i64)) (.pair (.int .i64) (.int .i64)))))] v) = (t_matrix_Transpose x.1).optA (fun r => (r, ())) := by
  intro x; kernel_rfl
theorem fn_matrix_Transpose : FnOk Try.prog 67 [.pair (.pair (.pair (.int .i64) (.int .i64)) (.pair (.pair (.int .i64) (.int .i64)) (.pair (.int .i64) (.int .i64)))) (.pair (.pair (.pair (.int .i64) (.int .i64)) (.pair (.pair (.int .i64) (.int .i64)) (.pair (.int .i64) (.int .i64)))) (.pair (.pair (.int .i64) (.int .i64)) (.pair (.pair (.int .i64) (.int .i64)) (.pair (.int .i64) (.int .i64)))))] [.pair (.pair (.pair (.int .i64) (.int .i64)) (.pair (.pair (.int .i64) (.int .i64)) (.pair (.int .i64) (.int .i64)))) (.pair (.pair (.pair (.int .i64) (.int .i64)) (.pair (.pair (.int .i64) (.int .i64)) (.pair (.int .i64) (.int .i64)))) (.pair (.pair (.int .i64) (.int .i64)) (.pair (.pair (.int .i64) (.int .i64)) (.pair (.int .i64) (.int .i64)))))] (fun x => some ((fun r => (r, ())) (matrix_Transpose x.1))) :=
  fn_tot (t := fun (x : Ar [.pair (.pair (.pair (.int .i64) (.int .i64)) (.pair (.pair (.int .i64) (.int .i64)) (.pair (.int .i64) (.int .i64)))) (.pair (.pair (.pair (.int .i64) (.int .i64)) (.pair (.pair (.int .i64) (.int .i64)) (.pair (.int .i64) (.int .i64)))) (.pair (.pair (.int .i64) (.int .i64)) (.pair (.pair (.int .i64) (.int .i64)) (.pair (.int .i64) (.int .i64)))))]) => t_matrix_Transpose x.1) (R := (((Int × Int) × ((Int × Int) × (Int × Int))) × (((Int × Int) × ((Int × Int) × (Int × Int))) × ((Int × Int) × ((Int × Int) × (Int × Int)))))) (Ts := [.pair (.pair (.pair (.int .i64) (.int .i64)) (.pair (.pair (.int .i64) (.int .i64)) (.pair (.int .i64) (.int .i64)))) (.pair (.pair (.pair (.int .i64) (.int .i64)) (.pair (.pair (.int .i64) (.int .i64)) (.pair (.int .i64) (.int .i64)))) (.pair (.pair (.int .i64) (.int .i64)) (.pair (.pair (.int .i64) (.int .i64)) (.pair (.int .i64) (.int .i64)))))]) (mk := (fun r => (r, ()))) (mkC_ok ctys_ok ceqs_ok (fns_nil _) (inl_nil _) noLoops_ok mixed) Try.func67 run_matrix_Transpose (fun _ => by kernel_rfl)
def hd_matrix_Transpose : Hd := dataHd [.pair (.pair (.pair (.int .i64) (.int .i64)) (.pair (.pair (.int .i64) (.int .i64)) (.pair (.int .i64) (.int .i64)))) (.pair (.pair (.pair (.int .i64) (.int .i64)) (.pair (.pair (.int .i64) (.int .i64)) (.pair (.int .i64) (.int .i64)))) (.pair (.pair (.int .i64) (.int .i64)) (.pair (.pair (.int .i64) (.int .i64)) (.pair (.int .i64) (.int .i64)))))] [.pair (.pair (.pair (.int .i64) (.int .i64)) (.pair (.pair (.int .i64) (.int .i64)) (.pair (.int .i64) (.int .i64)))) (.pair (.pair (.pair (.int .i64) (.int .i64)) (.pair (.pair (.int .i64) (.int .i64)) (.pair (.int .i64) (.int .i64)))) (.pair (.pair (.int .i64) (.int .i64)) (.pair (.pair (.int .i64) (.int .i64)) (.pair (.int .i64) (.int .i64)))))] (fun x => some ((fun r => (r, ())) (matrix_Transpose x.1)))
theorem ok_matrix_Transpose : HdOk Try.prog 67 hd_matrix_Transpose.sem ∧ Enters Try.prog 67 := data_ok fn_matrix_Transpose Try.func67 (by kernel_rfl) (by kernel_rfl)

/- armplan/matrix.limit -/
def t_matrix_limit (a0 : (Int × Int)) : Tr (Int × Int) :=
  let x1 : Int := if (-65536) > a0.1 then (-65536) else a0.1
  let x2 : Int := if 65536 < x1 then 65536 else x1
  let x3 : Int := if (-65536) > a0.2 then (-65536) else a0.2
  let x4 : Int := if 65536 < x3 then 65536 else x3
  .leaf (x2, x4)
def matrix_limit (a0 : (Int × Int)) : (Int × Int) := (t_matrix_limit a0).val
theorem run_matrix_limit : ∀ x, runF (mkC ctys ceqs [] [] noLoops) 200 116 Try.f116 (argsA [.pair (.int .i64) (.int .i64)] x) [] (fun v h => toRes h [.pair (.int .i64) (.int .i64)] v) = (t_matrix_limit x.1).optA (fun r => (r, ())) := by
  intro x; kernel_rfl
theorem fn_matrix_limit : FnOk Try.prog 116 [.pair (.int .i64) (.int .i64)] [.pair (.int .i64) (.int .i64)] (fun x => some ((fun r => (r, ())) (matrix_limit x.1))) :=
  fn_tot (t := fun (x : Ar [.pair (.int .i64) (.int .i64)]) => t_matrix_limit x.1) (R := (Int × Int)) (Ts := [.pair (.int .i64) (.int .i64)]) (mk := (fun r => (r, ()))) (mkC_ok ctys_ok ceqs_ok (fns_nil _) (inl_nil _) noLoops_ok mixed) Try.func116 run_matrix_limit (fun _ => by kernel_rfl)
def hd_matrix_limit : Hd := dataHd [.pair (.int .i64) (.int .i64)] [.pair (.int .i64) (.int .i64)] (fun x => some ((fun r => (r, ())) (matrix_limit x.1)))
theorem ok_matrix_limit : HdOk Try.prog 116 hd_matrix_limit.sem ∧ Enters Try.prog 116 := data_ok fn_matrix_limit Try.func116 (by kernel_rfl) (by kernel_rfl)

/- armplan/matrix.Compose -/
def t_matrix_Compose (a0 : (((Int × Int) × ((Int × Int) × (Int × Int))) × (((Int × Int) × ((Int × Int) × (Int × Int))) × ((Int × Int) × ((Int × Int) × (Int × Int)))))) (a1 : (((Int × Int) × ((Int × Int) × (Int × Int))) × (((Int × Int) × ((Int × Int) × (Int × Int))) × ((Int × Int) × ((Int × Int) × (Int × Int)))))) : Tr (((Int × Int) × ((Int × Int) × (Int × Int))) × (((Int × Int) × ((Int × Int) × (Int × Int))) × ((Int × Int) × ((Int × Int) × (Int × Int))))) :=
  let r1 : (((Int × Int) × ((Int × Int) × (Int × Int))) × (((Int × Int) × ((Int × Int) × (Int × Int))) × ((Int × Int) × ((Int × Int) × (Int × Int))))) := matrix_Transpose a1
  let r2 : (Int × Int) := matrix_sum a0.1 r1.1
  let r3 : (Int × Int) := matrix_limit r2
  let r4 : (Int × Int) := matrix_sum a0.1 r1.2.1
  let r5 : (Int × Int) := matrix_limit r4
  let r6 : (Int × Int) := matrix_sum a0.1 r1.2.2
  let r7 : (Int × Int) := matrix_limit r6
  let r8 : (Int × Int) := matrix_sum a0.2.1 r1.1
  let r9 : (Int × Int) := matrix_limit r8
  let r10 : (Int × Int) := matrix_sum a0.2.1 r1.2.1
  let r11 : (Int × Int) := matrix_limit r10
  let r12 : (Int × Int) := matrix_sum a0.2.1 r1.2.2
  let r13 : (Int × Int) := matrix_limit r12
  let r14 : (Int × Int) := matrix_sum a0.2.2 r1.1
  let r15 : (Int × Int) := matrix_limit r14
  let r16 : (Int × Int) := matrix_sum a0.2.2 r1.2.1
  let r17 : (Int × Int) := matrix_limit r16
  let r18 : (Int × Int) := matrix_sum a0.2.2 r1.2.2
  let r19 : (Int × Int) := matrix_limit r18
  .leaf ((r3, (r5, r7)), ((r9, (r11, r13)), (r15, (r17, r19))))
def matrix_Compose (a0 : (((Int × Int) × ((Int × Int) × (Int × Int))) × (((Int × Int) × ((Int × Int) × (Int × Int))) × ((Int × Int) × ((Int × Int) × (Int × Int)))))) (a1 : (((Int × Int) × ((Int × Int) × (Int × Int))) × (((Int × Int) × ((Int × Int) × (Int × Int))) × ((Int × Int) × ((Int × Int) × (Int × Int)))))) : (((Int × Int) × ((Int × Int) × (Int × Int))) × (((Int × Int) × ((Int × Int) × (Int × Int))) × ((Int × Int) × ((Int × Int) × (Int × Int))))) := (t_matrix_Compose a0 a1).val
theorem run_matrix_Compose : ∀ x, runF (mkC ctys ceqs [(67, hd_matrix_Transpose), (111, hd_matrix_sum), (116, hd_matrix_limit)] [] noLoops) 200 64 Try.f64 (argsA [.pair (.pair (.pair (.int .i64) (.int .i64)) (.pair (.pair (.int .i64) (.int .i64)) (.pair (.int .i64) (.int .i64)))) (.pair (.pair (.pair (.int .i64) (.int .i64)) (.pair (.pair (.int .i64) (.int .i64)) (.pair (.int .i64) (.int .i64)))) (.pair (.pair (.int .i64) (.int .i64)) (.pair (.pair (.int .i64) (.int .i64)) (.pair (.int .i64) (.int .i64))))), .pair (.pair (.pair (.int .i64) (.int .i64)) (.pair (.pair (.int .i64) (.int .i64)) (.pair (.int .i64) (.int .i64)))) (.pair (.pair (.pair (.int .i64) (.int .i64)) (.pair (.pair (.int .i64) (.int .i64)) (.pair (.int .i64) (.int .i64)))) (.pair (.pair (.int .i64) (.int .i64)) (.pair (.pair (.int .i64) (.int .i64)) (.pair (.int .i64) (.int .i64)))))] x) [] (fun v h => toRes h [.pair (.pair (.pair (.int .i64) (.int .i64)) (.pair (.pair (.int .i64) (.int .i64)) (.pair (.int .i64) (.int .i64)))) (.pair (.pair (.pair (.int .i64) (.int .i64)) (.pair (.pair (.int .i64) (.int .i64)) (.pair (.int .i64) (.int .i64)))) (.pair (.pair (.int .i64) (.int .i64)) (.pair (.pair (.int .i64) (.int .i64)) (.pair (.int .i64) (.int .i64)))))] v) = (t_matrix_Compose x.1 x.2.1).optA (fun r => (r, ())) := by
  intro x; kernel_rfl
theorem fn_matrix_Compose : FnOk Try.prog 64 [.pair (.pair (.pair (.int .i64) (.int .i64)) (.pair (.pair (.int .i64) (.int .i64)) (.pair (.int .i64) (.int .i64)))) (.pair (.pair (.pair (.int .i64) (.int .i64)) (.pair (.pair (.int .i64) (.int .i64)) (.pair (.int .i64) (.int .i64)))) (.pair (.pair (.int .i64) (.int .i64)) (.pair (.pair (.int .i64) (.int .i64)) (.pair (.int .i64) (.int .i64))))), .pair (.pair (.pair (.int .i64) (.int .i64)) (.pair (.pair (.int .i64) (.int .i64)) (.pair (.int .i64) (.int .i64)))) (.pair (.pair (.pair (.int .i64) (.int .i64)) (.pair (.pair (.int .i64) (.int .i64)) (.pair (.int .i64) (.int .i64)))) (.pair (.pair (.int .i64) (.int .i64)) (.pair (.pair (.int .i64) (.int .i64)) (.pair (.int .i64) (.int .i64)))))] [.pair (.pair (.pair (.int .i64) (.int .i64)) (.pair (.pair (.int .i64) (.int .i64)) (.pair (.int .i64) (.int .i64)))) (.pair (.pair (.pair (.int .i64) (.int .i64)) (.pair (.pair (.int .i64) (.int .i64)) (.pair (.int .i64) (.int .i64)))) (.pair (.pair (.int .i64) (.int .i64)) (.pair (.pair (.int .i64) (.int .i64)) (.pair (.int .i64) (.int .i64)))))] (fun x => some ((fun r => (r, ())) (matrix_Compose x.1 x.2.1))) :=
  fn_tot (t := fun (x : Ar [.pair (.pair (.pair (.int .i64) (.int .i64)) (.pair (.pair (.int .i64) (.int .i64)) (.pair (.int .i64) (.int .i64)))) (.pair (.pair (.pair (.int .i64) (.int .i64)) (.pair (.pair (.int .i64) (.int .i64)) (.pair (.int .i64) (.int .i64)))) (.pair (.pair (.int .i64) (.int .i64)) (.pair (.pair (.int .i64) (.int .i64)) (.pair (.int .i64) (.int .i64))))), .pair (.pair (.pair (.int .i64) (.int .i64)) (.pair (.pair (.int .i64) (.int .i64)) (.pair (.int .i64) (.int .i64)))) (.pair (.pair (.pair (.int .i64) (.int .i64)) (.pair (.pair (.int .i64) (.int .i64)) (.pair (.int .i64) (.int .i64)))) (.pair (.pair (.int .i64) (.int .i64)) (.pair (.pair (.int .i64) (.int .i64)) (.pair (.int .i64) (.int .i64)))))]) => t_matrix_Compose x.1 x.2.1) (R := (((Int × Int) × ((Int × Int) × (Int × Int))) × (((Int × Int) × ((Int × Int) × (Int × Int))) × ((Int × Int) × ((Int × Int) × (Int × Int)))))) (Ts := [.pair (.pair (.pair (.int .i64) (.int .i64)) (.pair (.pair (.int .i64) (.int .i64)) (.pair (.int .i64) (.int .i64)))) (.pair (.pair (.pair (.int .i64) (.int .i64)) (.pair (.pair (.int .i64) (.int .i64)) (.pair (.int .i64) (.int .i64)))) (.pair (.pair (.int .i64) (.int .i64)) (.pair (.pair (.int .i64) (.int .i64)) (.pair (.int .i64) (.int .i64)))))]) (mk := (fun r => (r, ()))) (mkC_ok ctys_ok ceqs_ok (fns_cons ok_matrix_Transpose (fns_cons ok_matrix_sum (fns_cons ok_matrix_limit (fns_nil _)))) (inl_nil _) noLoops_ok mixed) Try.func64 run_matrix_Compose (fun _ => by kernel_rfl)
def hd_matrix_Compose : Hd := dataHd [.pair (.pair (.pair (.int .i64) (.int .i64)) (.pair (.pair (.int .i64) (.int .i64)) (.pair (.int .i64) (.int .i64)))) (.pair (.pair (.pair (.int .i64) (.int .i64)) (.pair (.pair (.int .i64) (.int .i64)) (.pair (.int .i64) (.int .i64)))) (.pair (.pair (.int .i64) (.int .i64)) (.pair (.pair (.int .i64) (.int .i64)) (.pair (.int .i64) (.int .i64))))), .pair (.pair (.pair (.int .i64) (.int .i64)) (.pair (.pair (.int .i64) (.int .i64)) (.pair (.int .i64) (.int .i64)))) (.pair (.pair (.pair (.int .i64) (.int .i64)) (.pair (.pair (.int .i64) (.int .i64)) (.pair (.int .i64) (.int .i64)))) (.pair (.pair (.int .i64) (.int .i64)) (.pair (.pair (.int .i64) (.int .i64)) (.pair (.int .i64) (.int .i64)))))] [.pair (.pair (.pair (.int .i64) (.int .i64)) (.pair (.pair (.int .i64) (.int .i64)) (.pair (.int .i64) (.int .i64)))) (.pair (.pair (.pair (.int .i64) (.int .i64)) (.pair (.pair (.int .i64) (.int .i64)) (.pair (.int .i64) (.int .i64)))) (.pair (.pair (.int .i64) (.int .i64)) (.pair (.pair (.int .i64) (.int .i64)) (.pair (.int .i64) (.int .i64)))))] (fun x => some ((fun r => (r, ())) (matrix_Compose x.1 x.2.1)))
theorem ok_matrix_Compose : HdOk Try.prog 64 hd_matrix_Compose.sem ∧ Enters Try.prog 64 := data_ok fn_matrix_Compose Try.func64 (by kernel_rfl) (by kernel_rfl)

/- armplan/armplanref1.Unit -/
def t_armplanref1_Unit : Tr (((Int × Int) × ((Int × Int) × (Int × Int))) × (((Int × Int) × ((Int × Int) × (Int × Int))) × ((Int × Int) × ((Int × Int) × (Int × Int))))) :=
  let r1 : (Int × Int) := armplanref1_Of 65536
  .leaf ((r1, ((0, 0), (0, 0))), (((0, 0), (r1, (0, 0))), ((0, 0), ((0, 0), r1))))
def armplanref1_Unit : (((Int × Int) × ((Int × Int) × (Int × Int))) × (((Int × Int) × ((Int × Int) × (Int × Int))) × ((Int × Int) × ((Int × Int) × (Int × Int))))) := t_armplanref1_Unit.val
theorem run_armplanref1_Unit : ∀ x, runF (mkC ctys ceqs [(58, hd_armplanref1_Of)] [] noLoops) 200 65 Try.f65 (argsA [] x) [] (fun v h => toRes h [.pair (.pair (.pair (.int .i64) (.int .i64)) (.pair (.pair (.int .i64) (.int .i64)) (.pair (.int .i64) (.int .i64)))) (.pair (.pair (.pair (.int .i64) (.int .i64)) (.pair (.pair (.int .i64) (.int .i64)) (.pair (.int .i64) (.int .i64)))) (.pair (.pair (.int .i64) (.int .i64)) (.pair (.pair (.int .i64) (.int .i64)) (.pair (.int .i64) (.int .i64)))))] v) = (t_armplanref1_Unit ).optA (fun r => (r, ())) := by
  intro x; kernel_rfl
theorem fn_armplanref1_Unit : FnOk Try.prog 65 [] [.pair (.pair (.pair (.int .i64) (.int .i64)) (.pair (.pair (.int .i64) (.int .i64)) (.pair (.int .i64) (.int .i64)))) (.pair (.pair (.pair (.int .i64) (.int .i64)) (.pair (.pair (.int .i64) (.int .i64)) (.pair (.int .i64) (.int .i64)))) (.pair (.pair (.int .i64) (.int .i64)) (.pair (.pair (.int .i64) (.int .i64)) (.pair (.int .i64) (.int .i64)))))] (fun _ => some ((fun r => (r, ())) armplanref1_Unit)) :=
  fn_tot (t := fun (_ : Ar []) => t_armplanref1_Unit ) (R := (((Int × Int) × ((Int × Int) × (Int × Int))) × (((Int × Int) × ((Int × Int) × (Int × Int))) × ((Int × Int) × ((Int × Int) × (Int × Int)))))) (Ts := [.pair (.pair (.pair (.int .i64) (.int .i64)) (.pair (.pair (.int .i64) (.int .i64)) (.pair (.int .i64) (.int .i64)))) (.pair (.pair (.pair (.int .i64) (.int .i64)) (.pair (.pair (.int .i64) (.int .i64)) (.pair (.int .i64) (.int .i64)))) (.pair (.pair (.int .i64) (.int .i64)) (.pair (.pair (.int .i64) (.int .i64)) (.pair (.int .i64) (.int .i64)))))]) (mk := (fun r => (r, ()))) (mkC_ok ctys_ok ceqs_ok (fns_cons ok_armplanref1_Of (fns_nil _)) (inl_nil _) noLoops_ok mixed) Try.func65 run_armplanref1_Unit (fun _ => by kernel_rfl)
def hd_armplanref1_Unit : Hd := dataHd [] [.pair (.pair (.pair (.int .i64) (.int .i64)) (.pair (.pair (.int .i64) (.int .i64)) (.pair (.int .i64) (.int .i64)))) (.pair (.pair (.pair (.int .i64) (.int .i64)) (.pair (.pair (.int .i64) (.int .i64)) (.pair (.int .i64) (.int .i64)))) (.pair (.pair (.int .i64) (.int .i64)) (.pair (.pair (.int .i64) (.int .i64)) (.pair (.int .i64) (.int .i64)))))] (fun _ => some ((fun r => (r, ())) armplanref1_Unit))
theorem ok_armplanref1_Unit : HdOk Try.prog 65 hd_armplanref1_Unit.sem ∧ Enters Try.prog 65 := data_ok fn_armplanref1_Unit Try.func65 (by kernel_rfl) (by kernel_rfl)

/- armplan/armplanlaw4.MatrixQuarters -/
def t_armplanlaw4_MatrixQuarters (a0 : Int) (a1 : (Int × (Int × Int))) : Tr Bool :=
  let r1 : Int := armplanmake_Round a0 3
  let r2 : (Int × Int) := armplanref1_Of 16384
  let r3 : (((Int × Int) × ((Int × Int) × (Int × Int))) × (((Int × Int) × ((Int × Int) × (Int × Int))) × ((Int × Int) × ((Int × Int) × (Int × Int))))) := matrix_Turn r1 r2
  let r4 : (((Int × Int) × ((Int × Int) × (Int × Int))) × (((Int × Int) × ((Int × Int) × (Int × Int))) × ((Int × Int) × ((Int × Int) × (Int × Int))))) := matrix_Compose r3 r3
  let r5 : ((Int × Int) × ((Int × Int) × (Int × Int))) := matrix_Point a1
  let r6 : Bool := armplanlaw4_awake
  .br (r6) (
   let r7 : (((Int × Int) × ((Int × Int) × (Int × Int))) × (((Int × Int) × ((Int × Int) × (Int × Int))) × ((Int × Int) × ((Int × Int) × (Int × Int))))) := matrix_Compose r4 r4
   let r8 : (((Int × Int) × ((Int × Int) × (Int × Int))) × (((Int × Int) × ((Int × Int) × (Int × Int))) × ((Int × Int) × ((Int × Int) × (Int × Int))))) := armplanref1_Unit
   let x9 : Bool := (decide (r7.1.1.1 = r8.1.1.1) && (decide (r7.1.1.2 = r8.1.1.2) && (decide (r7.1.2.1.1 = r8.1.2.1.1) && (decide (r7.1.2.1.2 = r8.1.2.1.2) && (decide (r7.1.2.2.1 = r8.1.2.2.1) && (decide (r7.1.2.2.2 = r8.1.2.2.2) && (decide (r7.2.1.1.1 = r8.2.1.1.1) && (decide (r7.2.1.1.2 = r8.2.1.1.2) && (decide (r7.2.1.2.1.1 = r8.2.1.2.1.1) && (decide (r7.2.1.2.1.2 = r8.2.1.2.1.2) && (decide (r7.2.1.2.2.1 = r8.2.1.2.2.1) && (decide (r7.2.1.2.2.2 = r8.2.1.2.2.2) && (decide (r7.2.2.1.1 = r8.2.2.1.1) && (decide (r7.2.2.1.2 = r8.2.2.1.2) && (decide (r7.2.2.2.1.1 = r8.2.2.2.1.1) && (decide (r7.2.2.2.1.2 = r8.2.2.2.1.2) && (decide (r7.2.2.2.2.1 = r8.2.2.2.2.1) && (decide (r7.2.2.2.2.2 = r8.2.2.2.2.2) && true))))))))))))))))))
   .br (x9) (
    let r10 : ((Int × Int) × ((Int × Int) × (Int × Int))) := matrix_Apply r4 r5
    let r11 : ((Int × Int) × ((Int × Int) × (Int × Int))) := matrix_Apply r4 r10
    let x12 : Bool := (decide (r11.1.1 = r5.1.1) && (decide (r11.1.2 = r5.1.2) && (decide (r11.2.1.1 = r5.2.1.1) && (decide (r11.2.1.2 = r5.2.1.2) && (decide (r11.2.2.1 = r5.2.2.1) && (decide (r11.2.2.2 = r5.2.2.2) && true))))))
    .br (x12) (
     let r13 : ((Int × Int) × ((Int × Int) × (Int × Int))) := matrix_Apply r3 r5
     .br (decide (r1 = 0)) (
      .br (decide (r1 = 0)) (
       let x14 : Bool := (decide (r13.1.1 = r5.1.1) && (decide (r13.1.2 = r5.1.2) && true))
       .br (x14) (
        let r15 : (Int × Int) := armplanref1_Of 32768
        let r16 : (((Int × Int) × ((Int × Int) × (Int × Int))) × (((Int × Int) × ((Int × Int) × (Int × Int))) × ((Int × Int) × ((Int × Int) × (Int × Int))))) := matrix_Turn r1 r15
        let x17 : Bool := (decide (r4.1.1.1 = r16.1.1.1) && (decide (r4.1.1.2 = r16.1.1.2) && (decide (r4.1.2.1.1 = r16.1.2.1.1) && (decide (r4.1.2.1.2 = r16.1.2.1.2) && (decide (r4.1.2.2.1 = r16.1.2.2.1) && (decide (r4.1.2.2.2 = r16.1.2.2.2) && (decide (r4.2.1.1.1 = r16.2.1.1.1) && (decide (r4.2.1.1.2 = r16.2.1.1.2) && (decide (r4.2.1.2.1.1 = r16.2.1.2.1.1) && (decide (r4.2.1.2.1.2 = r16.2.1.2.1.2) && (decide (r4.2.1.2.2.1 = r16.2.1.2.2.1) && (decide (r4.2.1.2.2.2 = r16.2.1.2.2.2) && (decide (r4.2.2.1.1 = r16.2.2.1.1) && (decide (r4.2.2.1.2 = r16.2.2.1.2) && (decide (r4.2.2.2.1.1 = r16.2.2.2.1.1) && (decide (r4.2.2.2.1.2 = r16.2.2.2.1.2) && (decide (r4.2.2.2.2.1 = r16.2.2.2.2.1) && (decide (r4.2.2.2.2.2 = r16.2.2.2.2.2) && true))))))))))))))))))
        .leaf x17) (
        .leaf false)) (
       .br (decide (r1 = 1)) (
        let x18 : Bool := (decide (r13.1.1 = r5.2.1.1) && (decide (r13.1.2 = r5.2.1.2) && true))
        .br (x18) (
         let r19 : (Int × Int) := armplanref1_Of 32768
         let r20 : (((Int × Int) × ((Int × Int) × (Int × Int))) × (((Int × Int) × ((Int × Int) × (Int × Int))) × ((Int × Int) × ((Int × Int) × (Int × Int))))) := matrix_Turn r1 r19
         let x21 : Bool := (decide (r4.1.1.1 = r20.1.1.1) && (decide (r4.1.1.2 = r20.1.1.2) && (decide (r4.1.2.1.1 = r20.1.2.1.1) && (decide (r4.1.2.1.2 = r20.1.2.1.2) && (decide (r4.1.2.2.1 = r20.1.2.2.1) && (decide (r4.1.2.2.2 = r20.1.2.2.2) && (decide (r4.2.1.1.1 = r20.2.1.1.1) && (decide (r4.2.1.1.2 = r20.2.1.1.2) && (decide (r4.2.1.2.1.1 = r20.2.1.2.1.1) && (decide (r4.2.1.2.1.2 = r20.2.1.2.1.2) && (decide (r4.2.1.2.2.1 = r20.2.1.2.2.1) && (decide (r4.2.1.2.2.2 = r20.2.1.2.2.2) && (decide (r4.2.2.1.1 = r20.2.2.1.1) && (decide (r4.2.2.1.2 = r20.2.2.1.2) && (decide (r4.2.2.2.1.1 = r20.2.2.2.1.1) && (decide (r4.2.2.2.1.2 = r20.2.2.2.1.2) && (decide (r4.2.2.2.2.1 = r20.2.2.2.2.1) && (decide (r4.2.2.2.2.2 = r20.2.2.2.2.2) && true))))))))))))))))))
         .leaf x21) (
         .leaf false)) (
        .br (decide (r1 = 2)) (
         let x22 : Bool := (decide (r13.1.1 = r5.2.2.1) && (decide (r13.1.2 = r5.2.2.2) && true))
         .br (x22) (
          let r23 : (Int × Int) := armplanref1_Of 32768
          let r24 : (((Int × Int) × ((Int × Int) × (Int × Int))) × (((Int × Int) × ((Int × Int) × (Int × Int))) × ((Int × Int) × ((Int × Int) × (Int × Int))))) := matrix_Turn r1 r23
          let x25 : Bool := (decide (r4.1.1.1 = r24.1.1.1) && (decide (r4.1.1.2 = r24.1.1.2) && (decide (r4.1.2.1.1 = r24.1.2.1.1) && (decide (r4.1.2.1.2 = r24.1.2.1.2) && (decide (r4.1.2.2.1 = r24.1.2.2.1) && (decide (r4.1.2.2.2 = r24.1.2.2.2) && (decide (r4.2.1.1.1 = r24.2.1.1.1) && (decide (r4.2.1.1.2 = r24.2.1.1.2) && (decide (r4.2.1.2.1.1 = r24.2.1.2.1.1) && (decide (r4.2.1.2.1.2 = r24.2.1.2.1.2) && (decide (r4.2.1.2.2.1 = r24.2.1.2.2.1) && (decide (r4.2.1.2.2.2 = r24.2.1.2.2.2) && (decide (r4.2.2.1.1 = r24.2.2.1.1) && (decide (r4.2.2.1.2 = r24.2.2.1.2) && (decide (r4.2.2.2.1.1 = r24.2.2.2.1.1) && (decide (r4.2.2.2.1.2 = r24.2.2.2.1.2) && (decide (r4.2.2.2.2.1 = r24.2.2.2.2.1) && (decide (r4.2.2.2.2.2 = r24.2.2.2.2.2) && true))))))))))))))))))
          .leaf x25) (
          .leaf false)) (
         .fail)))) (
      .br (decide (r1 = 1)) (
       .br (decide (r1 = 0)) (
        let x26 : Bool := (decide (r13.2.1.1 = r5.1.1) && (decide (r13.2.1.2 = r5.1.2) && true))
        .br (x26) (
         let r27 : (Int × Int) := armplanref1_Of 32768
         let r28 : (((Int × Int) × ((Int × Int) × (Int × Int))) × (((Int × Int) × ((Int × Int) × (Int × Int))) × ((Int × Int) × ((Int × Int) × (Int × Int))))) := matrix_Turn r1 r27
         let x29 : Bool := (decide (r4.1.1.1 = r28.1.1.1) && (decide (r4.1.1.2 = r28.1.1.2) && (decide (r4.1.2.1.1 = r28.1.2.1.1) && (decide (r4.1.2.1.2 = r28.1.2.1.2) && (decide (r4.1.2.2.1 = r28.1.2.2.1) && (decide (r4.1.2.2.2 = r28.1.2.2.2) && (decide (r4.2.1.1.1 = r28.2.1.1.1) && (decide (r4.2.1.1.2 = r28.2.1.1.2) && (decide (r4.2.1.2.1.1 = r28.2.1.2.1.1) && (decide (r4.2.1.2.1.2 = r28.2.1.2.1.2) && (decide (r4.2.1.2.2.1 = r28.2.1.2.2.1) && (decide (r4.2.1.2.2.2 = r28.2.1.2.2.2) && (decide (r4.2.2.1.1 = r28.2.2.1.1) && (decide (r4.2.2.1.2 = r28.2.2.1.2) && (decide (r4.2.2.2.1.1 = r28.2.2.2.1.1) && (decide (r4.2.2.2.1.2 = r28.2.2.2.1.2) && (decide (r4.2.2.2.2.1 = r28.2.2.2.2.1) && (decide (r4.2.2.2.2.2 = r28.2.2.2.2.2) && true))))))))))))))))))
         .leaf x29) (
         .leaf false)) (
        .br (decide (r1 = 1)) (
         let x30 : Bool := (decide (r13.2.1.1 = r5.2.1.1) && (decide (r13.2.1.2 = r5.2.1.2) && true))
         .br (x30) (
          let r31 : (Int × Int) := armplanref1_Of 32768
          let r32 : (((Int × Int) × ((Int × Int) × (Int × Int))) × (((Int × Int) × ((Int × Int) × (Int × Int))) × ((Int × Int) × ((Int × Int) × (Int × Int))))) := matrix_Turn r1 r31
          let x33 : Bool := (decide (r4.1.1.1 = r32.1.1.1) && (decide (r4.1.1.2 = r32.1.1.2) && (decide (r4.1.2.1.1 = r32.1.2.1.1) && (decide (r4.1.2.1.2 = r32.1.2.1.2) && (decide (r4.1.2.2.1 = r32.1.2.2.1) && (decide (r4.1.2.2.2 = r32.1.2.2.2) && (decide (r4.2.1.1.1 = r32.2.1.1.1) && (decide (r4.2.1.1.2 = r32.2.1.1.2) && (decide (r4.2.1.2.1.1 = r32.2.1.2.1.1) && (decide (r4.2.1.2.1.2 = r32.2.1.2.1.2) && (decide (r4.2.1.2.2.1 = r32.2.1.2.2.1) && (decide (r4.2.1.2.2.2 = r32.2.1.2.2.2) && (decide (r4.2.2.1.1 = r32.2.2.1.1) && (decide (r4.2.2.1.2 = r32.2.2.1.2) && (decide (r4.2.2.2.1.1 = r32.2.2.2.1.1) && (decide (r4.2.2.2.1.2 = r32.2.2.2.1.2) && (decide (r4.2.2.2.2.1 = r32.2.2.2.2.1) && (decide (r4.2.2.2.2.2 = r32.2.2.2.2.2) && true))))))))))))))))))
          .leaf x33) (
          .leaf false)) (
         .br (decide (r1 = 2)) (
          let x34 : Bool := (decide (r13.2.1.1 = r5.2.2.1) && (decide (r13.2.1.2 = r5.2.2.2) && true))
          .br (x34) (
           let r35 : (Int × Int) := armplanref1_Of 32768
           let r36 : (((Int × Int) × ((Int × Int) × (Int × Int))) × (((Int × Int) × ((Int × Int) × (Int × Int))) × ((Int × Int) × ((Int × Int) × (Int × Int))))) := matrix_Turn r1 r35
           let x37 : Bool := (decide (r4.1.1.1 = r36.1.1.1) && (decide (r4.1.1.2 = r36.1.1.2) && (decide (r4.1.2.1.1 = r36.1.2.1.1) && (decide (r4.1.2.1.2 = r36.1.2.1.2) && (decide (r4.1.2.2.1 = r36.1.2.2.1) && (decide (r4.1.2.2.2 = r36.1.2.2.2) && (decide (r4.2.1.1.1 = r36.2.1.1.1) && (decide (r4.2.1.1.2 = r36.2.1.1.2) && (decide (r4.2.1.2.1.1 = r36.2.1.2.1.1) && (decide (r4.2.1.2.1.2 = r36.2.1.2.1.2) && (decide (r4.2.1.2.2.1 = r36.2.1.2.2.1) && (decide (r4.2.1.2.2.2 = r36.2.1.2.2.2) && (decide (r4.2.2.1.1 = r36.2.2.1.1) && (decide (r4.2.2.1.2 = r36.2.2.1.2) && (decide (r4.2.2.2.1.1 = r36.2.2.2.1.1) && (decide (r4.2.2.2.1.2 = r36.2.2.2.1.2) && (decide (r4.2.2.2.2.1 = r36.2.2.2.2.1) && (decide (r4.2.2.2.2.2 = r36.2.2.2.2.2) && true))))))))))))))))))
           .leaf x37) (
           .leaf false)) (
          .fail)))) (
       .br (decide (r1 = 2)) (
        .br (decide (r1 = 0)) (
         let x38 : Bool := (decide (r13.2.2.1 = r5.1.1) && (decide (r13.2.2.2 = r5.1.2) && true))
         .br (x38) (
          let r39 : (Int × Int) := armplanref1_Of 32768
          let r40 : (((Int × Int) × ((Int × Int) × (Int × Int))) × (((Int × Int) × ((Int × Int) × (Int × Int))) × ((Int × Int) × ((Int × Int) × (Int × Int))))) := matrix_Turn r1 r39
          let x41 : Bool := (decide (r4.1.1.1 = r40.1.1.1) && (decide (r4.1.1.2 = r40.1.1.2) && (decide (r4.1.2.1.1 = r40.1.2.1.1) && (decide (r4.1.2.1.2 = r40.1.2.1.2) && (decide (r4.1.2.2.1 = r40.1.2.2.1) && (decide (r4.1.2.2.2 = r40.1.2.2.2) && (decide (r4.2.1.1.1 = r40.2.1.1.1) && (decide (r4.2.1.1.2 = r40.2.1.1.2) && (decide (r4.2.1.2.1.1 = r40.2.1.2.1.1) && (decide (r4.2.1.2.1.2 = r40.2.1.2.1.2) && (decide (r4.2.1.2.2.1 = r40.2.1.2.2.1) && (decide (r4.2.1.2.2.2 = r40.2.1.2.2.2) && (decide (r4.2.2.1.1 = r40.2.2.1.1) && (decide (r4.2.2.1.2 = r40.2.2.1.2) && (decide (r4.2.2.2.1.1 = r40.2.2.2.1.1) && (decide (r4.2.2.2.1.2 = r40.2.2.2.1.2) && (decide (r4.2.2.2.2.1 = r40.2.2.2.2.1) && (decide (r4.2.2.2.2.2 = r40.2.2.2.2.2) && true))))))))))))))))))
          .leaf x41) (
          .leaf false)) (
         .br (decide (r1 = 1)) (
          let x42 : Bool := (decide (r13.2.2.1 = r5.2.1.1) && (decide (r13.2.2.2 = r5.2.1.2) && true))
          .br (x42) (
           let r43 : (Int × Int) := armplanref1_Of 32768
           let r44 : (((Int × Int) × ((Int × Int) × (Int × Int))) × (((Int × Int) × ((Int × Int) × (Int × Int))) × ((Int × Int) × ((Int × Int) × (Int × Int))))) := matrix_Turn r1 r43
           let x45 : Bool := (decide (r4.1.1.1 = r44.1.1.1) && (decide (r4.1.1.2 = r44.1.1.2) && (decide (r4.1.2.1.1 = r44.1.2.1.1) && (decide (r4.1.2.1.2 = r44.1.2.1.2) && (decide (r4.1.2.2.1 = r44.1.2.2.1) && (decide (r4.1.2.2.2 = r44.1.2.2.2) && (decide (r4.2.1.1.1 = r44.2.1.1.1) && (decide (r4.2.1.1.2 = r44.2.1.1.2) && (decide (r4.2.1.2.1.1 = r44.2.1.2.1.1) && (decide (r4.2.1.2.1.2 = r44.2.1.2.1.2) && (decide (r4.2.1.2.2.1 = r44.2.1.2.2.1) && (decide (r4.2.1.2.2.2 = r44.2.1.2.2.2) && (decide (r4.2.2.1.1 = r44.2.2.1.1) && (decide (r4.2.2.1.2 = r44.2.2.1.2) && (decide (r4.2.2.2.1.1 = r44.2.2.2.1.1) && (decide (r4.2.2.2.1.2 = r44.2.2.2.1.2) && (decide (r4.2.2.2.2.1 = r44.2.2.2.2.1) && (decide (r4.2.2.2.2.2 = r44.2.2.2.2.2) && true))))))))))))))))))
           .leaf x45) (
           .leaf false)) (
          .br (decide (r1 = 2)) (
           let x46 : Bool := (decide (r13.2.2.1 = r5.2.2.1) && (decide (r13.2.2.2 = r5.2.2.2) && true))
           .br (x46) (
            let r47 : (Int × Int) := armplanref1_Of 32768
            let r48 : (((Int × Int) × ((Int × Int) × (Int × Int))) × (((Int × Int) × ((Int × Int) × (Int × Int))) × ((Int × Int) × ((Int × Int) × (Int × Int))))) := matrix_Turn r1 r47
            let x49 : Bool := (decide (r4.1.1.1 = r48.1.1.1) && (decide (r4.1.1.2 = r48.1.1.2) && (decide (r4.1.2.1.1 = r48.1.2.1.1) && (decide (r4.1.2.1.2 = r48.1.2.1.2) && (decide (r4.1.2.2.1 = r48.1.2.2.1) && (decide (r4.1.2.2.2 = r48.1.2.2.2) && (decide (r4.2.1.1.1 = r48.2.1.1.1) && (decide (r4.2.1.1.2 = r48.2.1.1.2) && (decide (r4.2.1.2.1.1 = r48.2.1.2.1.1) && (decide (r4.2.1.2.1.2 = r48.2.1.2.1.2) && (decide (r4.2.1.2.2.1 = r48.2.1.2.2.1) && (decide (r4.2.1.2.2.2 = r48.2.1.2.2.2) && (decide (r4.2.2.1.1 = r48.2.2.1.1) && (decide (r4.2.2.1.2 = r48.2.2.1.2) && (decide (r4.2.2.2.1.1 = r48.2.2.2.1.1) && (decide (r4.2.2.2.1.2 = r48.2.2.2.1.2) && (decide (r4.2.2.2.2.1 = r48.2.2.2.2.1) && (decide (r4.2.2.2.2.2 = r48.2.2.2.2.2) && true))))))))))))))))))
            .leaf x49) (
            .leaf false)) (
           .fail)))) (
        .fail)))) (
     .leaf false)) (
    .leaf false)) (
   .leaf false)
def armplanlaw4_MatrixQuarters (a0 : Int) (a1 : (Int × (Int × Int))) : Bool := (t_armplanlaw4_MatrixQuarters a0 a1).val
def dom_armplanlaw4_MatrixQuarters (a0 : Int) (a1 : (Int × (Int × Int))) : Bool := (t_armplanlaw4_MatrixQuarters a0 a1).dom
theorem run_armplanlaw4_MatrixQuarters : ∀ x, runF (mkC ctys ceqs [(30, hd_armplanmake_Round), (50, hd_armplanlaw4_awake), (51, hd_matrix_Turn), (56, hd_matrix_Apply), (58, hd_armplanref1_Of), (63, hd_matrix_Point), (64, hd_matrix_Compose), (65, hd_armplanref1_Unit)] [] noLoops) 200 15 Try.f15 (argsA [.int .i64, .pair (.int .i64) (.pair (.int .i64) (.int .i64))] x) [] (fun v h => toRes h [.bool] v) = (t_armplanlaw4_MatrixQuarters x.1 x.2.1).optA (fun r => (r, ())) := by
  intro x; kernel_rfl
theorem fn_armplanlaw4_MatrixQuarters : FnOk Try.prog 15 [.int .i64, .pair (.int .i64) (.pair (.int .i64) (.int .i64))] [.bool] (fun x => bif dom_armplanlaw4_MatrixQuarters x.1 x.2.1 then some ((fun r => (r, ())) (armplanlaw4_MatrixQuarters x.1 x.2.1)) else none) :=
  fn_part (t := fun (x : Ar [.int .i64, .pair (.int .i64) (.pair (.int .i64) (.int .i64))]) => t_armplanlaw4_MatrixQuarters x.1 x.2.1) (R := Bool) (Ts := [.bool]) (mk := (fun r => (r, ()))) (mkC_ok ctys_ok ceqs_ok (fns_cons ok_armplanmake_Round (fns_cons ok_armplanlaw4_awake (fns_cons ok_matrix_Turn (fns_cons ok_matrix_Apply (fns_cons ok_armplanref1_Of (fns_cons ok_matrix_Point (fns_cons ok_matrix_Compose (fns_cons ok_armplanref1_Unit (fns_nil _))))))))) (inl_nil _) noLoops_ok mixed) Try.func15 run_armplanlaw4_MatrixQuarters
def hd_armplanlaw4_MatrixQuarters : Hd := guardHd [.int .i64, .pair (.int .i64) (.pair (.int .i64) (.int .i64))] [.bool] (fun x => dom_armplanlaw4_MatrixQuarters x.1 x.2.1) (fun x => (fun r => (r, ())) (armplanlaw4_MatrixQuarters x.1 x.2.1))
theorem ok_armplanlaw4_MatrixQuarters : HdOk Try.prog 15 hd_armplanlaw4_MatrixQuarters.sem ∧ Enters Try.prog 15 := guard_ok fn_armplanlaw4_MatrixQuarters Try.func15 (by kernel_rfl) (by kernel_rfl)

/- armplan/armplanlaw4.MatrixAdds -/
def t_armplanlaw4_MatrixAdds (a0 : Int) (a1 : Int) (a2 : Int) : Tr Bool :=
  let r1 : Int := armplanmake_Round a0 3
  let r2 : Int := armplanmake_Round a1 140000
  let x3 : Int := IntKind.wrap .i64 (r2 - 70000)
  let r4 : Int := armplanmake_Round a2 140000
  let x5 : Int := IntKind.wrap .i64 (r4 - 70000)
  let r6 : (Int × Int) := armplanref1_Of x3
  let r7 : (((Int × Int) × ((Int × Int) × (Int × Int))) × (((Int × Int) × ((Int × Int) × (Int × Int))) × ((Int × Int) × ((Int × Int) × (Int × Int))))) := matrix_Turn r1 r6
  let r8 : (Int × Int) := armplanref1_Of x5
  let r9 : (((Int × Int) × ((Int × Int) × (Int × Int))) × (((Int × Int) × ((Int × Int) × (Int × Int))) × ((Int × Int) × ((Int × Int) × (Int × Int))))) := matrix_Turn r1 r8
  let r10 : (((Int × Int) × ((Int × Int) × (Int × Int))) × (((Int × Int) × ((Int × Int) × (Int × Int))) × ((Int × Int) × ((Int × Int) × (Int × Int))))) := matrix_Compose r7 r9
  let x11 : Int := IntKind.wrap .i64 (x3 + x5)
  let r12 : (Int × Int) := armplanref1_Of x11
  let r13 : (((Int × Int) × ((Int × Int) × (Int × Int))) × (((Int × Int) × ((Int × Int) × (Int × Int))) × ((Int × Int) × ((Int × Int) × (Int × Int))))) := matrix_Turn r1 r12
  let r14 : ((Int × Int) × Bool) := armplanref1_Meet r10.1.1 r13.1.1
  .br ((!r14.2)) (
   .leaf false) (
   let r15 : ((Int × Int) × Bool) := armplanref1_Meet r10.1.2.1 r13.1.2.1
   .br ((!r15.2)) (
    .leaf false) (
    let r16 : ((Int × Int) × Bool) := armplanref1_Meet r10.1.2.2 r13.1.2.2
    .br ((!r16.2)) (
     .leaf false) (
     let r17 : ((Int × Int) × Bool) := armplanref1_Meet r10.2.1.1 r13.2.1.1
     .br ((!r17.2)) (
      .leaf false) (
      let r18 : ((Int × Int) × Bool) := armplanref1_Meet r10.2.1.2.1 r13.2.1.2.1
      .br ((!r18.2)) (
       .leaf false) (
       let r19 : ((Int × Int) × Bool) := armplanref1_Meet r10.2.1.2.2 r13.2.1.2.2
       .br ((!r19.2)) (
        .leaf false) (
        let r20 : ((Int × Int) × Bool) := armplanref1_Meet r10.2.2.1 r13.2.2.1
        .br ((!r20.2)) (
         .leaf false) (
         let r21 : ((Int × Int) × Bool) := armplanref1_Meet r10.2.2.2.1 r13.2.2.2.1
         .br ((!r21.2)) (
          .leaf false) (
          let r22 : ((Int × Int) × Bool) := armplanref1_Meet r10.2.2.2.2 r13.2.2.2.2
          .br ((!r22.2)) (
           .leaf false) (
           let r23 : Bool := armplanlaw4_awake
           .leaf r23)))))))))
def armplanlaw4_MatrixAdds (a0 : Int) (a1 : Int) (a2 : Int) : Bool := (t_armplanlaw4_MatrixAdds a0 a1 a2).val
theorem run_armplanlaw4_MatrixAdds : ∀ x, runF (mkC ctys ceqs [(30, hd_armplanmake_Round), (43, hd_armplanref1_Meet), (50, hd_armplanlaw4_awake), (51, hd_matrix_Turn), (58, hd_armplanref1_Of), (64, hd_matrix_Compose)] [] noLoops) 200 16 Try.f16 (argsA [.int .i64, .int .i64, .int .i64] x) [] (fun v h => toRes h [.bool] v) = (t_armplanlaw4_MatrixAdds x.1 x.2.1 x.2.2.1).optA (fun r => (r, ())) := by
  intro x; kernel_rfl
theorem fn_armplanlaw4_MatrixAdds : FnOk Try.prog 16 [.int .i64, .int .i64, .int .i64] [.bool] (fun x => some ((fun r => (r, ())) (armplanlaw4_MatrixAdds x.1 x.2.1 x.2.2.1))) :=
  fn_tot (t := fun (x : Ar [.int .i64, .int .i64, .int .i64]) => t_armplanlaw4_MatrixAdds x.1 x.2.1 x.2.2.1) (R := Bool) (Ts := [.bool]) (mk := (fun r => (r, ()))) (mkC_ok ctys_ok ceqs_ok (fns_cons ok_armplanmake_Round (fns_cons ok_armplanref1_Meet (fns_cons ok_armplanlaw4_awake (fns_cons ok_matrix_Turn (fns_cons ok_armplanref1_Of (fns_cons ok_matrix_Compose (fns_nil _))))))) (inl_nil _) noLoops_ok mixed) Try.func16 run_armplanlaw4_MatrixAdds (fun _ => by kernel_rfl)
def hd_armplanlaw4_MatrixAdds : Hd := dataHd [.int .i64, .int .i64, .int .i64] [.bool] (fun x => some ((fun r => (r, ())) (armplanlaw4_MatrixAdds x.1 x.2.1 x.2.2.1)))
theorem ok_armplanlaw4_MatrixAdds : HdOk Try.prog 16 hd_armplanlaw4_MatrixAdds.sem ∧ Enters Try.prog 16 := data_ok fn_armplanlaw4_MatrixAdds Try.func16 (by kernel_rfl) (by kernel_rfl)

/- armplan/matrix.WithinMat -/
def t_matrix_WithinMat (a0 : (((Int × Int) × ((Int × Int) × (Int × Int))) × (((Int × Int) × ((Int × Int) × (Int × Int))) × ((Int × Int) × ((Int × Int) × (Int × Int)))))) (a1 : (((Int × Int) × ((Int × Int) × (Int × Int))) × (((Int × Int) × ((Int × Int) × (Int × Int))) × ((Int × Int) × ((Int × Int) × (Int × Int)))))) : Tr Bool :=
  let r1 : Bool := matrix_Within a0.1 a1.1
  .br ((!r1)) (
   .leaf false) (
   let r2 : Bool := matrix_Within a0.2.1 a1.2.1
   .br ((!r2)) (
    .leaf false) (
    let r3 : Bool := matrix_Within a0.2.2 a1.2.2
    .br ((!r3)) (
     .leaf false) (
     .leaf true)))
def matrix_WithinMat (a0 : (((Int × Int) × ((Int × Int) × (Int × Int))) × (((Int × Int) × ((Int × Int) × (Int × Int))) × ((Int × Int) × ((Int × Int) × (Int × Int)))))) (a1 : (((Int × Int) × ((Int × Int) × (Int × Int))) × (((Int × Int) × ((Int × Int) × (Int × Int))) × ((Int × Int) × ((Int × Int) × (Int × Int)))))) : Bool := (t_matrix_WithinMat a0 a1).val
theorem run_matrix_WithinMat : ∀ x, runF (mkC ctys ceqs [(71, hd_matrix_Within)] [] noLoops) 200 66 Try.f66 (argsA [.pair (.pair (.pair (.int .i64) (.int .i64)) (.pair (.pair (.int .i64) (.int .i64)) (.pair (.int .i64) (.int .i64)))) (.pair (.pair (.pair (.int .i64) (.int .i64)) (.pair (.pair (.int .i64) (.int .i64)) (.pair (.int .i64) (.int .i64)))) (.pair (.pair (.int .i64) (.int .i64)) (.pair (.pair (.int .i64) (.int .i64)) (.pair (.int .i64) (.int .i64))))), .pair (.pair (.pair (.int .i64) (.int .i64)) (.pair (.pair (.int .i64) (.int .i64)) (.pair (.int .i64) (.int .i64)))) (.pair (.pair (.pair (.int .i64) (.int .i64)) (.pair (.pair (.int .i64) (.int .i64)) (.pair (.int .i64) (.int .i64)))) (.pair (.pair (.int .i64) (.int .i64)) (.pair (.pair (.int .i64) (.int .i64)) (.pair (.int .i64) (.int .i64)))))] x) [] (fun v h => toRes h [.bool] v) = (t_matrix_WithinMat x.1 x.2.1).optA (fun r => (r, ())) := by
  intro x; kernel_rfl
theorem fn_matrix_WithinMat : FnOk Try.prog 66 [.pair (.pair (.pair (.int .i64) (.int .i64)) (.pair (.pair (.int .i64) (.int .i64)) (.pair (.int .i64) (.int .i64)))) (.pair (.pair (.pair (.int .i64) (.int .i64)) (.pair (.pair (.int .i64) (.int .i64)) (.pair (.int .i64) (.int .i64)))) (.pair (.pair (.int .i64) (.int .i64)) (.pair (.pair (.int .i64) (.int .i64)) (.pair (.int .i64) (.int .i64))))), .pair (.pair (.pair (.int .i64) (.int .i64)) (.pair (.pair (.int .i64) (.int .i64)) (.pair (.int .i64) (.int .i64)))) (.pair (.pair (.pair (.int .i64) (.int .i64)) (.pair (.pair (.int .i64) (.int .i64)) (.pair (.int .i64) (.int .i64)))) (.pair (.pair (.int .i64) (.int .i64)) (.pair (.pair (.int .i64) (.int .i64)) (.pair (.int .i64) (.int .i64)))))] [.bool] (fun x => some ((fun r => (r, ())) (matrix_WithinMat x.1 x.2.1))) :=
  fn_tot (t := fun (x : Ar [.pair (.pair (.pair (.int .i64) (.int .i64)) (.pair (.pair (.int .i64) (.int .i64)) (.pair (.int .i64) (.int .i64)))) (.pair (.pair (.pair (.int .i64) (.int .i64)) (.pair (.pair (.int .i64) (.int .i64)) (.pair (.int .i64) (.int .i64)))) (.pair (.pair (.int .i64) (.int .i64)) (.pair (.pair (.int .i64) (.int .i64)) (.pair (.int .i64) (.int .i64))))), .pair (.pair (.pair (.int .i64) (.int .i64)) (.pair (.pair (.int .i64) (.int .i64)) (.pair (.int .i64) (.int .i64)))) (.pair (.pair (.pair (.int .i64) (.int .i64)) (.pair (.pair (.int .i64) (.int .i64)) (.pair (.int .i64) (.int .i64)))) (.pair (.pair (.int .i64) (.int .i64)) (.pair (.pair (.int .i64) (.int .i64)) (.pair (.int .i64) (.int .i64)))))]) => t_matrix_WithinMat x.1 x.2.1) (R := Bool) (Ts := [.bool]) (mk := (fun r => (r, ()))) (mkC_ok ctys_ok ceqs_ok (fns_cons ok_matrix_Within (fns_nil _)) (inl_nil _) noLoops_ok mixed) Try.func66 run_matrix_WithinMat (fun _ => by kernel_rfl)
def hd_matrix_WithinMat : Hd := dataHd [.pair (.pair (.pair (.int .i64) (.int .i64)) (.pair (.pair (.int .i64) (.int .i64)) (.pair (.int .i64) (.int .i64)))) (.pair (.pair (.pair (.int .i64) (.int .i64)) (.pair (.pair (.int .i64) (.int .i64)) (.pair (.int .i64) (.int .i64)))) (.pair (.pair (.int .i64) (.int .i64)) (.pair (.pair (.int .i64) (.int .i64)) (.pair (.int .i64) (.int .i64))))), .pair (.pair (.pair (.int .i64) (.int .i64)) (.pair (.pair (.int .i64) (.int .i64)) (.pair (.int .i64) (.int .i64)))) (.pair (.pair (.pair (.int .i64) (.int .i64)) (.pair (.pair (.int .i64) (.int .i64)) (.pair (.int .i64) (.int .i64)))) (.pair (.pair (.int .i64) (.int .i64)) (.pair (.pair (.int .i64) (.int .i64)) (.pair (.int .i64) (.int .i64)))))] [.bool] (fun x => some ((fun r => (r, ())) (matrix_WithinMat x.1 x.2.1)))
theorem ok_matrix_WithinMat : HdOk Try.prog 66 hd_matrix_WithinMat.sem ∧ Enters Try.prog 66 := data_ok fn_matrix_WithinMat Try.func66 (by kernel_rfl) (by kernel_rfl)

/- armplan/armplanlaw4.MatrixOrthogonal -/
def t_armplanlaw4_MatrixOrthogonal (a0 : List (Int)) : Tr Bool :=
  let r1 : (Int × (List (Int) × Int)) := armplanmake_Source_Next (a0, 0) 3
  .br (dom_armplanmake_Source_Next (a0, 0) 3) (
   let r2 : (Int × (List (Int) × Int)) := armplanmake_Source_Signed r1.2 70000
   .br (dom_armplanmake_Source_Signed r1.2 70000) (
    let r3 : (Int × Int) := armplanref1_Of r2.1
    let r4 : (((Int × Int) × ((Int × Int) × (Int × Int))) × (((Int × Int) × ((Int × Int) × (Int × Int))) × ((Int × Int) × ((Int × Int) × (Int × Int))))) := matrix_Turn r1.1 r3
    let r5 : (Int × (List (Int) × Int)) := armplanmake_Source_Next r2.2 3
    .br (dom_armplanmake_Source_Next r2.2 3) (
     let r6 : (Int × (List (Int) × Int)) := armplanmake_Source_Signed r5.2 70000
     .br (dom_armplanmake_Source_Signed r5.2 70000) (
      let r7 : (Int × Int) := armplanref1_Of r6.1
      let r8 : (((Int × Int) × ((Int × Int) × (Int × Int))) × (((Int × Int) × ((Int × Int) × (Int × Int))) × ((Int × Int) × ((Int × Int) × (Int × Int))))) := matrix_Turn r5.1 r7
      let r9 : (((Int × Int) × ((Int × Int) × (Int × Int))) × (((Int × Int) × ((Int × Int) × (Int × Int))) × ((Int × Int) × ((Int × Int) × (Int × Int))))) := matrix_Compose r4 r8
      let r10 : Bool := armplanlaw4_awake
      .br (r10) (
       let r11 : (((Int × Int) × ((Int × Int) × (Int × Int))) × (((Int × Int) × ((Int × Int) × (Int × Int))) × ((Int × Int) × ((Int × Int) × (Int × Int))))) := armplanref1_Unit
       let r12 : (((Int × Int) × ((Int × Int) × (Int × Int))) × (((Int × Int) × ((Int × Int) × (Int × Int))) × ((Int × Int) × ((Int × Int) × (Int × Int))))) := matrix_Transpose r9
       let r13 : (((Int × Int) × ((Int × Int) × (Int × Int))) × (((Int × Int) × ((Int × Int) × (Int × Int))) × ((Int × Int) × ((Int × Int) × (Int × Int))))) := matrix_Compose r9 r12
       let r14 : Bool := matrix_WithinMat r11 r13
       .br (r14) (
        let r15 : (((Int × Int) × ((Int × Int) × (Int × Int))) × (((Int × Int) × ((Int × Int) × (Int × Int))) × ((Int × Int) × ((Int × Int) × (Int × Int))))) := armplanref1_Unit
        let r16 : (((Int × Int) × ((Int × Int) × (Int × Int))) × (((Int × Int) × ((Int × Int) × (Int × Int))) × ((Int × Int) × ((Int × Int) × (Int × Int))))) := matrix_Transpose r9
        let r17 : (((Int × Int) × ((Int × Int) × (Int × Int))) × (((Int × Int) × ((Int × Int) × (Int × Int))) × ((Int × Int) × ((Int × Int) × (Int × Int))))) := matrix_Compose r16 r9
        let r18 : Bool := matrix_WithinMat r15 r17
        .leaf r18) (
        .leaf false)) (
       .leaf false)) .fail) .fail) .fail) .fail
def armplanlaw4_MatrixOrthogonal (a0 : List (Int)) : Bool := (t_armplanlaw4_MatrixOrthogonal a0).val
def dom_armplanlaw4_MatrixOrthogonal (a0 : List (Int)) : Bool := (t_armplanlaw4_MatrixOrthogonal a0).dom
theorem run_armplanlaw4_MatrixOrthogonal : ∀ x, runF (mkC ctys ceqs [(50, hd_armplanlaw4_awake), (51, hd_matrix_Turn), (55, hd_armplanmake_Source_Signed), (57, hd_armplanmake_Source_Next), (58, hd_armplanref1_Of), (64, hd_matrix_Compose), (65, hd_armplanref1_Unit), (66, hd_matrix_WithinMat), (67, hd_matrix_Transpose)] [(53, Try.f53)] noLoops) 200 17 Try.f17 (argsA [.list (.int .i64)] x) [] (fun v h => toRes h [.bool] v) = (t_armplanlaw4_MatrixOrthogonal x.1).optA (fun r => (r, ())) := by
  intro x; kernel_rfl
theorem fn_armplanlaw4_MatrixOrthogonal : FnOk Try.prog 17 [.list (.int .i64)] [.bool] (fun x => bif dom_armplanlaw4_MatrixOrthogonal x.1 then some ((fun r => (r, ())) (armplanlaw4_MatrixOrthogonal x.1)) else none) :=
  fn_part (t := fun (x : Ar [.list (.int .i64)]) => t_armplanlaw4_MatrixOrthogonal x.1) (R := Bool) (Ts := [.bool]) (mk := (fun r => (r, ()))) (mkC_ok ctys_ok ceqs_ok (fns_cons ok_armplanlaw4_awake (fns_cons ok_matrix_Turn (fns_cons ok_armplanmake_Source_Signed (fns_cons ok_armplanmake_Source_Next (fns_cons ok_armplanref1_Of (fns_cons ok_matrix_Compose (fns_cons ok_armplanref1_Unit (fns_cons ok_matrix_WithinMat (fns_cons ok_matrix_Transpose (fns_nil _)))))))))) (inl_cons Try.func53 (by kernel_rfl) (inl_nil _)) noLoops_ok mixed) Try.func17 run_armplanlaw4_MatrixOrthogonal
def hd_armplanlaw4_MatrixOrthogonal : Hd := guardHd [.list (.int .i64)] [.bool] (fun x => dom_armplanlaw4_MatrixOrthogonal x.1) (fun x => (fun r => (r, ())) (armplanlaw4_MatrixOrthogonal x.1))
theorem ok_armplanlaw4_MatrixOrthogonal : HdOk Try.prog 17 hd_armplanlaw4_MatrixOrthogonal.sem ∧ Enters Try.prog 17 := guard_ok fn_armplanlaw4_MatrixOrthogonal Try.func17 (by kernel_rfl) (by kernel_rfl)

/- armplan/matrix.Identity -/
def t_matrix_Identity : Tr (((Int × Int) × ((Int × Int) × (Int × Int))) × (((Int × Int) × ((Int × Int) × (Int × Int))) × ((Int × Int) × ((Int × Int) × (Int × Int))))) :=
  let r1 : (Int × Int) := matrix_one
  let r2 : (Int × Int) := matrix_one
  let r3 : (Int × Int) := matrix_one
  .leaf ((r1, ((0, 0), (0, 0))), (((0, 0), (r2, (0, 0))), ((0, 0), ((0, 0), r3))))
def matrix_Identity : (((Int × Int) × ((Int × Int) × (Int × Int))) × (((Int × Int) × ((Int × Int) × (Int × Int))) × ((Int × Int) × ((Int × Int) × (Int × Int))))) := t_matrix_Identity.val
theorem run_matrix_Identity : ∀ x, runF (mkC ctys ceqs [(110, hd_matrix_one)] [] noLoops) 200 68 Try.f68 (argsA [] x) [] (fun v h => toRes h [.pair (.pair (.pair (.int .i64) (.int .i64)) (.pair (.pair (.int .i64) (.int .i64)) (.pair (.int .i64) (.int .i64)))) (.pair (.pair (.pair (.int .i64) (.int .i64)) (.pair (.pair (.int .i64) (.int .i64)) (.pair (.int .i64) (.int .i64)))) (.pair (.pair (.int .i64) (.int .i64)) (.pair (.pair (.int .i64) (.int .i64)) (.pair (.int .i64) (.int .i64)))))] v) = (t_matrix_Identity ).optA (fun r => (r, ())) := by
  intro x; kernel_rfl
theorem fn_matrix_Identity : FnOk Try.prog 68 [] [.pair (.pair (.pair (.int .i64) (.int .i64)) (.pair (.pair (.int .i64) (.int .i64)) (.pair (.int .i64) (.int .i64)))) (.pair (.pair (.pair (.int .i64) (.int .i64)) (.pair (.pair (.int .i64) (.int .i64)) (.pair (.int .i64) (.int .i64)))) (.pair (.pair (.int .i64) (.int .i64)) (.pair (.pair (.int .i64) (.int .i64)) (.pair (.int .i64) (.int .i64)))))] (fun _ => some ((fun r => (r, ())) matrix_Identity)) :=
  fn_tot (t := fun (_ : Ar []) => t_matrix_Identity ) (R := (((Int × Int) × ((Int × Int) × (Int × Int))) × (((Int × Int) × ((Int × Int) × (Int × Int))) × ((Int × Int) × ((Int × Int) × (Int × Int)))))) (Ts := [.pair (.pair (.pair (.int .i64) (.int .i64)) (.pair (.pair (.int .i64) (.int .i64)) (.pair (.int .i64) (.int .i64)))) (.pair (.pair (.pair (.int .i64) (.int .i64)) (.pair (.pair (.int .i64) (.int .i64)) (.pair (.int .i64) (.int .i64)))) (.pair (.pair (.int .i64) (.int .i64)) (.pair (.pair (.int .i64) (.int .i64)) (.pair (.int .i64) (.int .i64)))))]) (mk := (fun r => (r, ()))) (mkC_ok ctys_ok ceqs_ok (fns_cons ok_matrix_one (fns_nil _)) (inl_nil _) noLoops_ok mixed) Try.func68 run_matrix_Identity (fun _ => by kernel_rfl)
def hd_matrix_Identity : Hd := dataHd [] [.pair (.pair (.pair (.int .i64) (.int .i64)) (.pair (.pair (.int .i64) (.int .i64)) (.pair (.int .i64) (.int .i64)))) (.pair (.pair (.pair (.int .i64) (.int .i64)) (.pair (.pair (.int .i64) (.int .i64)) (.pair (.int .i64) (.int .i64)))) (.pair (.pair (.int .i64) (.int .i64)) (.pair (.pair (.int .i64) (.int .i64)) (.pair (.int .i64) (.int .i64)))))] (fun _ => some ((fun r => (r, ())) matrix_Identity))
theorem ok_matrix_Identity : HdOk Try.prog 68 hd_matrix_Identity.sem ∧ Enters Try.prog 68 := data_ok fn_matrix_Identity Try.func68 (by kernel_rfl) (by kernel_rfl)

/- armplan/armplanref1.ComposeMat -/
def t_armplanref1_ComposeMat (a0 : (((Int × Int) × ((Int × Int) × (Int × Int))) × (((Int × Int) × ((Int × Int) × (Int × Int))) × ((Int × Int) × ((Int × Int) × (Int × Int)))))) (a1 : (((Int × Int) × ((Int × Int) × (Int × Int))) × (((Int × Int) × ((Int × Int) × (Int × Int))) × ((Int × Int) × ((Int × Int) × (Int × Int)))))) : Tr (((Int × Int) × ((Int × Int) × (Int × Int))) × (((Int × Int) × ((Int × Int) × (Int × Int))) × ((Int × Int) × ((Int × Int) × (Int × Int))))) :=
  let r1 : (Int × Int) := armplanref1_Mul a0.1.1 a1.1.1
  let r2 : (Int × Int) := armplanref1_Mul a0.1.2.1 a1.2.1.1
  let r3 : (Int × Int) := armplanref1_Add r1 r2
  let r4 : (Int × Int) := armplanref1_Mul a0.1.2.2 a1.2.2.1
  let r5 : (Int × Int) := armplanref1_Add r3 r4
  let x6 : Int := if 65536 < r5.1 then 65536 else r5.1
  let x7 : Int := if x6 > (-65536) then x6 else (-65536)
  let x8 : Int := if 65536 < r5.2 then 65536 else r5.2
  let x9 : Int := if x8 > (-65536) then x8 else (-65536)
  let r10 : (Int × Int) := armplanref1_Mul a0.1.1 a1.1.2.1
  let r11 : (Int × Int) := armplanref1_Mul a0.1.2.1 a1.2.1.2.1
  let r12 : (Int × Int) := armplanref1_Add r10 r11
  let r13 : (Int × Int) := armplanref1_Mul a0.1.2.2 a1.2.2.2.1
  let r14 : (Int × Int) := armplanref1_Add r12 r13
  let x15 : Int := if 65536 < r14.1 then 65536 else r14.1
  let x16 : Int := if x15 > (-65536) then x15 else (-65536)
  let x17 : Int := if 65536 < r14.2 then 65536 else r14.2
  let x18 : Int := if x17 > (-65536) then x17 else (-65536)
  let r19 : (Int × Int) := armplanref1_Mul a0.1.1 a1.1.2.2
  let r20 : (Int × Int) := armplanref1_Mul a0.1.2.1 a1.2.1.2.2
  let r21 : (Int × Int) := armplanref1_Add r19 r20
  let r22 : (Int × Int) := armplanref1_Mul a0.1.2.2 a1.2.2.2.2
  let r23 : (Int × Int) := armplanref1_Add r21 r22
  let x24 : Int := if 65536 < r23.1 then 65536 else r23.1
  let x25 : Int := if x24 > (-65536) then x24 else (-65536)
  let x26 : Int := if 65536 < r23.2 then 65536 else r23.2
  let x27 : Int := if x26 > (-65536) then x26 else (-65536)
  let r28 : (Int × Int) := armplanref1_Mul a0.2.1.1 a1.1.1
  let r29 : (Int × Int) := armplanref1_Mul a0.2.1.2.1 a1.2.1.1
  let r30 : (Int × Int) := armplanref1_Add r28 r29
  let r31 : (Int × Int) := armplanref1_Mul a0.2.1.2.2 a1.2.2.1
  let r32 : (Int × Int) := armplanref1_Add r30 r31
  let x33 : Int := if 65536 < r32.1 then 65536 else r32.1
  let x34 : Int := if x33 > (-65536) then x33 else (-65536)
  let x35 : Int := if 65536 < r32.2 then 65536 else r32.2
  let x36 : Int := if x35 > (-65536) then x35 else (-65536)
  let r37 : (Int × Int) := armplanref1_Mul a0.2.1.1 a1.1.2.1
  let r38 : (Int × Int) := armplanref1_Mul a0.2.1.2.1 a1.2.1.2.1
  let r39 : (Int × Int) := armplanref1_Add r37 r38
  let r40 : (Int × Int) := armplanref1_Mul a0.2.1.2.2 a1.2.2.2.1
  let r41 : (Int × Int) := armplanref1_Add r39 r40
  let x42 : Int := if 65536 < r41.1 then 65536 else r41.1
  let x43 : Int := if x42 > (-65536) then x42 else (-65536)
  let x44 : Int := if 65536 < r41.2 then 65536 else r41.2
  let x45 : Int := if x44 > (-65536) then x44 else (-65536)
  let r46 : (Int × Int) := armplanref1_Mul a0.2.1.1 a1.1.2.2
  let r47 : (Int × Int) := armplanref1_Mul a0.2.1.2.1 a1.2.1.2.2
  let r48 : (Int × Int) := armplanref1_Add r46 r47
  let r49 : (Int × Int) := armplanref1_Mul a0.2.1.2.2 a1.2.2.2.2
  let r50 : (Int × Int) := armplanref1_Add r48 r49
  let x51 : Int := if 65536 < r50.1 then 65536 else r50.1
  let x52 : Int := if x51 > (-65536) then x51 else (-65536)
  let x53 : Int := if 65536 < r50.2 then 65536 else r50.2
  let x54 : Int := if x53 > (-65536) then x53 else (-65536)
  let r55 : (Int × Int) := armplanref1_Mul a0.2.2.1 a1.1.1
  let r56 : (Int × Int) := armplanref1_Mul a0.2.2.2.1 a1.2.1.1
  let r57 : (Int × Int) := armplanref1_Add r55 r56
  let r58 : (Int × Int) := armplanref1_Mul a0.2.2.2.2 a1.2.2.1
  let r59 : (Int × Int) := armplanref1_Add r57 r58
  let x60 : Int := if 65536 < r59.1 then 65536 else r59.1
  let x61 : Int := if x60 > (-65536) then x60 else (-65536)
  let x62 : Int := if 65536 < r59.2 then 65536 else r59.2
  let x63 : Int := if x62 > (-65536) then x62 else (-65536)
  let r64 : (Int × Int) := armplanref1_Mul a0.2.2.1 a1.1.2.1
  let r65 : (Int × Int) := armplanref1_Mul a0.2.2.2.1 a1.2.1.2.1
  let r66 : (Int × Int) := armplanref1_Add r64 r65
  let r67 : (Int × Int) := armplanref1_Mul a0.2.2.2.2 a1.2.2.2.1
  let r68 : (Int × Int) := armplanref1_Add r66 r67
  let x69 : Int := if 65536 < r68.1 then 65536 else r68.1
  let x70 : Int := if x69 > (-65536) then x69 else (-65536)
  let x71 : Int := if 65536 < r68.2 then 65536 else r68.2
  let x72 : Int := if x71 > (-65536) then x71 else (-65536)
  let r73 : (Int × Int) := armplanref1_Mul a0.2.2.1 a1.1.2.2
  let r74 : (Int × Int) := armplanref1_Mul a0.2.2.2.1 a1.2.1.2.2
  let r75 : (Int × Int) := armplanref1_Add r73 r74
  let r76 : (Int × Int) := armplanref1_Mul a0.2.2.2.2 a1.2.2.2.2
  let r77 : (Int × Int) := armplanref1_Add r75 r76
  let x78 : Int := if 65536 < r77.1 then 65536 else r77.1
  let x79 : Int := if x78 > (-65536) then x78 else (-65536)
  let x80 : Int := if 65536 < r77.2 then 65536 else r77.2
  let x81 : Int := if x80 > (-65536) then x80 else (-65536)
  .leaf (((x7, x9), ((x16, x18), (x25, x27))), (((x34, x36), ((x43, x45), (x52, x54))), ((x61, x63), ((x70, x72), (x79, x81)))))
def armplanref1_ComposeMat (a0 : (((Int × Int) × ((Int × Int) × (Int × Int))) × (((Int × Int) × ((Int × Int) × (Int × Int))) × ((Int × Int) × ((Int × Int) × (Int × Int)))))) (a1 : (((Int × Int) × ((Int × Int) × (Int × Int))) × (((Int × Int) × ((Int × Int) × (Int × Int))) × ((Int × Int) × ((Int × Int) × (Int × Int)))))) : (((Int × Int) × ((Int × Int) × (Int × Int))) × (((Int × Int) × ((Int × Int) × (Int × Int))) × ((Int × Int) × ((Int × Int) × (Int × Int))))) := (t_armplanref1_ComposeMat a0 a1).val
theorem run_armplanref1_ComposeMat : ∀ x, runF (mkC ctys ceqs [(37, hd_armplanref1_Add), (41, hd_armplanref1_Mul)] [] noLoops) 200 117 Try.f117 (argsA [.pair (.pair (.pair (.int .i64) (.int .i64)) (.pair (.pair (.int .i64) (.int .i64)) (.pair (.int .i64) (.int .i64)))) (.pair (.pair (.pair (.int .i64) (.int .i64)) (.pair (.pair (.int .i64) (.int .i64)) (.pair (.int .i64) (.int .i64)))) (.pair (.pair (.int .i64) (.int .i64)) (.pair (.pair (.int .i64) (.int .i64)) (.pair (.int .i64) (.int .i64))))), .pair (.pair (.pair (.int .i64) (.int .i64)) (.pair (.pair (.int .i64) (.int .i64)) (.pair (.int .i64) (.int .i64)))) (.pair (.pair (.pair (.int .i64) (.int .i64)) (.pair (.pair (.int .i64) (.int .i64)) (.pair (.int .i64) (.int .i64)))) (.pair (.pair (.int .i64) (.int .i64)) (.pair (.pair (.int .i64) (.int .i64)) (.pair (.int .i64) (.int .i64)))))] x) [] (fun v h => toRes h [.pair (.pair (.pair (.int .i64) (.int .i64)) (.pair (.pair (.int .i64) (.int .i64)) (.pair (.int .i64) (.int .i64)))) (.pair (.pair (.pair (.int .i64) (.int .i64)) (.pair (.pair (.int .i64) (.int .i64)) (.pair (.int .i64) (.int .i64)))) (.pair (.pair (.int .i64) (.int .i64)) (.pair (.pair (.int .i64) (.int .i64)) (.pair (.int .i64) (.int .i64)))))] v) = (t_armplanref1_ComposeMat x.1 x.2.1).optA (fun r => (r, ())) := by
  intro x; kernel_rfl
theorem fn_armplanref1_ComposeMat : FnOk Try.prog 117 [.pair (.pair (.pair (.int .i64) (.int .i64)) (.pair (.pair (.int .i64) (.int .i64)) (.pair (.int .i64) (.int .i64)))) (.pair (.pair (.pair (.int .i64) (.int .i64)) (.pair (.pair (.int .i64) (.int .i64)) (.pair (.int .i64) (.int .i64)))) (.pair (.pair (.int .i64) (.int .i64)) (.pair (.pair (.int .i64) (.int .i64)) (.pair (.int .i64) (.int .i64))))), .pair (.pair (.pair (.int .i64) (.int .i64)) (.pair (.pair (.int .i64) (.int .i64)) (.pair (.int .i64) (.int .i64)))) (.pair (.pair (.pair (.int .i64) (.int .i64)) (.pair (.pair (.int .i64) (.int .i64)) (.pair (.int .i64) (.int .i64)))) (.pair (.pair (.int .i64) (.int .i64)) (.pair (.pair (.int .i64) (.int .i64)) (.pair (.int .i64) (.int .i64)))))] [.pair (.pair (.pair (.int .i64) (.int .i64)) (.pair (.pair (.int .i64) (.int .i64)) (.pair (.int .i64) (.int .i64)))) (.pair (.pair (.pair (.int .i64) (.int .i64)) (.pair (.pair (.int .i64) (.int .i64)) (.pair (.int .i64) (.int .i64)))) (.pair (.pair (.int .i64) (.int .i64)) (.pair (.pair (.int .i64) (.int .i64)) (.pair (.int .i64) (.int .i64)))))] (fun x => some ((fun r => (r, ())) (armplanref1_ComposeMat x.1 x.2.1))) :=
  fn_tot (t := fun (x : Ar [.pair (.pair (.pair (.int .i64) (.int .i64)) (.pair (.pair (.int .i64) (.int .i64)) (.pair (.int .i64) (.int .i64)))) (.pair (.pair (.pair (.int .i64) (.int .i64)) (.pair (.pair (.int .i64) (.int .i64)) (.pair (.int .i64) (.int .i64)))) (.pair (.pair (.int .i64) (.int .i64)) (.pair (.pair (.int .i64) (.int .i64)) (.pair (.int .i64) (.int .i64))))), .pair (.pair (.pair (.int .i64) (.int .i64)) (.pair (.pair (.int .i64) (.int .i64)) (.pair (.int .i64) (.int .i64)))) (.pair (.pair (.pair (.int .i64) (.int .i64)) (.pair (.pair (.int .i64) (.int .i64)) (.pair (.int .i64) (.int .i64)))) (.pair (.pair (.int .i64) (.int .i64)) (.pair (.pair (.int .i64) (.int .i64)) (.pair (.int .i64) (.int .i64)))))]) => t_armplanref1_ComposeMat x.1 x.2.1) (R := (((Int × Int) × ((Int × Int) × (Int × Int))) × (((Int × Int) × ((Int × Int) × (Int × Int))) × ((Int × Int) × ((Int × Int) × (Int × Int)))))) (Ts := [.pair (.pair (.pair (.int .i64) (.int .i64)) (.pair (.pair (.int .i64) (.int .i64)) (.pair (.int .i64) (.int .i64)))) (.pair (.pair (.pair (.int .i64) (.int .i64)) (.pair (.pair (.int .i64) (.int .i64)) (.pair (.int .i64) (.int .i64)))) (.pair (.pair (.int .i64) (.int .i64)) (.pair (.pair (.int .i64) (.int .i64)) (.pair (.int .i64) (.int .i64)))))]) (mk := (fun r => (r, ()))) (mkC_ok ctys_ok ceqs_ok (fns_cons ok_armplanref1_Add (fns_cons ok_armplanref1_Mul (fns_nil _))) (inl_nil _) noLoops_ok mixed) Try.func117 run_armplanref1_ComposeMat (fun _ => by kernel_rfl)
def hd_armplanref1_ComposeMat : Hd := dataHd [.pair (.pair (.pair (.int .i64) (.int .i64)) (.pair (.pair (.int .i64) (.int .i64)) (.pair (.int .i64) (.int .i64)))) (.pair (.pair (.pair (.int .i64) (.int .i64)) (.pair (.pair (.int .i64) (.int .i64)) (.pair (.int .i64) (.int .i64)))) (.pair (.pair (.int .i64) (.int .i64)) (.pair (.pair (.int .i64) (.int .i64)) (.pair (.int .i64) (.int .i64))))), .pair (.pair (.pair (.int .i64) (.int .i64)) (.pair (.pair (.int .i64) (.int .i64)) (.pair (.int .i64) (.int .i64)))) (.pair (.pair (.pair (.int .i64) (.int .i64)) (.pair (.pair (.int .i64) (.int .i64)) (.pair (.int .i64) (.int .i64)))) (.pair (.pair (.int .i64) (.int .i64)) (.pair (.pair (.int .i64) (.int .i64)) (.pair (.int .i64) (.int .i64)))))] [.pair (.pair (.pair (.int .i64) (.int .i64)) (.pair (.pair (.int .i64) (.int .i64)) (.pair (.int .i64) (.int .i64)))) (.pair (.pair (.pair (.int .i64) (.int .i64)) (.pair (.pair (.int .i64) (.int .i64)) (.pair (.int .i64) (.int .i64)))) (.pair (.pair (.int .i64) (.int .i64)) (.pair (.pair (.int .i64) (.int .i64)) (.pair (.int .i64) (.int .i64)))))] (fun x => some ((fun r => (r, ())) (armplanref1_ComposeMat x.1 x.2.1)))
theorem ok_armplanref1_ComposeMat : HdOk Try.prog 117 hd_armplanref1_ComposeMat.sem ∧ Enters Try.prog 117 := data_ok fn_armplanref1_ComposeMat Try.func117 (by kernel_rfl) (by kernel_rfl)

/- armplan/armplanref1.Transpose -/
def t_armplanref1_Transpose (a0 : (((Int × Int) × ((Int × Int) × (Int × Int))) × (((Int × Int) × ((Int × Int) × (Int × Int))) × ((Int × Int) × ((Int × Int) × (Int × Int)))))) : Tr (((Int × Int) × ((Int × Int) × (Int × Int))) × (((Int × Int) × ((Int × Int) × (Int × Int))) × ((Int × Int) × ((Int × Int) × (Int × Int))))) :=
  .leaf ((a0.1.1, (a0.2.1.1, a0.2.2.1)), ((a0.1.2.1, (a0.2.1.2.1, a0.2.2.2.1)), (a0.1.2.2, (a0.2.1.2.2, a0.2.2.2.2))))
def armplanref1_Transpose (a0 : (((Int × Int) × ((Int × Int) × (Int × Int))) × (((Int × Int) × ((Int × Int) × (Int × Int))) × ((Int × Int) × ((Int × Int) × (Int × Int)))))) : (((Int × Int) × ((Int × Int) × (Int × Int))) × (((Int × Int) × ((Int × Int) × (Int × Int))) × ((Int × Int) × ((Int × Int) × (Int × Int))))) := (t_armplanref1_Transpose a0).val
theorem run_armplanref1_Transpose : ∀ x, runF (mkC ctys ceqs [] [] noLoops) 200 118 Try.f118 (argsA [.pair (.pair (.pair (.int .i64) (.int .i64)) (.pair (.pair (.int .i64) (.int .i64)) (.pair (.int .i64) (.int .i64)))) (.pair (.pair (.pair (.int .i64) (.int .i64)) (.pair (.pair (.int .i64) (.int .i64)) (.pair (.int .i64) (.int .i64)))) (.pair (.pair (.int .i64) (.int .i64)) (.pair (.pair (.int .i64) (.int .i64)) (.pair (.int .i64) (.int .i64)))))] x) [] (fun v h => toRes h [.pair (.pair (.pair (.int .i64) (.int .i64)) (.pair (.pair (.int .i64) (.int .i64)) (.pair (.int .i64) (.int .i64)))) (.pair (.pair (.pair (.int .i64) (.int .i64)) (.pair (.pair (.int .i64) (.int .i64)) (.pair (.int .i64) (.int .i64)))) (.pair (.pair (.int .i64) (.int .i64)) (.pair (.pair (.int .i64) (.int .i64)) (.pair (.int .i64) (.int .i64)))))] v) = (t_armplanref1_Transpose x.1).optA (fun r => (r, ())) := by
  intro x; kernel_rfl
theorem fn_armplanref1_Transpose : FnOk Try.prog 118 [.pair (.pair (.pair (.int .i64) (.int .i64)) (.pair (.pair (.int .i64) (.int .i64)) (.pair (.int .i64) (.int .i64)))) (.pair (.pair (.pair (.int .i64) (.int .i64)) (.pair (.pair (.int .i64) (.int .i64)) (.pair (.int .i64) (.int .i64)))) (.pair (.pair (.int .i64) (.int .i64)) (.pair (.pair (.int .i64) (.int .i64)) (.pair (.int .i64) (.int .i64)))))] [.pair (.pair (.pair (.int .i64) (.int .i64)) (.pair (.pair (.int .i64) (.int .i64)) (.pair (.int .i64) (.int .i64)))) (.pair (.pair (.pair (.int .i64) (.int .i64)) (.pair (.pair (.int .i64) (.int .i64)) (.pair (.int .i64) (.int .i64)))) (.pair (.pair (.int .i64) (.int .i64)) (.pair (.pair (.int .i64) (.int .i64)) (.pair (.int .i64) (.int .i64)))))] (fun x => some ((fun r => (r, ())) (armplanref1_Transpose x.1))) :=
  fn_tot (t := fun (x : Ar [.pair (.pair (.pair (.int .i64) (.int .i64)) (.pair (.pair (.int .i64) (.int .i64)) (.pair (.int .i64) (.int .i64)))) (.pair (.pair (.pair (.int .i64) (.int .i64)) (.pair (.pair (.int .i64) (.int .i64)) (.pair (.int .i64) (.int .i64)))) (.pair (.pair (.int .i64) (.int .i64)) (.pair (.pair (.int .i64) (.int .i64)) (.pair (.int .i64) (.int .i64)))))]) => t_armplanref1_Transpose x.1) (R := (((Int × Int) × ((Int × Int) × (Int × Int))) × (((Int × Int) × ((Int × Int) × (Int × Int))) × ((Int × Int) × ((Int × Int) × (Int × Int)))))) (Ts := [.pair (.pair (.pair (.int .i64) (.int .i64)) (.pair (.pair (.int .i64) (.int .i64)) (.pair (.int .i64) (.int .i64)))) (.pair (.pair (.pair (.int .i64) (.int .i64)) (.pair (.pair (.int .i64) (.int .i64)) (.pair (.int .i64) (.int .i64)))) (.pair (.pair (.int .i64) (.int .i64)) (.pair (.pair (.int .i64) (.int .i64)) (.pair (.int .i64) (.int .i64)))))]) (mk := (fun r => (r, ()))) (mkC_ok ctys_ok ceqs_ok (fns_nil _) (inl_nil _) noLoops_ok mixed) Try.func118 run_armplanref1_Transpose (fun _ => by kernel_rfl)
def hd_armplanref1_Transpose : Hd := dataHd [.pair (.pair (.pair (.int .i64) (.int .i64)) (.pair (.pair (.int .i64) (.int .i64)) (.pair (.int .i64) (.int .i64)))) (.pair (.pair (.pair (.int .i64) (.int .i64)) (.pair (.pair (.int .i64) (.int .i64)) (.pair (.int .i64) (.int .i64)))) (.pair (.pair (.int .i64) (.int .i64)) (.pair (.pair (.int .i64) (.int .i64)) (.pair (.int .i64) (.int .i64)))))] [.pair (.pair (.pair (.int .i64) (.int .i64)) (.pair (.pair (.int .i64) (.int .i64)) (.pair (.int .i64) (.int .i64)))) (.pair (.pair (.pair (.int .i64) (.int .i64)) (.pair (.pair (.int .i64) (.int .i64)) (.pair (.int .i64) (.int .i64)))) (.pair (.pair (.int .i64) (.int .i64)) (.pair (.pair (.int .i64) (.int .i64)) (.pair (.int .i64) (.int .i64)))))] (fun x => some ((fun r => (r, ())) (armplanref1_Transpose x.1)))
theorem ok_armplanref1_Transpose : HdOk Try.prog 118 hd_armplanref1_Transpose.sem ∧ Enters Try.prog 118 := data_ok fn_armplanref1_Transpose Try.func118 (by kernel_rfl) (by kernel_rfl)

/- armplan/armplanref1.WithinMat -/
def t_armplanref1_WithinMat (a0 : (((Int × Int) × ((Int × Int) × (Int × Int))) × (((Int × Int) × ((Int × Int) × (Int × Int))) × ((Int × Int) × ((Int × Int) × (Int × Int)))))) (a1 : (((Int × Int) × ((Int × Int) × (Int × Int))) × (((Int × Int) × ((Int × Int) × (Int × Int))) × ((Int × Int) × ((Int × Int) × (Int × Int)))))) : Tr Bool :=
  let r1 : Bool := armplanref1_WithinVec a0.1 a1.1
  .br (r1) (
   let r2 : Bool := armplanref1_WithinVec a0.2.1 a1.2.1
   .br (r2) (
    let r3 : Bool := armplanref1_WithinVec a0.2.2 a1.2.2
    .leaf r3) (
    .leaf false)) (
   .leaf false)
def armplanref1_WithinMat (a0 : (((Int × Int) × ((Int × Int) × (Int × Int))) × (((Int × Int) × ((Int × Int) × (Int × Int))) × ((Int × Int) × ((Int × Int) × (Int × Int)))))) (a1 : (((Int × Int) × ((Int × Int) × (Int × Int))) × (((Int × Int) × ((Int × Int) × (Int × Int))) × ((Int × Int) × ((Int × Int) × (Int × Int)))))) : Bool := (t_armplanref1_WithinMat a0 a1).val
theorem run_armplanref1_WithinMat : ∀ x, runF (mkC ctys ceqs [(94, hd_armplanref1_WithinVec)] [] noLoops) 200 119 Try.f119 (argsA [.pair (.pair (.pair (.int .i64) (.int .i64)) (.pair (.pair (.int .i64) (.int .i64)) (.pair (.int .i64) (.int .i64)))) (.pair (.pair (.pair (.int .i64) (.int .i64)) (.pair (.pair (.int .i64) (.int .i64)) (.pair (.int .i64) (.int .i64)))) (.pair (.pair (.int .i64) (.int .i64)) (.pair (.pair (.int .i64) (.int .i64)) (.pair (.int .i64) (.int .i64))))), .pair (.pair (.pair (.int .i64) (.int .i64)) (.pair (.pair (.int .i64) (.int .i64)) (.pair (.int .i64) (.int .i64)))) (.pair (.pair (.pair (.int .i64) (.int .i64)) (.pair (.pair (.int .i64) (.int .i64)) (.pair (.int .i64) (.int .i64)))) (.pair (.pair (.int .i64) (.int .i64)) (.pair (.pair (.int .i64) (.int .i64)) (.pair (.int .i64) (.int .i64)))))] x) [] (fun v h => toRes h [.bool] v) = (t_armplanref1_WithinMat x.1 x.2.1).optA (fun r => (r, ())) := by
  intro x; kernel_rfl
theorem fn_armplanref1_WithinMat : FnOk Try.prog 119 [.pair (.pair (.pair (.int .i64) (.int .i64)) (.pair (.pair (.int .i64) (.int .i64)) (.pair (.int .i64) (.int .i64)))) (.pair (.pair (.pair (.int .i64) (.int .i64)) (.pair (.pair (.int .i64) (.int .i64)) (.pair (.int .i64) (.int .i64)))) (.pair (.pair (.int .i64) (.int .i64)) (.pair (.pair (.int .i64) (.int .i64)) (.pair (.int .i64) (.int .i64))))), .pair (.pair (.pair (.int .i64) (.int .i64)) (.pair (.pair (.int .i64) (.int .i64)) (.pair (.int .i64) (.int .i64)))) (.pair (.pair (.pair (.int .i64) (.int .i64)) (.pair (.pair (.int .i64) (.int .i64)) (.pair (.int .i64) (.int .i64)))) (.pair (.pair (.int .i64) (.int .i64)) (.pair (.pair (.int .i64) (.int .i64)) (.pair (.int .i64) (.int .i64)))))] [.bool] (fun x => some ((fun r => (r, ())) (armplanref1_WithinMat x.1 x.2.1))) :=
  fn_tot (t := fun (x : Ar [.pair (.pair (.pair (.int .i64) (.int .i64)) (.pair (.pair (.int .i64) (.int .i64)) (.pair (.int .i64) (.int .i64)))) (.pair (.pair (.pair (.int .i64) (.int .i64)) (.pair (.pair (.int .i64) (.int .i64)) (.pair (.int .i64) (.int .i64)))) (.pair (.pair (.int .i64) (.int .i64)) (.pair (.pair (.int .i64) (.int .i64)) (.pair (.int .i64) (.int .i64))))), .pair (.pair (.pair (.int .i64) (.int .i64)) (.pair (.pair (.int .i64) (.int .i64)) (.pair (.int .i64) (.int .i64)))) (.pair (.pair (.pair (.int .i64) (.int .i64)) (.pair (.pair (.int .i64) (.int .i64)) (.pair (.int .i64) (.int .i64)))) (.pair (.pair (.int .i64) (.int .i64)) (.pair (.pair (.int .i64) (.int .i64)) (.pair (.int .i64) (.int .i64)))))]) => t_armplanref1_WithinMat x.1 x.2.1) (R := Bool) (Ts := [.bool]) (mk := (fun r => (r, ()))) (mkC_ok ctys_ok ceqs_ok (fns_cons ok_armplanref1_WithinVec (fns_nil _)) (inl_nil _) noLoops_ok mixed) Try.func119 run_armplanref1_WithinMat (fun _ => by kernel_rfl)
def hd_armplanref1_WithinMat : Hd := dataHd [.pair (.pair (.pair (.int .i64) (.int .i64)) (.pair (.pair (.int .i64) (.int .i64)) (.pair (.int .i64) (.int .i64)))) (.pair (.pair (.pair (.int .i64) (.int .i64)) (.pair (.pair (.int .i64) (.int .i64)) (.pair (.int .i64) (.int .i64)))) (.pair (.pair (.int .i64) (.int .i64)) (.pair (.pair (.int .i64) (.int .i64)) (.pair (.int .i64) (.int .i64))))), .pair (.pair (.pair (.int .i64) (.int .i64)) (.pair (.pair (.int .i64) (.int .i64)) (.pair (.int .i64) (.int .i64)))) (.pair (.pair (.pair (.int .i64) (.int .i64)) (.pair (.pair (.int .i64) (.int .i64)) (.pair (.int .i64) (.int .i64)))) (.pair (.pair (.int .i64) (.int .i64)) (.pair (.pair (.int .i64) (.int .i64)) (.pair (.int .i64) (.int .i64)))))] [.bool] (fun x => some ((fun r => (r, ())) (armplanref1_WithinMat x.1 x.2.1)))
theorem ok_armplanref1_WithinMat : HdOk Try.prog 119 hd_armplanref1_WithinMat.sem ∧ Enters Try.prog 119 := data_ok fn_armplanref1_WithinMat Try.func119 (by kernel_rfl) (by kernel_rfl)

/- armplan/armplanlaw4.composes -/
def t_armplanlaw4_composes (a0 : (((Int × Int) × ((Int × Int) × (Int × Int))) × (((Int × Int) × ((Int × Int) × (Int × Int))) × ((Int × Int) × ((Int × Int) × (Int × Int)))))) (a1 : (((Int × Int) × ((Int × Int) × (Int × Int))) × (((Int × Int) × ((Int × Int) × (Int × Int))) × ((Int × Int) × ((Int × Int) × (Int × Int)))))) : Tr Bool :=
  let r1 : (((Int × Int) × ((Int × Int) × (Int × Int))) × (((Int × Int) × ((Int × Int) × (Int × Int))) × ((Int × Int) × ((Int × Int) × (Int × Int))))) := matrix_Compose a0 a1
  let r2 : (((Int × Int) × ((Int × Int) × (Int × Int))) × (((Int × Int) × ((Int × Int) × (Int × Int))) × ((Int × Int) × ((Int × Int) × (Int × Int))))) := armplanref1_ComposeMat a0 a1
  let x3 : Bool := (decide (r1.1.1.1 = r2.1.1.1) && (decide (r1.1.1.2 = r2.1.1.2) && (decide (r1.1.2.1.1 = r2.1.2.1.1) && (decide (r1.1.2.1.2 = r2.1.2.1.2) && (decide (r1.1.2.2.1 = r2.1.2.2.1) && (decide (r1.1.2.2.2 = r2.1.2.2.2) && (decide (r1.2.1.1.1 = r2.2.1.1.1) && (decide (r1.2.1.1.2 = r2.2.1.1.2) && (decide (r1.2.1.2.1.1 = r2.2.1.2.1.1) && (decide (r1.2.1.2.1.2 = r2.2.1.2.1.2) && (decide (r1.2.1.2.2.1 = r2.2.1.2.2.1) && (decide (r1.2.1.2.2.2 = r2.2.1.2.2.2) && (decide (r1.2.2.1.1 = r2.2.2.1.1) && (decide (r1.2.2.1.2 = r2.2.2.1.2) && (decide (r1.2.2.2.1.1 = r2.2.2.2.1.1) && (decide (r1.2.2.2.1.2 = r2.2.2.2.1.2) && (decide (r1.2.2.2.2.1 = r2.2.2.2.2.1) && (decide (r1.2.2.2.2.2 = r2.2.2.2.2.2) && true))))))))))))))))))
  .br (x3) (
   let r4 : (((Int × Int) × ((Int × Int) × (Int × Int))) × (((Int × Int) × ((Int × Int) × (Int × Int))) × ((Int × Int) × ((Int × Int) × (Int × Int))))) := matrix_Transpose a0
   let r5 : (((Int × Int) × ((Int × Int) × (Int × Int))) × (((Int × Int) × ((Int × Int) × (Int × Int))) × ((Int × Int) × ((Int × Int) × (Int × Int))))) := armplanref1_Transpose a0
   let x6 : Bool := (decide (r4.1.1.1 = r5.1.1.1) && (decide (r4.1.1.2 = r5.1.1.2) && (decide (r4.1.2.1.1 = r5.1.2.1.1) && (decide (r4.1.2.1.2 = r5.1.2.1.2) && (decide (r4.1.2.2.1 = r5.1.2.2.1) && (decide (r4.1.2.2.2 = r5.1.2.2.2) && (decide (r4.2.1.1.1 = r5.2.1.1.1) && (decide (r4.2.1.1.2 = r5.2.1.1.2) && (decide (r4.2.1.2.1.1 = r5.2.1.2.1.1) && (decide (r4.2.1.2.1.2 = r5.2.1.2.1.2) && (decide (r4.2.1.2.2.1 = r5.2.1.2.2.1) && (decide (r4.2.1.2.2.2 = r5.2.1.2.2.2) && (decide (r4.2.2.1.1 = r5.2.2.1.1) && (decide (r4.2.2.1.2 = r5.2.2.1.2) && (decide (r4.2.2.2.1.1 = r5.2.2.2.1.1) && (decide (r4.2.2.2.1.2 = r5.2.2.2.1.2) && (decide (r4.2.2.2.2.1 = r5.2.2.2.2.1) && (decide (r4.2.2.2.2.2 = r5.2.2.2.2.2) && true))))))))))))))))))
   .br (x6) (
    let r7 : Bool := matrix_WithinMat a0 a1
    let r8 : Bool := armplanref1_WithinMat a0 a1
    let x9 : Bool := ((r7 == r8) && true)
    .br (x9) (
     let r10 : Bool := matrix_WithinMat a0 a0
     let r11 : Bool := armplanref1_WithinMat a0 a0
     let x12 : Bool := ((r10 == r11) && true)
     .leaf x12) (
     .leaf false)) (
    .leaf false)) (
   .leaf false)
def armplanlaw4_composes (a0 : (((Int × Int) × ((Int × Int) × (Int × Int))) × (((Int × Int) × ((Int × Int) × (Int × Int))) × ((Int × Int) × ((Int × Int) × (Int × Int)))))) (a1 : (((Int × Int) × ((Int × Int) × (Int × Int))) × (((Int × Int) × ((Int × Int) × (Int × Int))) × ((Int × Int) × ((Int × Int) × (Int × Int)))))) : Bool := (t_armplanlaw4_composes a0 a1).val
theorem run_armplanlaw4_composes : ∀ x, runF (mkC ctys ceqs [(64, hd_matrix_Compose), (66, hd_matrix_WithinMat), (67, hd_matrix_Transpose), (117, hd_armplanref1_ComposeMat), (118, hd_armplanref1_Transpose), (119, hd_armplanref1_WithinMat)] [] noLoops) 200 69 Try.f69 (argsA [.pair (.pair (.pair (.int .i64) (.int .i64)) (.pair (.pair (.int .i64) (.int .i64)) (.pair (.int .i64) (.int .i64)))) (.pair (.pair (.pair (.int .i64) (.int .i64)) (.pair (.pair (.int .i64) (.int .i64)) (.pair (.int .i64) (.int .i64)))) (.pair (.pair (.int .i64) (.int .i64)) (.pair (.pair (.int .i64) (.int .i64)) (.pair (.int .i64) (.int .i64))))), .pair (.pair (.pair (.int .i64) (.int .i64)) (.pair (.pair (.int .i64) (.int .i64)) (.pair (.int .i64) (.int .i64)))) (.pair (.pair (.pair (.int .i64) (.int .i64)) (.pair (.pair (.int .i64) (.int .i64)) (.pair (.int .i64) (.int .i64)))) (.pair (.pair (.int .i64) (.int .i64)) (.pair (.pair (.int .i64) (.int .i64)) (.pair (.int .i64) (.int .i64)))))] x) [] (fun v h => toRes h [.bool] v) = (t_armplanlaw4_composes x.1 x.2.1).optA (fun r => (r, ())) := by
  intro x; kernel_rfl
theorem fn_armplanlaw4_composes : FnOk Try.prog 69 [.pair (.pair (.pair (.int .i64) (.int .i64)) (.pair (.pair (.int .i64) (.int .i64)) (.pair (.int .i64) (.int .i64)))) (.pair (.pair (.pair (.int .i64) (.int .i64)) (.pair (.pair (.int .i64) (.int .i64)) (.pair (.int .i64) (.int .i64)))) (.pair (.pair (.int .i64) (.int .i64)) (.pair (.pair (.int .i64) (.int .i64)) (.pair (.int .i64) (.int .i64))))), .pair (.pair (.pair (.int .i64) (.int .i64)) (.pair (.pair (.int .i64) (.int .i64)) (.pair (.int .i64) (.int .i64)))) (.pair (.pair (.pair (.int .i64) (.int .i64)) (.pair (.pair (.int .i64) (.int .i64)) (.pair (.int .i64) (.int .i64)))) (.pair (.pair (.int .i64) (.int .i64)) (.pair (.pair (.int .i64) (.int .i64)) (.pair (.int .i64) (.int .i64)))))] [.bool] (fun x => some ((fun r => (r, ())) (armplanlaw4_composes x.1 x.2.1))) :=
  fn_tot (t := fun (x : Ar [.pair (.pair (.pair (.int .i64) (.int .i64)) (.pair (.pair (.int .i64) (.int .i64)) (.pair (.int .i64) (.int .i64)))) (.pair (.pair (.pair (.int .i64) (.int .i64)) (.pair (.pair (.int .i64) (.int .i64)) (.pair (.int .i64) (.int .i64)))) (.pair (.pair (.int .i64) (.int .i64)) (.pair (.pair (.int .i64) (.int .i64)) (.pair (.int .i64) (.int .i64))))), .pair (.pair (.pair (.int .i64) (.int .i64)) (.pair (.pair (.int .i64) (.int .i64)) (.pair (.int .i64) (.int .i64)))) (.pair (.pair (.pair (.int .i64) (.int .i64)) (.pair (.pair (.int .i64) (.int .i64)) (.pair (.int .i64) (.int .i64)))) (.pair (.pair (.int .i64) (.int .i64)) (.pair (.pair (.int .i64) (.int .i64)) (.pair (.int .i64) (.int .i64)))))]) => t_armplanlaw4_composes x.1 x.2.1) (R := Bool) (Ts := [.bool]) (mk := (fun r => (r, ()))) (mkC_ok ctys_ok ceqs_ok (fns_cons ok_matrix_Compose (fns_cons ok_matrix_WithinMat (fns_cons ok_matrix_Transpose (fns_cons ok_armplanref1_ComposeMat (fns_cons ok_armplanref1_Transpose (fns_cons ok_armplanref1_WithinMat (fns_nil _))))))) (inl_nil _) noLoops_ok mixed) Try.func69 run_armplanlaw4_composes (fun _ => by kernel_rfl)
def hd_armplanlaw4_composes : Hd := dataHd [.pair (.pair (.pair (.int .i64) (.int .i64)) (.pair (.pair (.int .i64) (.int .i64)) (.pair (.int .i64) (.int .i64)))) (.pair (.pair (.pair (.int .i64) (.int .i64)) (.pair (.pair (.int .i64) (.int .i64)) (.pair (.int .i64) (.int .i64)))) (.pair (.pair (.int .i64) (.int .i64)) (.pair (.pair (.int .i64) (.int .i64)) (.pair (.int .i64) (.int .i64))))), .pair (.pair (.pair (.int .i64) (.int .i64)) (.pair (.pair (.int .i64) (.int .i64)) (.pair (.int .i64) (.int .i64)))) (.pair (.pair (.pair (.int .i64) (.int .i64)) (.pair (.pair (.int .i64) (.int .i64)) (.pair (.int .i64) (.int .i64)))) (.pair (.pair (.int .i64) (.int .i64)) (.pair (.pair (.int .i64) (.int .i64)) (.pair (.int .i64) (.int .i64)))))] [.bool] (fun x => some ((fun r => (r, ())) (armplanlaw4_composes x.1 x.2.1)))
theorem ok_armplanlaw4_composes : HdOk Try.prog 69 hd_armplanlaw4_composes.sem ∧ Enters Try.prog 69 := data_ok fn_armplanlaw4_composes Try.func69 (by kernel_rfl) (by kernel_rfl)

/- armplan/armplanlaw4.MatrixComposes -/
def t_armplanlaw4_MatrixComposes (a0 : (((Int × Int) × ((Int × Int) × (Int × Int))) × (((Int × Int) × ((Int × Int) × (Int × Int))) × ((Int × Int) × ((Int × Int) × (Int × Int)))))) (a1 : (((Int × Int) × ((Int × Int) × (Int × Int))) × (((Int × Int) × ((Int × Int) × (Int × Int))) × ((Int × Int) × ((Int × Int) × (Int × Int)))))) (a2 : List (Int)) : Tr Bool :=
  let r1 : ((((Int × Int) × ((Int × Int) × (Int × Int))) × (((Int × Int) × ((Int × Int) × (Int × Int))) × ((Int × Int) × ((Int × Int) × (Int × Int))))) × (List (Int) × Int)) := armplanlaw4_turn (a2, 0)
  .br (dom_armplanlaw4_turn (a2, 0)) (
   let r2 : ((((Int × Int) × ((Int × Int) × (Int × Int))) × (((Int × Int) × ((Int × Int) × (Int × Int))) × ((Int × Int) × ((Int × Int) × (Int × Int))))) × (List (Int) × Int)) := armplanlaw4_turn r1.2
   .br (dom_armplanlaw4_turn r1.2) (
    let r3 : Bool := armplanlaw4_awake
    .br (r3) (
     let r4 : (((Int × Int) × ((Int × Int) × (Int × Int))) × (((Int × Int) × ((Int × Int) × (Int × Int))) × ((Int × Int) × ((Int × Int) × (Int × Int))))) := matrix_Identity
     let r5 : (((Int × Int) × ((Int × Int) × (Int × Int))) × (((Int × Int) × ((Int × Int) × (Int × Int))) × ((Int × Int) × ((Int × Int) × (Int × Int))))) := armplanref1_Unit
     let x6 : Bool := (decide (r4.1.1.1 = r5.1.1.1) && (decide (r4.1.1.2 = r5.1.1.2) && (decide (r4.1.2.1.1 = r5.1.2.1.1) && (decide (r4.1.2.1.2 = r5.1.2.1.2) && (decide (r4.1.2.2.1 = r5.1.2.2.1) && (decide (r4.1.2.2.2 = r5.1.2.2.2) && (decide (r4.2.1.1.1 = r5.2.1.1.1) && (decide (r4.2.1.1.2 = r5.2.1.1.2) && (decide (r4.2.1.2.1.1 = r5.2.1.2.1.1) && (decide (r4.2.1.2.1.2 = r5.2.1.2.1.2) && (decide (r4.2.1.2.2.1 = r5.2.1.2.2.1) && (decide (r4.2.1.2.2.2 = r5.2.1.2.2.2) && (decide (r4.2.2.1.1 = r5.2.2.1.1) && (decide (r4.2.2.1.2 = r5.2.2.1.2) && (decide (r4.2.2.2.1.1 = r5.2.2.2.1.1) && (decide (r4.2.2.2.1.2 = r5.2.2.2.1.2) && (decide (r4.2.2.2.2.1 = r5.2.2.2.2.1) && (decide (r4.2.2.2.2.2 = r5.2.2.2.2.2) && true))))))))))))))))))
     .br (x6) (
      let r7 : Bool := armplanlaw4_composes a0 a1
      .br (r7) (
       let r8 : Bool := armplanlaw4_composes r1.1 r2.1
       .br (r8) (
        let r9 : Bool := armplanlaw4_composes r1.1 a0
        .leaf r9) (
        .leaf false)) (
       .leaf false)) (
      .leaf false)) (
     .leaf false)) .fail) .fail
def armplanlaw4_MatrixComposes (a0 : (((Int × Int) × ((Int × Int) × (Int × Int))) × (((Int × Int) × ((Int × Int) × (Int × Int))) × ((Int × Int) × ((Int × Int) × (Int × Int)))))) (a1 : (((Int × Int) × ((Int × Int) × (Int × Int))) × (((Int × Int) × ((Int × Int) × (Int × Int))) × ((Int × Int) × ((Int × Int) × (Int × Int)))))) (a2 : List (Int)) : Bool := (t_armplanlaw4_MatrixComposes a0 a1 a2).val
def dom_armplanlaw4_MatrixComposes (a0 : (((Int × Int) × ((Int × Int) × (Int × Int))) × (((Int × Int) × ((Int × Int) × (Int × Int))) × ((Int × Int) × ((Int × Int) × (Int × Int)))))) (a1 : (((Int × Int) × ((Int × Int) × (Int × Int))) × (((Int × Int) × ((Int × Int) × (Int × Int))) × ((Int × Int) × ((Int × Int) × (Int × Int)))))) (a2 : List (Int)) : Bool := (t_armplanlaw4_MatrixComposes a0 a1 a2).dom
theorem run_armplanlaw4_MatrixComposes : ∀ x, runF (mkC ctys ceqs [(50, hd_armplanlaw4_awake), (60, hd_armplanlaw4_turn), (65, hd_armplanref1_Unit), (68, hd_matrix_Identity), (69, hd_armplanlaw4_composes)] [(53, Try.f53)] noLoops) 200 18 Try.f18 (argsA [.pair (.pair (.pair (.int .i64) (.int .i64)) (.pair (.pair (.int .i64) (.int .i64)) (.pair (.int .i64) (.int .i64)))) (.pair (.pair (.pair (.int .i64) (.int .i64)) (.pair (.pair (.int .i64) (.int .i64)) (.pair (.int .i64) (.int .i64)))) (.pair (.pair (.int .i64) (.int .i64)) (.pair (.pair (.int .i64) (.int .i64)) (.pair (.int .i64) (.int .i64))))), .pair (.pair (.pair (.int .i64) (.int .i64)) (.pair (.pair (.int .i64) (.int .i64)) (.pair (.int .i64) (.int .i64)))) (.pair (.pair (.pair (.int .i64) (.int .i64)) (.pair (.pair (.int .i64) (.int .i64)) (.pair (.int .i64) (.int .i64)))) (.pair (.pair (.int .i64) (.int .i64)) (.pair (.pair (.int .i64) (.int .i64)) (.pair (.int .i64) (.int .i64))))), .list (.int .i64)] x) [] (fun v h => toRes h [.bool] v) = (t_armplanlaw4_MatrixComposes x.1 x.2.1 x.2.2.1).optA (fun r => (r, ())) := by
  intro x; kernel_rfl
theorem fn_armplanlaw4_MatrixComposes : FnOk Try.prog 18 [.pair (.pair (.pair (.int .i64) (.int .i64)) (.pair (.pair (.int .i64) (.int .i64)) (.pair (.int .i64) (.int .i64)))) (.pair (.pair (.pair (.int .i64) (.int .i64)) (.pair (.pair (.int .i64) (.int .i64)) (.pair (.int .i64) (.int .i64)))) (.pair (.pair (.int .i64) (.int .i64)) (.pair (.pair (.int .i64) (.int .i64)) (.pair (.int .i64) (.int .i64))))), .pair (.pair (.pair (.int .i64) (.int .i64)) (.pair (.pair (.int .i64) (.int .i64)) (.pair (.int .i64) (.int .i64)))) (.pair (.pair (.pair (.int .i64) (.int .i64)) (.pair (.pair (.int .i64) (.int .i64)) (.pair (.int .i64) (.int .i64)))) (.pair (.pair (.int .i64) (.int .i64)) (.pair (.pair (.int .i64) (.int .i64)) (.pair (.int .i64) (.int .i64))))), .list (.int .i64)] [.bool] (fun x => bif dom_armplanlaw4_MatrixComposes x.1 x.2.1 x.2.2.1 then some ((fun r => (r, ())) (armplanlaw4_MatrixComposes x.1 x.2.1 x.2.2.1)) else none) :=
  fn_part (t := fun (x : Ar [.pair (.pair (.pair (.int .i64) (.int .i64)) (.pair (.pair (.int .i64) (.int .i64)) (.pair (.int .i64) (.int .i64)))) (.pair (.pair (.pair (.int .i64) (.int .i64)) (.pair (.pair (.int .i64) (.int .i64)) (.pair (.int .i64) (.int .i64)))) (.pair (.pair (.int .i64) (.int .i64)) (.pair (.pair (.int .i64) (.int .i64)) (.pair (.int .i64) (.int .i64))))), .pair (.pair (.pair (.int .i64) (.int .i64)) (.pair (.pair (.int .i64) (.int .i64)) (.pair (.int .i64) (.int .i64)))) (.pair (.pair (.pair (.int .i64) (.int .i64)) (.pair (.pair (.int .i64) (.int .i64)) (.pair (.int .i64) (.int .i64)))) (.pair (.pair (.int .i64) (.int .i64)) (.pair (.pair (.int .i64) (.int .i64)) (.pair (.int .i64) (.int .i64))))), .list (.int .i64)]) => t_armplanlaw4_MatrixComposes x.1 x.2.1 x.2.2.1) (R := Bool) (Ts := [.bool]) (mk := (fun r => (r, ()))) (mkC_ok ctys_ok ceqs_ok (fns_cons ok_armplanlaw4_awake (fns_cons ok_armplanlaw4_turn (fns_cons ok_armplanref1_Unit (fns_cons ok_matrix_Identity (fns_cons ok_armplanlaw4_composes (fns_nil _)))))) (inl_cons Try.func53 (by kernel_rfl) (inl_nil _)) noLoops_ok mixed) Try.func18 run_armplanlaw4_MatrixComposes
def hd_armplanlaw4_MatrixComposes : Hd := guardHd [.pair (.pair (.pair (.int .i64) (.int .i64)) (.pair (.pair (.int .i64) (.int .i64)) (.pair (.int .i64) (.int .i64)))) (.pair (.pair (.pair (.int .i64) (.int .i64)) (.pair (.pair (.int .i64) (.int .i64)) (.pair (.int .i64) (.int .i64)))) (.pair (.pair (.int .i64) (.int .i64)) (.pair (.pair (.int .i64) (.int .i64)) (.pair (.int .i64) (.int .i64))))), .pair (.pair (.pair (.int .i64) (.int .i64)) (.pair (.pair (.int .i64) (.int .i64)) (.pair (.int .i64) (.int .i64)))) (.pair (.pair (.pair (.int .i64) (.int .i64)) (.pair (.pair (.int .i64) (.int .i64)) (.pair (.int .i64) (.int .i64)))) (.pair (.pair (.int .i64) (.int .i64)) (.pair (.pair (.int .i64) (.int .i64)) (.pair (.int .i64) (.int .i64))))), .list (.int .i64)] [.bool] (fun x => dom_armplanlaw4_MatrixComposes x.1 x.2.1 x.2.2.1) (fun x => (fun r => (r, ())) (armplanlaw4_MatrixComposes x.1 x.2.1 x.2.2.1))
theorem ok_armplanlaw4_MatrixComposes : HdOk Try.prog 18 hd_armplanlaw4_MatrixComposes.sem ∧ Enters Try.prog 18 := guard_ok fn_armplanlaw4_MatrixComposes Try.func18 (by kernel_rfl) (by kernel_rfl)

/- armplan/armplanmake.Interval -/
def t_armplanmake_Interval (a0 : Int) (a1 : Int) : Tr (Int × Int) :=
  let x1 : Int := shrI .i64 a0 3
  let r2 : Int := armplanmake_Round x1 27
  let x3 : Int := IntKind.wrap .i64 (4 + r2)
  let x4 : Int := IntKind.wrap .u64 x3
  let x5 : Int := shlI .i64 1 x4
  .br (decide (0 ≤ x4)) (
   let x6 : Int := IntKind.wrap .i64 (2 * x5)
   let x7 : Int := IntKind.wrap .i64 (x6 + 1)
   let r8 : Int := armplanmake_Round a0 x7
   .br (dom_armplanmake_Round a0 x7) (
    let x9 : Int := IntKind.wrap .i64 (r8 - x5)
    let x10 : Int := IntKind.wrap .i64 (2 * x5)
    let x11 : Int := IntKind.wrap .i64 (x10 + 1)
    let r12 : Int := armplanmake_Round a1 x11
    .br (dom_armplanmake_Round a1 x11) (
     let x13 : Int := IntKind.wrap .i64 (r12 - x5)
     let x14 : Int := bitI .and .i64 a1 1
     let x15 : Bool := decide (x14 = 0)
     .br (x15) (
      let x16 : Int := shrI .i64 a1 1
      let x17 : Int := IntKind.wrap .i64 (Int.tdiv x5 8)
      let x18 : Int := IntKind.wrap .i64 (1 + x17)
      let r19 : Int := armplanmake_Round x16 x18
      .br (dom_armplanmake_Round x16 x18) (
       let x20 : Int := IntKind.wrap .i64 (x9 + r19)
       let r21 : Int := armplanref1_Clamp x9
       let r22 : Int := armplanref1_Clamp x20
       let x23 : Int := if r22 < r21 then r22 else r21
       let r24 : Int := armplanref1_Clamp x9
       let r25 : Int := armplanref1_Clamp x20
       let x26 : Int := if r25 > r24 then r25 else r24
       .leaf (x23, x26)) .fail) (
      let r27 : Int := armplanref1_Clamp x9
      let r28 : Int := armplanref1_Clamp x13
      let x29 : Int := if r28 < r27 then r28 else r27
      let r30 : Int := armplanref1_Clamp x9
      let r31 : Int := armplanref1_Clamp x13
      let x32 : Int := if r31 > r30 then r31 else r30
      .leaf (x29, x32))) .fail) .fail) .fail
def armplanmake_Interval (a0 : Int) (a1 : Int) : (Int × Int) := (t_armplanmake_Interval a0 a1).val
def dom_armplanmake_Interval (a0 : Int) (a1 : Int) : Bool := (t_armplanmake_Interval a0 a1).dom
theorem run_armplanmake_Interval : ∀ x, runF (mkC ctys ceqs [(30, hd_armplanmake_Round), (112, hd_armplanref1_Clamp)] [] noLoops) 200 70 Try.f70 (argsA [.int .i64, .int .i64] x) [] (fun v h => toRes h [.pair (.int .i64) (.int .i64)] v) = (t_armplanmake_Interval x.1 x.2.1).optA (fun r => (r, ())) := by
  intro x; kernel_rfl
theorem fn_armplanmake_Interval : FnOk Try.prog 70 [.int .i64, .int .i64] [.pair (.int .i64) (.int .i64)] (fun x => bif dom_armplanmake_Interval x.1 x.2.1 then some ((fun r => (r, ())) (armplanmake_Interval x.1 x.2.1)) else none) :=
  fn_part (t := fun (x : Ar [.int .i64, .int .i64]) => t_armplanmake_Interval x.1 x.2.1) (R := (Int × Int)) (Ts := [.pair (.int .i64) (.int .i64)]) (mk := (fun r => (r, ()))) (mkC_ok ctys_ok ceqs_ok (fns_cons ok_armplanmake_Round (fns_cons ok_armplanref1_Clamp (fns_nil _))) (inl_nil _) noLoops_ok mixed) Try.func70 run_armplanmake_Interval
def hd_armplanmake_Interval : Hd := guardHd [.int .i64, .int .i64] [.pair (.int .i64) (.int .i64)] (fun x => dom_armplanmake_Interval x.1 x.2.1) (fun x => (fun r => (r, ())) (armplanmake_Interval x.1 x.2.1))
theorem ok_armplanmake_Interval : HdOk Try.prog 70 hd_armplanmake_Interval.sem ∧ Enters Try.prog 70 := guard_ok fn_armplanmake_Interval Try.func70 (by kernel_rfl) (by kernel_rfl)

/- armplan/armplanlaw4.MatrixMonotone -/
def t_armplanlaw4_MatrixMonotone (a0 : List (Int)) (a1 : List (Int)) : Tr Bool :=
  let r1 : (Int × (List (Int) × Int)) := armplanmake_Source_Next (a0, 0) 1099511627776
  .br (dom_armplanmake_Source_Next (a0, 0) 1099511627776) (
   let r2 : (Int × (List (Int) × Int)) := armplanmake_Source_Next r1.2 1048576
   .br (dom_armplanmake_Source_Next r1.2 1048576) (
    let r3 : (Int × Int) := armplanmake_Interval r1.1 r2.1
    .br (dom_armplanmake_Interval r1.1 r2.1) (
     let r4 : (Int × (List (Int) × Int)) := armplanmake_Source_Next r2.2 3
     .br (dom_armplanmake_Source_Next r2.2 3) (
      let r5 : (((Int × Int) × ((Int × Int) × (Int × Int))) × (List (Int) × Int)) := armplanlaw4_vec r4.2
      .br (dom_armplanlaw4_vec r4.2) (
       let r6 : (Int × (List (Int) × Int)) := armplanmake_Source_Next (a1, 0) 1073741824
       .br (dom_armplanmake_Source_Next (a1, 0) 1073741824) (
        let r7 : (Int × (List (Int) × Int)) := armplanmake_Source_Next r6.2 1073741824
        .br (dom_armplanmake_Source_Next r6.2 1073741824) (
         let r8 : (Int × Int) := armplanmake_Part r3 r6.1 r7.1
         .br (dom_armplanmake_Part r3 r6.1 r7.1) (
          let r9 : (Int × (List (Int) × Int)) := armplanmake_Source_Next r7.2 1073741824
          .br (dom_armplanmake_Source_Next r7.2 1073741824) (
           let r10 : (Int × (List (Int) × Int)) := armplanmake_Source_Next r9.2 1073741824
           .br (dom_armplanmake_Source_Next r9.2 1073741824) (
            let r11 : (Int × Int) := armplanmake_Part r5.1.1 r9.1 r10.1
            .br (dom_armplanmake_Part r5.1.1 r9.1 r10.1) (
             let r12 : (Int × (List (Int) × Int)) := armplanmake_Source_Next r10.2 1073741824
             .br (dom_armplanmake_Source_Next r10.2 1073741824) (
              let r13 : (Int × (List (Int) × Int)) := armplanmake_Source_Next r12.2 1073741824
              .br (dom_armplanmake_Source_Next r12.2 1073741824) (
               let r14 : (Int × Int) := armplanmake_Part r5.1.2.1 r12.1 r13.1
               .br (dom_armplanmake_Part r5.1.2.1 r12.1 r13.1) (
                let r15 : (Int × (List (Int) × Int)) := armplanmake_Source_Next r13.2 1073741824
                .br (dom_armplanmake_Source_Next r13.2 1073741824) (
                 let r16 : (Int × (List (Int) × Int)) := armplanmake_Source_Next r15.2 1073741824
                 .br (dom_armplanmake_Source_Next r15.2 1073741824) (
                  let r17 : (Int × Int) := armplanmake_Part r5.1.2.2 r15.1 r16.1
                  .br (dom_armplanmake_Part r5.1.2.2 r15.1 r16.1) (
                   let r18 : (((Int × Int) × ((Int × Int) × (Int × Int))) × (((Int × Int) × ((Int × Int) × (Int × Int))) × ((Int × Int) × ((Int × Int) × (Int × Int))))) := matrix_Turn r4.1 r8
                   let r19 : (((Int × Int) × ((Int × Int) × (Int × Int))) × (((Int × Int) × ((Int × Int) × (Int × Int))) × ((Int × Int) × ((Int × Int) × (Int × Int))))) := matrix_Turn r4.1 r3
                   let r20 : ((((Int × Int) × ((Int × Int) × (Int × Int))) × (((Int × Int) × ((Int × Int) × (Int × Int))) × ((Int × Int) × ((Int × Int) × (Int × Int))))) × (List (Int) × Int)) := armplanlaw4_turn r5.2
                   .br (dom_armplanlaw4_turn r5.2) (
                    let r21 : Bool := armplanlaw4_awake
                    .br (r21) (
                     let r22 : Bool := matrix_WithinMat r18 r19
                     .br (r22) (
                      let r23 : ((Int × Int) × ((Int × Int) × (Int × Int))) := matrix_Apply r18 (r11, (r14, r17))
                      let r24 : ((Int × Int) × ((Int × Int) × (Int × Int))) := matrix_Apply r19 r5.1
                      let r25 : Bool := matrix_Within r23 r24
                      .br (r25) (
                       let r26 : (((Int × Int) × ((Int × Int) × (Int × Int))) × (((Int × Int) × ((Int × Int) × (Int × Int))) × ((Int × Int) × ((Int × Int) × (Int × Int))))) := matrix_Compose r18 r20.1
                       let r27 : (((Int × Int) × ((Int × Int) × (Int × Int))) × (((Int × Int) × ((Int × Int) × (Int × Int))) × ((Int × Int) × ((Int × Int) × (Int × Int))))) := matrix_Compose r19 r20.1
                       let r28 : Bool := matrix_WithinMat r26 r27
                       .br (r28) (
                        let r29 : (((Int × Int) × ((Int × Int) × (Int × Int))) × (((Int × Int) × ((Int × Int) × (Int × Int))) × ((Int × Int) × ((Int × Int) × (Int × Int))))) := matrix_Compose r20.1 r18
                        let r30 : (((Int × Int) × ((Int × Int) × (Int × Int))) × (((Int × Int) × ((Int × Int) × (Int × Int))) × ((Int × Int) × ((Int × Int) × (Int × Int))))) := matrix_Compose r20.1 r19
                        let r31 : Bool := matrix_WithinMat r29 r30
                        .br (r31) (
                         let r32 : ((Int × Int) × ((Int × Int) × (Int × Int))) := matrix_Add (r11, (r14, r17)) r5.1
                         let r33 : ((Int × Int) × ((Int × Int) × (Int × Int))) := matrix_Add r5.1 r5.1
                         let r34 : Bool := matrix_Within r32 r33
                         .br (r34) (
                          let r35 : ((Int × Int) × ((Int × Int) × (Int × Int))) := matrix_Sub r5.1 (r11, (r14, r17))
                          let r36 : ((Int × Int) × ((Int × Int) × (Int × Int))) := matrix_Sub r5.1 r5.1
                          let r37 : Bool := matrix_Within r35 r36
                          .leaf r37) (
                          .leaf false)) (
                         .leaf false)) (
                        .leaf false)) (
                       .leaf false)) (
                      .leaf false)) (
                     .leaf false)) .fail) .fail) .fail) .fail) .fail) .fail) .fail) .fail) .fail) .fail) .fail) .fail) .fail) .fail) .fail) .fail) .fail) .fail
def armplanlaw4_MatrixMonotone (a0 : List (Int)) (a1 : List (Int)) : Bool := (t_armplanlaw4_MatrixMonotone a0 a1).val
def dom_armplanlaw4_MatrixMonotone (a0 : List (Int)) (a1 : List (Int)) : Bool := (t_armplanlaw4_MatrixMonotone a0 a1).dom
theorem run_armplanlaw4_MatrixMonotone : ∀ x, runF (mkC ctys ceqs [(49, hd_armplanmake_Part), (50, hd_armplanlaw4_awake), (51, hd_matrix_Turn), (56, hd_matrix_Apply), (57, hd_armplanmake_Source_Next), (60, hd_armplanlaw4_turn), (61, hd_armplanlaw4_vec), (64, hd_matrix_Compose), (66, hd_matrix_WithinMat), (70, hd_armplanmake_Interval), (71, hd_matrix_Within), (72, hd_matrix_Add), (73, hd_matrix_Sub)] [(53, Try.f53)] noLoops) 200 19 Try.f19 (argsA [.list (.int .i64), .list (.int .i64)] x) [] (fun v h => toRes h [.bool] v) = (t_armplanlaw4_MatrixMonotone x.1 x.2.1).optA (fun r => (r, ())) := by
  intro x; kernel_rfl
theorem fn_armplanlaw4_MatrixMonotone : FnOk Try.prog 19 [.list (.int .i64), .list (.int .i64)] [.bool] (fun x => bif dom_armplanlaw4_MatrixMonotone x.1 x.2.1 then some ((fun r => (r, ())) (armplanlaw4_MatrixMonotone x.1 x.2.1)) else none) :=
  fn_part (t := fun (x : Ar [.list (.int .i64), .list (.int .i64)]) => t_armplanlaw4_MatrixMonotone x.1 x.2.1) (R := Bool) (Ts := [.bool]) (mk := (fun r => (r, ()))) (mkC_ok ctys_ok ceqs_ok (fns_cons ok_armplanmake_Part (fns_cons ok_armplanlaw4_awake (fns_cons ok_matrix_Turn (fns_cons ok_matrix_Apply (fns_cons ok_armplanmake_Source_Next (fns_cons ok_armplanlaw4_turn (fns_cons ok_armplanlaw4_vec (fns_cons ok_matrix_Compose (fns_cons ok_matrix_WithinMat (fns_cons ok_armplanmake_Interval (fns_cons ok_matrix_Within (fns_cons ok_matrix_Add (fns_cons ok_matrix_Sub (fns_nil _)))))))))))))) (inl_cons Try.func53 (by kernel_rfl) (inl_nil _)) noLoops_ok mixed) Try.func19 run_armplanlaw4_MatrixMonotone
def hd_armplanlaw4_MatrixMonotone : Hd := guardHd [.list (.int .i64), .list (.int .i64)] [.bool] (fun x => dom_armplanlaw4_MatrixMonotone x.1 x.2.1) (fun x => (fun r => (r, ())) (armplanlaw4_MatrixMonotone x.1 x.2.1))
theorem ok_armplanlaw4_MatrixMonotone : HdOk Try.prog 19 hd_armplanlaw4_MatrixMonotone.sem ∧ Enters Try.prog 19 := guard_ok fn_armplanlaw4_MatrixMonotone Try.func19 (by kernel_rfl) (by kernel_rfl)

end Go.RX

/-
  The contracts of functions.
-/
import Derived.Test.YtkekddbdbfdjeaaFB
namespace Go.RX
open Go.Proofs

def ctys : List (Nat × TRow) := [(2, ⟨.int .i64, 1, 8, [.int .i64 0], .int .i64⟩),
  (3, ⟨.int .i64, 1, 8, [.int .i64 0], .int .i64⟩),
  (22, ⟨.slice 3, 1, 24, [.slice none 0 0], .list (.int .i64)⟩),
  (26, ⟨.struct [(0, 1), (1, 1)], 2, 16, [.int .i64 0, .int .i64 0], .pair (.int .i64) (.int .i64)⟩),
  (27, ⟨.arr 3 26, 6, 48, [.int .i64 0, .int .i64 0, .int .i64 0, .int .i64 0, .int .i64 0, .int .i64 0], .pair (.pair (.int .i64) (.int .i64)) (.pair (.pair (.int .i64) (.int .i64)) (.pair (.int .i64) (.int .i64)))⟩),
  (28, ⟨.arr 3 26, 6, 48, [.int .i64 0, .int .i64 0, .int .i64 0, .int .i64 0, .int .i64 0, .int .i64 0], .pair (.pair (.int .i64) (.int .i64)) (.pair (.pair (.int .i64) (.int .i64)) (.pair (.int .i64) (.int .i64)))⟩),
  (32, ⟨.arr 3 2, 3, 24, [.int .i64 0, .int .i64 0, .int .i64 0], .pair (.int .i64) (.pair (.int .i64) (.int .i64))⟩),
  (35, ⟨.arr 3 27, 18, 144, [.int .i64 0, .int .i64 0, .int .i64 0, .int .i64 0, .int .i64 0, .int .i64 0, .int .i64 0, .int .i64 0, .int .i64 0, .int .i64 0, .int .i64 0, .int .i64 0, .int .i64 0, .int .i64 0, .int .i64 0, .int .i64 0, .int .i64 0, .int .i64 0], .pair (.pair (.pair (.int .i64) (.int .i64)) (.pair (.pair (.int .i64) (.int .i64)) (.pair (.int .i64) (.int .i64)))) (.pair (.pair (.pair (.int .i64) (.int .i64)) (.pair (.pair (.int .i64) (.int .i64)) (.pair (.int .i64) (.int .i64)))) (.pair (.pair (.int .i64) (.int .i64)) (.pair (.pair (.int .i64) (.int .i64)) (.pair (.int .i64) (.int .i64)))))⟩),
  (91, ⟨.struct [(0, 1), (1, 1)], 2, 32, [.slice none 0 0, .int .i64 0], .pair (.list (.int .i64)) (.int .i64)⟩),
  (110, ⟨.int .u64, 1, 8, [.int .u64 0], .int .u64⟩)]
def ceqs : List (Nat × (Bool × List TK)) := []
theorem ctys_ok : tableOk Try.prog ctys = true := by kernel_rfl
theorem ceqs_ok : eqsOk Try.prog ceqs = true := by kernel_rfl

/- armplan/armplanlaw4.square -/
def t_armplanlaw4_square (a0 : ((Int × Int) × ((Int × Int) × (Int × Int)))) : Tr (Int × Int) :=
  let r1 : (Int × Int) := armplanref1_Square a0.1
  let r2 : (Int × Int) := armplanref1_Square a0.2.1
  let r3 : (Int × Int) := armplanref1_Add r1 r2
  let r4 : (Int × Int) := armplanref1_Square a0.2.2
  let r5 : (Int × Int) := armplanref1_Add r3 r4
  .leaf r5
def armplanlaw4_square (a0 : ((Int × Int) × ((Int × Int) × (Int × Int)))) : (Int × Int) := (t_armplanlaw4_square a0).val
theorem run_armplanlaw4_square : ∀ x, runF (mkC ctys ceqs [(64, hd_armplanref1_Add), (65, hd_armplanref1_Square)] [] noLoops) 200 23 Try.f23 (argsA [.pair (.pair (.int .i64) (.int .i64)) (.pair (.pair (.int .i64) (.int .i64)) (.pair (.int .i64) (.int .i64)))] x) [] (fun v h => toRes h [.pair (.int .i64) (.int .i64)] v) = (t_armplanlaw4_square x.1).optA (fun r => (r, ())) := by
  intro x; kernel_rfl
theorem fn_armplanlaw4_square : FnOk Try.prog 23 [.pair (.pair (.int .i64) (.int .i64)) (.pair (.pair (.int .i64) (.int .i64)) (.pair (.int .i64) (.int .i64)))] [.pair (.int .i64) (.int .i64)] (fun x => some ((fun r => (r, ())) (armplanlaw4_square x.1))) :=
  fn_tot (t := fun (x : Ar [.pair (.pair (.int .i64) (.int .i64)) (.pair (.pair (.int .i64) (.int .i64)) (.pair (.int .i64) (.int .i64)))]) => t_armplanlaw4_square x.1) (R := (Int × Int)) (Ts := [.pair (.int .i64) (.int .i64)]) (mk := (fun r => (r, ()))) (mkC_ok ctys_ok ceqs_ok (fns_cons ok_armplanref1_Add (fns_cons ok_armplanref1_Square (fns_nil _))) (inl_nil _) noLoops_ok mixed) Try.func23 run_armplanlaw4_square (fun _ => by kernel_rfl)
def hd_armplanlaw4_square : Hd := dataHd [.pair (.pair (.int .i64) (.int .i64)) (.pair (.pair (.int .i64) (.int .i64)) (.pair (.int .i64) (.int .i64)))] [.pair (.int .i64) (.int .i64)] (fun x => some ((fun r => (r, ())) (armplanlaw4_square x.1)))
theorem ok_armplanlaw4_square : HdOk Try.prog 23 hd_armplanlaw4_square.sem ∧ Enters Try.prog 23 := data_ok fn_armplanlaw4_square Try.func23 (by kernel_rfl) (by kernel_rfl)

/- (*armplan/armplanmake.Source).Next -/
def t_armplanmake_Source_Next (a0 : (List (Int) × Int)) (a1 : Int) : Tr (Int × (List (Int) × Int)) :=
  let x1 : Bool := decide (((a0.1.length : Nat) : Int) ≤ a0.2)
  .br (x1) (
   .leaf (0, a0)) (
   let x2 : Int := IntKind.wrap .i64 (a0.2 + 1)
   let x3 : Int := IntKind.wrap .i64 (x2 - 1)
   .br (decide (0 ≤ x3) && decide (x3 < ((a0.1.length : Nat) : Int))) (
    let r4 : Int := armplanmake_Round (List.getD a0.1 x3.toNat (Ty.dflt (.int .i64))) a1
    .br (dom_armplanmake_Round (List.getD a0.1 x3.toNat (Ty.dflt (.int .i64))) a1) (
     .leaf (r4, (a0.1, x2))) .fail) .fail)
def armplanmake_Source_Next (a0 : (List (Int) × Int)) (a1 : Int) : (Int × (List (Int) × Int)) := (t_armplanmake_Source_Next a0 a1).val
def dom_armplanmake_Source_Next (a0 : (List (Int) × Int)) (a1 : Int) : Bool := (t_armplanmake_Source_Next a0 a1).dom
theorem run_armplanmake_Source_Next : ∀ x, runF (mkC ctys ceqs [(36, hd_armplanmake_Round)] [] noLoops) 200 20 Try.f20 (mkT id [⟨[0], true, false, [.d (.pair (.list (.int .i64)) (.int .i64))]⟩, ⟨[1], false, false, [.d (.int .i64)]⟩] x 0 (List.replicate 2 .top)) (mkH id [⟨[0], true, false, [.d (.pair (.list (.int .i64)) (.int .i64))]⟩, ⟨[1], false, false, [.d (.int .i64)]⟩] x 0) (endS [.int .i64] [⟨[], true, false, [.d (.pair (.list (.int .i64)) (.int .i64))]⟩]) = (t_armplanmake_Source_Next x.1.1 x.2.1.1).optA (fun (r : (Int × (List (Int) × Int))) => ((r.1, ()), ((r.2, ()), ()))) := by
  intro x; kernel_rfl
def hd_armplanmake_Source_Next : Hd := hdS 2 [⟨[0], true, false, [.d (.pair (.list (.int .i64)) (.int .i64))]⟩, ⟨[1], false, false, [.d (.int .i64)]⟩] [⟨[], true, false, [.d (.pair (.list (.int .i64)) (.int .i64))]⟩] [.int .i64] (fun x => dom_armplanmake_Source_Next x.1.1 x.2.1.1) (fun x => (fun (r : (Int × (List (Int) × Int))) => ((r.1, ()), ((r.2, ()), ()))) (armplanmake_Source_Next x.1.1 x.2.1.1)) (by kernel_rfl)
theorem fn_armplanmake_Source_Next : FnS Try.prog 20 2 [⟨[0], true, false, [.d (.pair (.list (.int .i64)) (.int .i64))]⟩, ⟨[1], false, false, [.d (.int .i64)]⟩] [⟨[], true, false, [.d (.pair (.list (.int .i64)) (.int .i64))]⟩] [.int .i64] (fun x => bif (fun x => dom_armplanmake_Source_Next x.1.1 x.2.1.1) x then some ((fun x => (fun (r : (Int × (List (Int) × Int))) => ((r.1, ()), ((r.2, ()), ()))) (armplanmake_Source_Next x.1.1 x.2.1.1)) x) else none) :=
  fnS_tree (np := 2) (ss := [⟨[0], true, false, [.d (.pair (.list (.int .i64)) (.int .i64))]⟩, ⟨[1], false, false, [.d (.int .i64)]⟩]) (ss1 := [⟨[], true, false, [.d (.pair (.list (.int .i64)) (.int .i64))]⟩]) (Ts := [.int .i64]) (R := (Int × (List (Int) × Int))) (dom := fun x => dom_armplanmake_Source_Next x.1.1 x.2.1.1) (t := fun (x : Sl [⟨[0], true, false, [.d (.pair (.list (.int .i64)) (.int .i64))]⟩, ⟨[1], false, false, [.d (.int .i64)]⟩]) => t_armplanmake_Source_Next x.1.1 x.2.1.1) (mk := (fun (r : (Int × (List (Int) × Int))) => ((r.1, ()), ((r.2, ()), ())))) (mkC_ok ctys_ok ceqs_ok (fns_cons ok_armplanmake_Round (fns_nil _)) (inl_nil _) noLoops_ok mixed) Try.func20 (by kernel_rfl) run_armplanmake_Source_Next (fun _ => .inr rfl)
theorem ok_armplanmake_Source_Next : HdOk Try.prog 20 hd_armplanmake_Source_Next.sem ∧ Enters Try.prog 20 := ⟨hdS_ok (by kernel_rfl) fn_armplanmake_Source_Next, _, Try.func20, by kernel_rfl, by kernel_rfl⟩

/- (*armplan/armplanmake.Source).Signed -/
def t_armplanmake_Source_Signed (a0 : (List (Int) × Int)) (a1 : Int) : Tr (Int × (List (Int) × Int)) :=
  let x1 : Int := IntKind.wrap .i64 (2 * a1)
  let x2 : Int := IntKind.wrap .i64 (x1 + 1)
  let r3 : (Int × (List (Int) × Int)) := armplanmake_Source_Next a0 x2
  .br (dom_armplanmake_Source_Next a0 x2) (
   let x4 : Int := IntKind.wrap .i64 (r3.1 - a1)
   .leaf (x4, r3.2)) .fail
def armplanmake_Source_Signed (a0 : (List (Int) × Int)) (a1 : Int) : (Int × (List (Int) × Int)) := (t_armplanmake_Source_Signed a0 a1).val
def dom_armplanmake_Source_Signed (a0 : (List (Int) × Int)) (a1 : Int) : Bool := (t_armplanmake_Source_Signed a0 a1).dom
theorem run_armplanmake_Source_Signed : ∀ x, runF (mkC ctys ceqs [(20, hd_armplanmake_Source_Next)] [] noLoops) 200 17 Try.f17 (mkT id [⟨[0], true, false, [.d (.pair (.list (.int .i64)) (.int .i64))]⟩, ⟨[1], false, false, [.d (.int .i64)]⟩] x 0 (List.replicate 2 .top)) (mkH id [⟨[0], true, false, [.d (.pair (.list (.int .i64)) (.int .i64))]⟩, ⟨[1], false, false, [.d (.int .i64)]⟩] x 0) (endS [.int .i64] [⟨[], true, false, [.d (.pair (.list (.int .i64)) (.int .i64))]⟩]) = (t_armplanmake_Source_Signed x.1.1 x.2.1.1).optA (fun (r : (Int × (List (Int) × Int))) => ((r.1, ()), ((r.2, ()), ()))) := by
  intro x; kernel_rfl
def hd_armplanmake_Source_Signed : Hd := hdS 2 [⟨[0], true, false, [.d (.pair (.list (.int .i64)) (.int .i64))]⟩, ⟨[1], false, false, [.d (.int .i64)]⟩] [⟨[], true, false, [.d (.pair (.list (.int .i64)) (.int .i64))]⟩] [.int .i64] (fun x => dom_armplanmake_Source_Signed x.1.1 x.2.1.1) (fun x => (fun (r : (Int × (List (Int) × Int))) => ((r.1, ()), ((r.2, ()), ()))) (armplanmake_Source_Signed x.1.1 x.2.1.1)) (by kernel_rfl)
theorem fn_armplanmake_Source_Signed : FnS Try.prog 17 2 [⟨[0], true, false, [.d (.pair (.list (.int .i64)) (.int .i64))]⟩, ⟨[1], false, false, [.d (.int .i64)]⟩] [⟨[], true, false, [.d (.pair (.list (.int .i64)) (.int .i64))]⟩] [.int .i64] (fun x => bif (fun x => dom_armplanmake_Source_Signed x.1.1 x.2.1.1) x then some ((fun x => (fun (r : (Int × (List (Int) × Int))) => ((r.1, ()), ((r.2, ()), ()))) (armplanmake_Source_Signed x.1.1 x.2.1.1)) x) else none) :=
  fnS_tree (np := 2) (ss := [⟨[0], true, false, [.d (.pair (.list (.int .i64)) (.int .i64))]⟩, ⟨[1], false, false, [.d (.int .i64)]⟩]) (ss1 := [⟨[], true, false, [.d (.pair (.list (.int .i64)) (.int .i64))]⟩]) (Ts := [.int .i64]) (R := (Int × (List (Int) × Int))) (dom := fun x => dom_armplanmake_Source_Signed x.1.1 x.2.1.1) (t := fun (x : Sl [⟨[0], true, false, [.d (.pair (.list (.int .i64)) (.int .i64))]⟩, ⟨[1], false, false, [.d (.int .i64)]⟩]) => t_armplanmake_Source_Signed x.1.1 x.2.1.1) (mk := (fun (r : (Int × (List (Int) × Int))) => ((r.1, ()), ((r.2, ()), ())))) (mkC_ok ctys_ok ceqs_ok (fns_cons ok_armplanmake_Source_Next (fns_nil _)) (inl_nil _) noLoops_ok mixed) Try.func17 (by kernel_rfl) run_armplanmake_Source_Signed (fun _ => .inr rfl)
theorem ok_armplanmake_Source_Signed : HdOk Try.prog 17 hd_armplanmake_Source_Signed.sem ∧ Enters Try.prog 17 := ⟨hdS_ok (by kernel_rfl) fn_armplanmake_Source_Signed, _, Try.func17, by kernel_rfl, by kernel_rfl⟩

/- armplan/armplanlaw4.MatrixLength -/
def t_armplanlaw4_MatrixLength (a0 : List (Int)) : Tr Bool :=
  let r1 : (Int × (List (Int) × Int)) := armplanmake_Source_Signed (a0, 0) 327680
  .br (dom_armplanmake_Source_Signed (a0, 0) 327680) (
   let r2 : (Int × (List (Int) × Int)) := armplanmake_Source_Signed r1.2 327680
   .br (dom_armplanmake_Source_Signed r1.2 327680) (
    let r3 : (Int × (List (Int) × Int)) := armplanmake_Source_Signed r2.2 327680
    .br (dom_armplanmake_Source_Signed r2.2 327680) (
     let r4 : ((Int × Int) × ((Int × Int) × (Int × Int))) := armplanref1_Point (r1.1, (r2.1, r3.1))
     let r5 : (Int × (List (Int) × Int)) := armplanmake_Source_Next r3.2 3
     .br (dom_armplanmake_Source_Next r3.2 3) (
      let r6 : (Int × (List (Int) × Int)) := armplanmake_Source_Signed r5.2 70000
      .br (dom_armplanmake_Source_Signed r5.2 70000) (
       let r7 : (Int × Int) := armplanref1_Of r6.1
       let r8 : (((Int × Int) × ((Int × Int) × (Int × Int))) × (((Int × Int) × ((Int × Int) × (Int × Int))) × ((Int × Int) × ((Int × Int) × (Int × Int))))) := matrix_Turn r5.1 r7
       let r9 : ((Int × Int) × ((Int × Int) × (Int × Int))) := matrix_Apply r8 r4
       let r10 : (Int × Int) := armplanlaw4_square r4
       let r11 : (Int × Int) := armplanlaw4_square r9
       let r12 : ((Int × Int) × Bool) := armplanref1_Meet r10 r11
       let r13 : Bool := armplanlaw4_awake
       .br (r13) (
        .leaf r12.2) (
        .leaf false)) .fail) .fail) .fail) .fail) .fail
def armplanlaw4_MatrixLength (a0 : List (Int)) : Bool := (t_armplanlaw4_MatrixLength a0).val
def dom_armplanlaw4_MatrixLength (a0 : List (Int)) : Bool := (t_armplanlaw4_MatrixLength a0).dom
theorem run_armplanlaw4_MatrixLength : ∀ x, runF (mkC ctys ceqs [(16, hd_armplanref1_Point), (17, hd_armplanmake_Source_Signed), (18, hd_matrix_Apply), (19, hd_matrix_Turn), (20, hd_armplanmake_Source_Next), (21, hd_armplanref1_Of), (22, hd_armplanref1_Meet), (23, hd_armplanlaw4_square), (24, hd_armplanlaw4_awake)] [(15, Try.f15)] noLoops) 200 3 Try.f3 (argsA [.list (.int .i64)] x) [] (fun v h => toRes h [.bool] v) = (t_armplanlaw4_MatrixLength x.1).optA (fun r => (r, ())) := by
  intro x; kernel_rfl
theorem fn_armplanlaw4_MatrixLength : FnOk Try.prog 3 [.list (.int .i64)] [.bool] (fun x => bif dom_armplanlaw4_MatrixLength x.1 then some ((fun r => (r, ())) (armplanlaw4_MatrixLength x.1)) else none) :=
  fn_part (t := fun (x : Ar [.list (.int .i64)]) => t_armplanlaw4_MatrixLength x.1) (R := Bool) (Ts := [.bool]) (mk := (fun r => (r, ()))) (mkC_ok ctys_ok ceqs_ok (fns_cons ok_armplanref1_Point (fns_cons ok_armplanmake_Source_Signed (fns_cons ok_matrix_Apply (fns_cons ok_matrix_Turn (fns_cons ok_armplanmake_Source_Next (fns_cons ok_armplanref1_Of (fns_cons ok_armplanref1_Meet (fns_cons ok_armplanlaw4_square (fns_cons ok_armplanlaw4_awake (fns_nil _)))))))))) (inl_cons Try.func15 (by kernel_rfl) (inl_nil _)) noLoops_ok mixed) Try.func3 run_armplanlaw4_MatrixLength
def hd_armplanlaw4_MatrixLength : Hd := guardHd [.list (.int .i64)] [.bool] (fun x => dom_armplanlaw4_MatrixLength x.1) (fun x => (fun r => (r, ())) (armplanlaw4_MatrixLength x.1))
theorem ok_armplanlaw4_MatrixLength : HdOk Try.prog 3 hd_armplanlaw4_MatrixLength.sem ∧ Enters Try.prog 3 := guard_ok fn_armplanlaw4_MatrixLength Try.func3 (by kernel_rfl) (by kernel_rfl)

/- armplan/matrix.Add -/
def t_matrix_Add (a0 : ((Int × Int) × ((Int × Int) × (Int × Int)))) (a1 : ((Int × Int) × ((Int × Int) × (Int × Int)))) : Tr ((Int × Int) × ((Int × Int) × (Int × Int))) :=
  let r1 : (Int × Int) := interval_Add a0.1 a1.1
  let r2 : (Int × Int) := interval_Add a0.2.1 a1.2.1
  let r3 : (Int × Int) := interval_Add a0.2.2 a1.2.2
  .leaf (r1, (r2, r3))
def matrix_Add (a0 : ((Int × Int) × ((Int × Int) × (Int × Int)))) (a1 : ((Int × Int) × ((Int × Int) × (Int × Int)))) : ((Int × Int) × ((Int × Int) × (Int × Int))) := (t_matrix_Add a0 a1).val
theorem run_matrix_Add : ∀ x, runF (mkC ctys ceqs [(86, hd_interval_Add)] [] noLoops) 200 96 Try.f96 (argsA [.pair (.pair (.int .i64) (.int .i64)) (.pair (.pair (.int .i64) (.int .i64)) (.pair (.int .i64) (.int .i64))), .pair (.pair (.int .i64) (.int .i64)) (.pair (.pair (.int .i64) (.int .i64)) (.pair (.int .i64) (.int .i64)))] x) [] (fun v h => toRes h [.pair (.pair (.int .i64) (.int .i64)) (.pair (.pair (.int .i64) (.int .i64)) (.pair (.int .i64) (.int .i64)))] v) = (t_matrix_Add x.1 x.2.1).optA (fun r => (r, ())) := by
  intro x; kernel_rfl
theorem fn_matrix_Add : FnOk Try.prog 96 [.pair (.pair (.int .i64) (.int .i64)) (.pair (.pair (.int .i64) (.int .i64)) (.pair (.int .i64) (.int .i64))), .pair (.pair (.int .i64) (.int .i64)) (.pair (.pair (.int .i64) (.int .i64)) (.pair (.int .i64) (.int .i64)))] [.pair (.pair (.int .i64) (.int .i64)) (.pair (.pair (.int .i64) (.int .i64)) (.pair (.int .i64) (.int .i64)))] (fun x => some ((fun r => (r, ())) (matrix_Add x.1 x.2.1))) :=
  fn_tot (t := fun (x : Ar [.pair (.pair (.int .i64) (.int .i64)) (.pair (.pair (.int .i64) (.int .i64)) (.pair (.int .i64) (.int .i64))), .pair (.pair (.int .i64) (.int .i64)) (.pair (.pair (.int .i64) (.int .i64)) (.pair (.int .i64) (.int .i64)))]) => t_matrix_Add x.1 x.2.1) (R := ((Int × Int) × ((Int × Int) × (Int × Int)))) (Ts := [.pair (.pair (.int .i64) (.int .i64)) (.pair (.pair (.int .i64) (.int .i64)) (.pair (.int .i64) (.int .i64)))]) (mk := (fun r => (r, ()))) (mkC_ok ctys_ok ceqs_ok (fns_cons ok_interval_Add (fns_nil _)) (inl_nil _) noLoops_ok mixed) Try.func96 run_matrix_Add (fun _ => by kernel_rfl)
def hd_matrix_Add : Hd := dataHd [.pair (.pair (.int .i64) (.int .i64)) (.pair (.pair (.int .i64) (.int .i64)) (.pair (.int .i64) (.int .i64))), .pair (.pair (.int .i64) (.int .i64)) (.pair (.pair (.int .i64) (.int .i64)) (.pair (.int .i64) (.int .i64)))] [.pair (.pair (.int .i64) (.int .i64)) (.pair (.pair (.int .i64) (.int .i64)) (.pair (.int .i64) (.int .i64)))] (fun x => some ((fun r => (r, ())) (matrix_Add x.1 x.2.1)))
theorem ok_matrix_Add : HdOk Try.prog 96 hd_matrix_Add.sem ∧ Enters Try.prog 96 := data_ok fn_matrix_Add Try.func96 (by kernel_rfl) (by kernel_rfl)

/- armplan/armplanref1.AddVec -/
def t_armplanref1_AddVec (a0 : ((Int × Int) × ((Int × Int) × (Int × Int)))) (a1 : ((Int × Int) × ((Int × Int) × (Int × Int)))) : Tr ((Int × Int) × ((Int × Int) × (Int × Int))) :=
  let r1 : (Int × Int) := armplanref1_Add a0.1 a1.1
  let r2 : (Int × Int) := armplanref1_Add a0.2.1 a1.2.1
  let r3 : (Int × Int) := armplanref1_Add a0.2.2 a1.2.2
  .leaf (r1, (r2, r3))
def armplanref1_AddVec (a0 : ((Int × Int) × ((Int × Int) × (Int × Int)))) (a1 : ((Int × Int) × ((Int × Int) × (Int × Int)))) : ((Int × Int) × ((Int × Int) × (Int × Int))) := (t_armplanref1_AddVec a0 a1).val
theorem run_armplanref1_AddVec : ∀ x, runF (mkC ctys ceqs [(64, hd_armplanref1_Add)] [] noLoops) 200 35 Try.f35 (argsA [.pair (.pair (.int .i64) (.int .i64)) (.pair (.pair (.int .i64) (.int .i64)) (.pair (.int .i64) (.int .i64))), .pair (.pair (.int .i64) (.int .i64)) (.pair (.pair (.int .i64) (.int .i64)) (.pair (.int .i64) (.int .i64)))] x) [] (fun v h => toRes h [.pair (.pair (.int .i64) (.int .i64)) (.pair (.pair (.int .i64) (.int .i64)) (.pair (.int .i64) (.int .i64)))] v) = (t_armplanref1_AddVec x.1 x.2.1).optA (fun r => (r, ())) := by
  intro x; kernel_rfl
theorem fn_armplanref1_AddVec : FnOk Try.prog 35 [.pair (.pair (.int .i64) (.int .i64)) (.pair (.pair (.int .i64) (.int .i64)) (.pair (.int .i64) (.int .i64))), .pair (.pair (.int .i64) (.int .i64)) (.pair (.pair (.int .i64) (.int .i64)) (.pair (.int .i64) (.int .i64)))] [.pair (.pair (.int .i64) (.int .i64)) (.pair (.pair (.int .i64) (.int .i64)) (.pair (.int .i64) (.int .i64)))] (fun x => some ((fun r => (r, ())) (armplanref1_AddVec x.1 x.2.1))) :=
  fn_tot (t := fun (x : Ar [.pair (.pair (.int .i64) (.int .i64)) (.pair (.pair (.int .i64) (.int .i64)) (.pair (.int .i64) (.int .i64))), .pair (.pair (.int .i64) (.int .i64)) (.pair (.pair (.int .i64) (.int .i64)) (.pair (.int .i64) (.int .i64)))]) => t_armplanref1_AddVec x.1 x.2.1) (R := ((Int × Int) × ((Int × Int) × (Int × Int)))) (Ts := [.pair (.pair (.int .i64) (.int .i64)) (.pair (.pair (.int .i64) (.int .i64)) (.pair (.int .i64) (.int .i64)))]) (mk := (fun r => (r, ()))) (mkC_ok ctys_ok ceqs_ok (fns_cons ok_armplanref1_Add (fns_nil _)) (inl_nil _) noLoops_ok mixed) Try.func35 run_armplanref1_AddVec (fun _ => by kernel_rfl)
def hd_armplanref1_AddVec : Hd := dataHd [.pair (.pair (.int .i64) (.int .i64)) (.pair (.pair (.int .i64) (.int .i64)) (.pair (.int .i64) (.int .i64))), .pair (.pair (.int .i64) (.int .i64)) (.pair (.pair (.int .i64) (.int .i64)) (.pair (.int .i64) (.int .i64)))] [.pair (.pair (.int .i64) (.int .i64)) (.pair (.pair (.int .i64) (.int .i64)) (.pair (.int .i64) (.int .i64)))] (fun x => some ((fun r => (r, ())) (armplanref1_AddVec x.1 x.2.1)))
theorem ok_armplanref1_AddVec : HdOk Try.prog 35 hd_armplanref1_AddVec.sem ∧ Enters Try.prog 35 := data_ok fn_armplanref1_AddVec Try.func35 (by kernel_rfl) (by kernel_rfl)

/- armplan/armplanref1.WithinVec -/
def t_armplanref1_WithinVec (a0 : ((Int × Int) × ((Int × Int) × (Int × Int)))) (a1 : ((Int × Int) × ((Int × Int) × (Int × Int)))) : Tr Bool :=
  let r1 : Bool := armplanref1_Within a0.1 a1.1
  .br (r1) (
   let r2 : Bool := armplanref1_Within a0.2.1 a1.2.1
   .br (r2) (
    let r3 : Bool := armplanref1_Within a0.2.2 a1.2.2
    .leaf r3) (
    .leaf false)) (
   .leaf false)
def armplanref1_WithinVec (a0 : ((Int × Int) × ((Int × Int) × (Int × Int)))) (a1 : ((Int × Int) × ((Int × Int) × (Int × Int)))) : Bool := (t_armplanref1_WithinVec a0 a1).val
theorem run_armplanref1_WithinVec : ∀ x, runF (mkC ctys ceqs [(80, hd_armplanref1_Within)] [] noLoops) 200 51 Try.f51 (argsA [.pair (.pair (.int .i64) (.int .i64)) (.pair (.pair (.int .i64) (.int .i64)) (.pair (.int .i64) (.int .i64))), .pair (.pair (.int .i64) (.int .i64)) (.pair (.pair (.int .i64) (.int .i64)) (.pair (.int .i64) (.int .i64)))] x) [] (fun v h => toRes h [.bool] v) = (t_armplanref1_WithinVec x.1 x.2.1).optA (fun r => (r, ())) := by
  intro x; kernel_rfl
theorem fn_armplanref1_WithinVec : FnOk Try.prog 51 [.pair (.pair (.int .i64) (.int .i64)) (.pair (.pair (.int .i64) (.int .i64)) (.pair (.int .i64) (.int .i64))), .pair (.pair (.int .i64) (.int .i64)) (.pair (.pair (.int .i64) (.int .i64)) (.pair (.int .i64) (.int .i64)))] [.bool] (fun x => some ((fun r => (r, ())) (armplanref1_WithinVec x.1 x.2.1))) :=
  fn_tot (t := fun (x : Ar [.pair (.pair (.int .i64) (.int .i64)) (.pair (.pair (.int .i64) (.int .i64)) (.pair (.int .i64) (.int .i64))), .pair (.pair (.int .i64) (.int .i64)) (.pair (.pair (.int .i64) (.int .i64)) (.pair (.int .i64) (.int .i64)))]) => t_armplanref1_WithinVec x.1 x.2.1) (R := Bool) (Ts := [.bool]) (mk := (fun r => (r, ()))) (mkC_ok ctys_ok ceqs_ok (fns_cons ok_armplanref1_Within (fns_nil _)) (inl_nil _) noLoops_ok mixed) Try.func51 run_armplanref1_WithinVec (fun _ => by kernel_rfl)
def hd_armplanref1_WithinVec : Hd := dataHd [.pair (.pair (.int .i64) (.int .i64)) (.pair (.pair (.int .i64) (.int .i64)) (.pair (.int .i64) (.int .i64))), .pair (.pair (.int .i64) (.int .i64)) (.pair (.pair (.int .i64) (.int .i64)) (.pair (.int .i64) (.int .i64)))] [.bool] (fun x => some ((fun r => (r, ())) (armplanref1_WithinVec x.1 x.2.1)))
theorem ok_armplanref1_WithinVec : HdOk Try.prog 51 hd_armplanref1_WithinVec.sem ∧ Enters Try.prog 51 := data_ok fn_armplanref1_WithinVec Try.func51 (by kernel_rfl) (by kernel_rfl)

/- armplan/armplanref1.ApplyMat -/
def t_armplanref1_ApplyMat (a0 : (((Int × Int) × ((Int × Int) × (Int × Int))) × (((Int × Int) × ((Int × Int) × (Int × Int))) × ((Int × Int) × ((Int × Int) × (Int × Int)))))) (a1 : ((Int × Int) × ((Int × Int) × (Int × Int)))) : Tr ((Int × Int) × ((Int × Int) × (Int × Int))) :=
  let r1 : (Int × Int) := armplanref1_Mul a0.1.1 a1.1
  let r2 : (Int × Int) := armplanref1_Mul a0.1.2.1 a1.2.1
  let r3 : (Int × Int) := armplanref1_Add r1 r2
  let r4 : (Int × Int) := armplanref1_Mul a0.1.2.2 a1.2.2
  let r5 : (Int × Int) := armplanref1_Add r3 r4
  let r6 : (Int × Int) := armplanref1_Mul a0.2.1.1 a1.1
  let r7 : (Int × Int) := armplanref1_Mul a0.2.1.2.1 a1.2.1
  let r8 : (Int × Int) := armplanref1_Add r6 r7
  let r9 : (Int × Int) := armplanref1_Mul a0.2.1.2.2 a1.2.2
  let r10 : (Int × Int) := armplanref1_Add r8 r9
  let r11 : (Int × Int) := armplanref1_Mul a0.2.2.1 a1.1
  let r12 : (Int × Int) := armplanref1_Mul a0.2.2.2.1 a1.2.1
  let r13 : (Int × Int) := armplanref1_Add r11 r12
  let r14 : (Int × Int) := armplanref1_Mul a0.2.2.2.2 a1.2.2
  let r15 : (Int × Int) := armplanref1_Add r13 r14
  .leaf (r5, (r10, r15))
def armplanref1_ApplyMat (a0 : (((Int × Int) × ((Int × Int) × (Int × Int))) × (((Int × Int) × ((Int × Int) × (Int × Int))) × ((Int × Int) × ((Int × Int) × (Int × Int)))))) (a1 : ((Int × Int) × ((Int × Int) × (Int × Int)))) : ((Int × Int) × ((Int × Int) × (Int × Int))) := (t_armplanref1_ApplyMat a0 a1).val
theorem run_armplanref1_ApplyMat : ∀ x, runF (mkC ctys ceqs [(64, hd_armplanref1_Add), (100, hd_armplanref1_Mul)] [] noLoops) 200 73 Try.f73 (argsA [.pair (.pair (.pair (.int .i64) (.int .i64)) (.pair (.pair (.int .i64) (.int .i64)) (.pair (.int .i64) (.int .i64)))) (.pair (.pair (.pair (.int .i64) (.int .i64)) (.pair (.pair (.int .i64) (.int .i64)) (.pair (.int .i64) (.int .i64)))) (.pair (.pair (.int .i64) (.int .i64)) (.pair (.pair (.int .i64) (.int .i64)) (.pair (.int .i64) (.int .i64))))), .pair (.pair (.int .i64) (.int .i64)) (.pair (.pair (.int .i64) (.int .i64)) (.pair (.int .i64) (.int .i64)))] x) [] (fun v h => toRes h [.pair (.pair (.int .i64) (.int .i64)) (.pair (.pair (.int .i64) (.int .i64)) (.pair (.int .i64) (.int .i64)))] v) = (t_armplanref1_ApplyMat x.1 x.2.1).optA (fun r => (r, ())) := by
  intro x; kernel_rfl
theorem fn_armplanref1_ApplyMat : FnOk Try.prog 73 [.pair (.pair (.pair (.int .i64) (.int .i64)) (.pair (.pair (.int .i64) (.int .i64)) (.pair (.int .i64) (.int .i64)))) (.pair (.pair (.pair (.int .i64) (.int .i64)) (.pair (.pair (.int .i64) (.int .i64)) (.pair (.int .i64) (.int .i64)))) (.pair (.pair (.int .i64) (.int .i64)) (.pair (.pair (.int .i64) (.int .i64)) (.pair (.int .i64) (.int .i64))))), .pair (.pair (.int .i64) (.int .i64)) (.pair (.pair (.int .i64) (.int .i64)) (.pair (.int .i64) (.int .i64)))] [.pair (.pair (.int .i64) (.int .i64)) (.pair (.pair (.int .i64) (.int .i64)) (.pair (.int .i64) (.int .i64)))] (fun x => some ((fun r => (r, ())) (armplanref1_ApplyMat x.1 x.2.1))) :=
  fn_tot (t := fun (x : Ar [.pair (.pair (.pair (.int .i64) (.int .i64)) (.pair (.pair (.int .i64) (.int .i64)) (.pair (.int .i64) (.int .i64)))) (.pair (.pair (.pair (.int .i64) (.int .i64)) (.pair (.pair (.int .i64) (.int .i64)) (.pair (.int .i64) (.int .i64)))) (.pair (.pair (.int .i64) (.int .i64)) (.pair (.pair (.int .i64) (.int .i64)) (.pair (.int .i64) (.int .i64))))), .pair (.pair (.int .i64) (.int .i64)) (.pair (.pair (.int .i64) (.int .i64)) (.pair (.int .i64) (.int .i64)))]) => t_armplanref1_ApplyMat x.1 x.2.1) (R := ((Int × Int) × ((Int × Int) × (Int × Int)))) (Ts := [.pair (.pair (.int .i64) (.int .i64)) (.pair (.pair (.int .i64) (.int .i64)) (.pair (.int .i64) (.int .i64)))]) (mk := (fun r => (r, ()))) (mkC_ok ctys_ok ceqs_ok (fns_cons ok_armplanref1_Add (fns_cons ok_armplanref1_Mul (fns_nil _))) (inl_nil _) noLoops_ok mixed) Try.func73 run_armplanref1_ApplyMat (fun _ => by kernel_rfl)
def hd_armplanref1_ApplyMat : Hd := dataHd [.pair (.pair (.pair (.int .i64) (.int .i64)) (.pair (.pair (.int .i64) (.int .i64)) (.pair (.int .i64) (.int .i64)))) (.pair (.pair (.pair (.int .i64) (.int .i64)) (.pair (.pair (.int .i64) (.int .i64)) (.pair (.int .i64) (.int .i64)))) (.pair (.pair (.int .i64) (.int .i64)) (.pair (.pair (.int .i64) (.int .i64)) (.pair (.int .i64) (.int .i64))))), .pair (.pair (.int .i64) (.int .i64)) (.pair (.pair (.int .i64) (.int .i64)) (.pair (.int .i64) (.int .i64)))] [.pair (.pair (.int .i64) (.int .i64)) (.pair (.pair (.int .i64) (.int .i64)) (.pair (.int .i64) (.int .i64)))] (fun x => some ((fun r => (r, ())) (armplanref1_ApplyMat x.1 x.2.1)))
theorem ok_armplanref1_ApplyMat : HdOk Try.prog 73 hd_armplanref1_ApplyMat.sem ∧ Enters Try.prog 73 := data_ok fn_armplanref1_ApplyMat Try.func73 (by kernel_rfl) (by kernel_rfl)

/- armplan/matrix.Transpose -/
def t_matrix_Transpose (a0 : (((Int × Int) × ((Int × Int) × (Int × Int))) × (((Int × Int) × ((Int × Int) × (Int × Int))) × ((Int × Int) × ((Int × Int) × (Int × Int)))))) : Tr (((Int × Int) × ((Int × Int) × (Int × Int))) × (((Int × Int) × ((Int × Int) × (Int × Int))) × ((Int × Int) × ((Int × Int) × (Int × Int))))) :=
  .leaf ((a0.1.1, (a0.2.1.1, a0.2.2.1)), ((a0.1.2.1, (a0.2.1.2.1, a0.2.2.2.1)), (a0.1.2.2, (a0.2.1.2.2, a0.2.2.2.2))))
def matrix_Transpose (a0 : (((Int × Int) × ((Int × Int) × (Int × Int))) × (((Int × Int) × ((Int × Int) × (Int × Int))) × ((Int × Int) × ((Int × Int) × (Int × Int)))))) : (((Int × Int) × ((Int × Int) × (Int × Int))) × (((Int × Int) × ((Int × Int) × (Int × Int))) × ((Int × Int) × ((Int × Int) × (Int × Int))))) := (t_matrix_Transpose a0).val
theorem run_matrix_Transpose : ∀ x, runF (mkC ctys ceqs [] [] noLoops) 200 28 Try.f28 (argsA [.pair (.pair (.pair (.int .i64) (.int .i64)) (.pair (.pair (.int .i64) (.int .i64)) (.pair (.int .i64) (.int .i64)))) (.pair (.pair (.pair (.int .i64) (.int .i64)) (.pair (.pair (.int .i64) (.int .i64)) (.pair (.int .i64) (.int .i64)))) (.pair (.pair (.int .i64) (.int .i64)) (.pair (.pair (.int .i64) (.int .i64)) (.pair (.int .i64) (.int .i64)))))] x) [] (fun v h => toRes h [.pair (.pair (.pair (.int .i64) (.int .i64)) (.pair (.pair (.int .i64) (.int .i64)) (.pair (.int .i64) (.int .i64)))) (.pair (.pair (.pair (.int .i64) (.int .i64)) (.pair (.pair (.int .i64) (.int .i64)) (.pair (.int .i64) (.int .i64)))) (.pair (.pair (.int .i64) (.int .i64)) (.pair (.pair (.int .i64) (.int .i64)) (.pair (.int .i64) (.int .i64)))))] v) = (t_matrix_Transpose x.1).optA (fun r => (r, ())) := by
  intro x; kernel_rfl
theorem fn_matrix_Transpose : FnOk Try.prog 28 [.pair (.pair (.pair (.int .i64) (.int .i64)) (.pair (.pair (.int .i64) (.int .i64)) (.pair (.int .i64) (.int .i64)))) (.pair (.pair (.pair (.int .i64) (.int .i64)) (.pair (.pair (.int .i64) (.int .i64)) (.pair (.int .i64) (.int .i64)))) (.pair (.pair (.int .i64) (.int .i64)) (.pair (.pair (.int .i64) (.int .i64)) (.pair (.int .i64) (.int .i64)))))] [.pair (.pair (.pair (.int .i64) (.int .i64)) (.pair (.pair (.int .i64) (.int .i64)) (.pair (.int .i64) (.int .i64)))) (.pair (.pair (.pair (.int .i64) (.int .i64)) (.pair (.pair (.int .i64) (.int .i64)) (.pair (.int .i64) (.int .i64)))) (.pair (.pair (.int .i64) (.int .i64)) (.pair (.pair (.int .i64) (.int .i64)) (.pair (.int .i64) (.int .i64)))))] (fun x => some ((fun r => (r, ())) (matrix_Transpose x.1))) :=
  fn_tot (t := fun (x : Ar [.pair (.pair (.pair (.int .i64) (.int .i64)) (.pair (.pair (.int .i64) (.int .i64)) (.pair (.int .i64) (.int .i64)))) (.pair (.pair (.pair (.int .i64) (.int .i64)) (.pair (.pair (.int .i64) (.int .i64)) (.pair (.int .i64) (.int .i64)))) (.pair (.pair (.int .i64) (.int .i64)) (.pair (.pair (.int .i64) (.int .i64)) (.pair (.int .i64) (.int .i64)))))]) => t_matrix_Transpose x.1) (R := (((Int × Int) × ((Int × Int) × (Int × Int))) × (((Int × Int) × ((Int × Int) × (Int × Int))) × ((Int × Int) × ((Int × Int) × (Int × Int)))))) (Ts := [.pair (.pair (.pair (.int .i64) (.int .i64)) (.pair (.pair (.int .i64) (.int .i64)) (.pair (.int .i64) (.int .i64)))) (.pair (.pair (.pair (.int .i64) (.int .i64)) (.pair (.pair (.int .i64) (.int .i64)) (.pair (.int .i64) (.int .i64)))) (.pair (.pair (.int .i64) (.int .i64)) (.pair (.pair (.int .i64) (.int .i64)) (.pair (.int .i64) (.int .i64)))))]) (mk := (fun r => (r, ()))) (mkC_ok ctys_ok ceqs_ok (fns_nil _) (inl_nil _) noLoops_ok mixed) Try.func28 run_matrix_Transpose (fun _ => by kernel_rfl)
def hd_matrix_Transpose : Hd := dataHd [.pair (.pair (.pair (.int .i64) (.int .i64)) (.pair (.pair (.int .i64) (.int .i64)) (.pair (.int .i64) (.int .i64)))) (.pair (.pair (.pair (.int .i64) (.int .i64)) (.pair (.pair (.int .i64) (.int .i64)) (.pair (.int .i64) (.int .i64)))) (.pair (.pair (.int .i64) (.int .i64)) (.pair (.pair (.int .i64) (.int .i64)) (.pair (.int .i64) (.int .i64)))))] [.pair (.pair (.pair (.int .i64) (.int .i64)) (.pair (.pair (.int .i64) (.int .i64)) (.pair (.int .i64) (.int .i64)))) (.pair (.pair (.pair (.int .i64) (.int .i64)) (.pair (.pair (.int .i64) (.int .i64)) (.pair (.int .i64) (.int .i64)))) (.pair (.pair (.int .i64) (.int .i64)) (.pair (.pair (.int .i64) (.int .i64)) (.pair (.int .i64) (.int .i64)))))] (fun x => some ((fun r => (r, ())) (matrix_Transpose x.1)))
theorem ok_matrix_Transpose : HdOk Try.prog 28 hd_matrix_Transpose.sem ∧ Enters Try.prog 28 := data_ok fn_matrix_Transpose Try.func28 (by kernel_rfl) (by kernel_rfl)

/- armplan/matrix.limit -/
def t_matrix_limit (a0 : (Int × Int)) : Tr (Int × Int) :=
  let x1 : Int := if (-65536) > a0.1 then (-65536) else a0.1
  let x2 : Int := if 65536 < x1 then 65536 else x1
  let x3 : Int := if (-65536) > a0.2 then (-65536) else a0.2
  let x4 : Int := if 65536 < x3 then 65536 else x3
  .leaf (x2, x4)
def matrix_limit (a0 : (Int × Int)) : (Int × Int) := (t_matrix_limit a0).val
theorem run_matrix_limit : ∀ x, runF (mkC ctys ceqs [] [] noLoops) 200 68 Try.f68 (argsA [.pair (.int .i64) (.int .i64)] x) [] (fun v h => toRes h [.pair (.int .i64) (.int .i64)] v) = (t_matrix_limit x.1).optA (fun r => (r, ())) := by
  intro x; kernel_rfl
theorem fn_matrix_limit : FnOk Try.prog 68 [.pair (.int .i64) (.int .i64)] [.pair (.int .i64) (.int .i64)] (fun x => some ((fun r => (r, ())) (matrix_limit x.1))) :=
  fn_tot (t := fun (x : Ar [.pair (.int .i64) (.int .i64)]) => t_matrix_limit x.1) (R := (Int × Int)) (Ts := [.pair (.int .i64) (.int .i64)]) (mk := (fun r => (r, ()))) (mkC_ok ctys_ok ceqs_ok (fns_nil _) (inl_nil _) noLoops_ok mixed) Try.func68 run_matrix_limit (fun _ => by kernel_rfl)
def hd_matrix_limit : Hd := dataHd [.pair (.int .i64) (.int .i64)] [.pair (.int .i64) (.int .i64)] (fun x => some ((fun r => (r, ())) (matrix_limit x.1)))
theorem ok_matrix_limit : HdOk Try.prog 68 hd_matrix_limit.sem ∧ Enters Try.prog 68 := data_ok fn_matrix_limit Try.func68 (by kernel_rfl) (by kernel_rfl)

/- armplan/matrix.Compose -/
def t_matrix_Compose (a0 : (((Int × Int) × ((Int × Int) × (Int × Int))) × (((Int × Int) × ((Int × Int) × (Int × Int))) × ((Int × Int) × ((Int × Int) × (Int × Int)))))) (a1 : (((Int × Int) × ((Int × Int) × (Int × Int))) × (((Int × Int) × ((Int × Int) × (Int × Int))) × ((Int × Int) × ((Int × Int) × (Int × Int)))))) : Tr (((Int × Int) × ((Int × Int) × (Int × Int))) × (((Int × Int) × ((Int × Int) × (Int × Int))) × ((Int × Int) × ((Int × Int) × (Int × Int))))) :=
  let r1 : (((Int × Int) × ((Int × Int) × (Int × Int))) × (((Int × Int) × ((Int × Int) × (Int × Int))) × ((Int × Int) × ((Int × Int) × (Int × Int))))) := matrix_Transpose a1
  let r2 : (Int × Int) := matrix_sum a0.1 r1.1
  let r3 : (Int × Int) := matrix_limit r2
  let r4 : (Int × Int) := matrix_sum a0.1 r1.2.1
  let r5 : (Int × Int) := matrix_limit r4
  let r6 : (Int × Int) := matrix_sum a0.1 r1.2.2
  let r7 : (Int × Int) := matrix_limit r6
  let r8 : (Int × Int) := matrix_sum a0.2.1 r1.1
  let r9 : (Int × Int) := matrix_limit r8
  let r10 : (Int × Int) := matrix_sum a0.2.1 r1.2.1
  let r11 : (Int × Int) := matrix_limit r10
  let r12 : (Int × Int) := matrix_sum a0.2.1 r1.2.2
  let r13 : (Int × Int) := matrix_limit r12
  let r14 : (Int × Int) := matrix_sum a0.2.2 r1.1
  let r15 : (Int × Int) := matrix_limit r14
  let r16 : (Int × Int) := matrix_sum a0.2.2 r1.2.1
  let r17 : (Int × Int) := matrix_limit r16
  let r18 : (Int × Int) := matrix_sum a0.2.2 r1.2.2
  let r19 : (Int × Int) := matrix_limit r18
  .leaf ((r3, (r5, r7)), ((r9, (r11, r13)), (r15, (r17, r19))))
def matrix_Compose (a0 : (((Int × Int) × ((Int × Int) × (Int × Int))) × (((Int × Int) × ((Int × Int) × (Int × Int))) × ((Int × Int) × ((Int × Int) × (Int × Int)))))) (a1 : (((Int × Int) × ((Int × Int) × (Int × Int))) × (((Int × Int) × ((Int × Int) × (Int × Int))) × ((Int × Int) × ((Int × Int) × (Int × Int)))))) : (((Int × Int) × ((Int × Int) × (Int × Int))) × (((Int × Int) × ((Int × Int) × (Int × Int))) × ((Int × Int) × ((Int × Int) × (Int × Int))))) := (t_matrix_Compose a0 a1).val
theorem run_matrix_Compose : ∀ x, runF (mkC ctys ceqs [(28, hd_matrix_Transpose), (56, hd_matrix_sum), (68, hd_matrix_limit)] [] noLoops) 200 25 Try.f25 (argsA [.pair (.pair (.pair (.int .i64) (.int .i64)) (.pair (.pair (.int .i64) (.int .i64)) (.pair (.int .i64) (.int .i64)))) (.pair (.pair (.pair (.int .i64) (.int .i64)) (.pair (.pair (.int .i64) (.int .i64)) (.pair (.int .i64) (.int .i64)))) (.pair (.pair (.int .i64) (.int .i64)) (.pair (.pair (.int .i64) (.int .i64)) (.pair (.int .i64) (.int .i64))))), .pair (.pair (.pair (.int .i64) (.int .i64)) (.pair (.pair (.int .i64) (.int .i64)) (.pair (.int .i64) (.int .i64)))) (.pair (.pair (.pair (.int .i64) (.int .i64)) (.pair (.pair (.int .i64) (.int .i64)) (.pair (.int .i64) (.int .i64)))) (.pair (.pair (.int .i64) (.int .i64)) (.pair (.pair (.int .i64) (.int .i64)) (.pair (.int .i64) (.int .i64)))))] x) [] (fun v h => toRes h [.pair (.pair (.pair (.int .i64) (.int .i64)) (.pair (.pair (.int .i64) (.int .i64)) (.pair (.int .i64) (.int .i64)))) (.pair (.pair (.pair (.int .i64) (.int .i64)) (.pair (.pair (.int .i64) (.int .i64)) (.pair (.int .i64) (.int .i64)))) (.pair (.pair (.int .i64) (.int .i64)) (.pair (.pair (.int .i64) (.int .i64)) (.pair (.int .i64) (.int .i64)))))] v) = (t_matrix_Compose x.1 x.2.1).optA (fun r => (r, ())) := by
  intro x; kernel_rfl
theorem fn_matrix_Compose : FnOk Try.prog 25 [.pair (.pair (.pair (.int .i64) (.int .i64)) (.pair (.pair (.int .i64) (.int .i64)) (.pair (.int .i64) (.int .i64)))) (.pair (.pair (.pair (.int .i64) (.int .i64)) (.pair (.pair (.int .i64) (.int .i64)) (.pair (.int .i64) (.int .i64)))) (.pair (.pair (.int .i64) (.int .i64)) (.pair (.pair (.int .i64) (.int .i64)) (.pair (.int .i64) (.int .i64))))), .pair (.pair (.pair (.int .i64) (.int .i64)) (.pair (.pair (.int .i64) (.int .i64)) (.pair (.int .i64) (.int .i64)))) (.pair (.pair (.pair (.int .i64) (.int .i64)) (.pair (.pair (.int .i64) (.int .i64)) (.pair (.int .i64) (.int .i64)))) (.pair (.pair (.int .i64) (.int .i64)) (.pair (.pair (.int .i64) (.int .i64)) (.pair (.int .i64) (.int .i64)))))] [.pair (.pair (.pair (.int .i64) (.int .i64)) (.pair (.pair (.int .i64) (.int .i64)) (.pair (.int .i64) (.int .i64)))) (.pair (.pair (.pair (.int .i64) (.int .i64)) (.pair (.pair (.int .i64) (.int .i64)) (.pair (.int .i64) (.int .i64)))) (.pair (.pair (.int .i64) (.int .i64)) (.pair (.pair (.int .i64) (.int .i64)) (.pair (.int .i64) (.int .i64)))))] (fun x => some ((fun r => (r, ())) (matrix_Compose x.1 x.2.1))) :=
  fn_tot (t := fun (x : Ar [.pair (.pair (.pair (.int .i64) (.int .i64)) (.pair (.pair (.int .i64) (.int .i64)) (.pair (.int .i64) (.int .i64)))) (.pair (.pair (.pair (.int .i64) (.int .i64)) (.pair (.pair (.int .i64) (.int .i64)) (.pair (.int .i64) (.int .i64)))) (.pair (.pair (.int .i64) (.int .i64)) (.pair (.pair (.int .i64) (.int .i64)) (.pair (.int .i64) (.int .i64))))), .pair (.pair (.pair (.int .i64) (.int .i64)) (.pair (.pair (.int .i64) (.int .i64)) (.pair (.int .i64) (.int .i64)))) (.pair (.pair (.pair (.int .i64) (.int .i64)) (.pair (.pair (.int .i64) (.int .i64)) (.pair (.int .i64) (.int .i64)))) (.pair (.pair (.int .i64) (.int .i64)) (.pair (.pair (.int .i64) (.int .i64)) (.pair (.int .i64) (.int .i64)))))]) => t_matrix_Compose x.1 x.2.1) (R := (((Int × Int) × ((Int × Int) × (Int × Int))) × (((Int × Int) × ((Int × Int) × (Int × Int))) × ((Int × Int) × ((Int × Int) × (Int × Int)))))) (Ts := [.pair (.pair (.pair (.int .i64) (.int .i64)) (.pair (.pair (.int .i64) (.int .i64)) (.pair (.int .i64) (.int .i64)))) (.pair (.pair (.pair (.int .i64) (.int .i64)) (.pair (.pair (.int .i64) (.int .i64)) (.pair (.int .i64) (.int .i64)))) (.pair (.pair (.int .i64) (.int .i64)) (.pair (.pair (.int .i64) (.int .i64)) (.pair (.int .i64) (.int .i64)))))]) (mk := (fun r => (r, ()))) (mkC_ok ctys_ok ceqs_ok (fns_cons ok_matrix_Transpose (fns_cons ok_matrix_sum (fns_cons ok_matrix_limit (fns_nil _)))) (inl_nil _) noLoops_ok mixed) Try.func25 run_matrix_Compose (fun _ => by kernel_rfl)
def hd_matrix_Compose : Hd := dataHd [.pair (.pair (.pair (.int .i64) (.int .i64)) (.pair (.pair (.int .i64) (.int .i64)) (.pair (.int .i64) (.int .i64)))) (.pair (.pair (.pair (.int .i64) (.int .i64)) (.pair (.pair (.int .i64) (.int .i64)) (.pair (.int .i64) (.int .i64)))) (.pair (.pair (.int .i64) (.int .i64)) (.pair (.pair (.int .i64) (.int .i64)) (.pair (.int .i64) (.int .i64))))), .pair (.pair (.pair (.int .i64) (.int .i64)) (.pair (.pair (.int .i64) (.int .i64)) (.pair (.int .i64) (.int .i64)))) (.pair (.pair (.pair (.int .i64) (.int .i64)) (.pair (.pair (.int .i64) (.int .i64)) (.pair (.int .i64) (.int .i64)))) (.pair (.pair (.int .i64) (.int .i64)) (.pair (.pair (.int .i64) (.int .i64)) (.pair (.int .i64) (.int .i64)))))] [.pair (.pair (.pair (.int .i64) (.int .i64)) (.pair (.pair (.int .i64) (.int .i64)) (.pair (.int .i64) (.int .i64)))) (.pair (.pair (.pair (.int .i64) (.int .i64)) (.pair (.pair (.int .i64) (.int .i64)) (.pair (.int .i64) (.int .i64)))) (.pair (.pair (.int .i64) (.int .i64)) (.pair (.pair (.int .i64) (.int .i64)) (.pair (.int .i64) (.int .i64)))))] (fun x => some ((fun r => (r, ())) (matrix_Compose x.1 x.2.1)))
theorem ok_matrix_Compose : HdOk Try.prog 25 hd_matrix_Compose.sem ∧ Enters Try.prog 25 := data_ok fn_matrix_Compose Try.func25 (by kernel_rfl) (by kernel_rfl)

/- armplan/armplanref1.Unit -/
def t_armplanref1_Unit : Tr (((Int × Int) × ((Int × Int) × (Int × Int))) × (((Int × Int) × ((Int × Int) × (Int × Int))) × ((Int × Int) × ((Int × Int) × (Int × Int))))) :=
  let r1 : (Int × Int) := armplanref1_Of 65536
  .leaf ((r1, ((0, 0), (0, 0))), (((0, 0), (r1, (0, 0))), ((0, 0), ((0, 0), r1))))
def armplanref1_Unit : (((Int × Int) × ((Int × Int) × (Int × Int))) × (((Int × Int) × ((Int × Int) × (Int × Int))) × ((Int × Int) × ((Int × Int) × (Int × Int))))) := t_armplanref1_Unit.val
theorem run_armplanref1_Unit : ∀ x, runF (mkC ctys ceqs [(21, hd_armplanref1_Of)] [] noLoops) 200 27 Try.f27 (argsA [] x) [] (fun v h => toRes h [.pair (.pair (.pair (.int .i64) (.int .i64)) (.pair (.pair (.int .i64) (.int .i64)) (.pair (.int .i64) (.int .i64)))) (.pair (.pair (.pair (.int .i64) (.int .i64)) (.pair (.pair (.int .i64) (.int .i64)) (.pair (.int .i64) (.int .i64)))) (.pair (.pair (.int .i64) (.int .i64)) (.pair (.pair (.int .i64) (.int .i64)) (.pair (.int .i64) (.int .i64)))))] v) = (t_armplanref1_Unit ).optA (fun r => (r, ())) := by
  intro x; kernel_rfl
theorem fn_armplanref1_Unit : FnOk Try.prog 27 [] [.pair (.pair (.pair (.int .i64) (.int .i64)) (.pair (.pair (.int .i64) (.int .i64)) (.pair (.int .i64) (.int .i64)))) (.pair (.pair (.pair (.int .i64) (.int .i64)) (.pair (.pair (.int .i64) (.int .i64)) (.pair (.int .i64) (.int .i64)))) (.pair (.pair (.int .i64) (.int .i64)) (.pair (.pair (.int .i64) (.int .i64)) (.pair (.int .i64) (.int .i64)))))] (fun _ => some ((fun r => (r, ())) armplanref1_Unit)) :=
  fn_tot (t := fun (_ : Ar []) => t_armplanref1_Unit ) (R := (((Int × Int) × ((Int × Int) × (Int × Int))) × (((Int × Int) × ((Int × Int) × (Int × Int))) × ((Int × Int) × ((Int × Int) × (Int × Int)))))) (Ts := [.pair (.pair (.pair (.int .i64) (.int .i64)) (.pair (.pair (.int .i64) (.int .i64)) (.pair (.int .i64) (.int .i64)))) (.pair (.pair (.pair (.int .i64) (.int .i64)) (.pair (.pair (.int .i64) (.int .i64)) (.pair (.int .i64) (.int .i64)))) (.pair (.pair (.int .i64) (.int .i64)) (.pair (.pair (.int .i64) (.int .i64)) (.pair (.int .i64) (.int .i64)))))]) (mk := (fun r => (r, ()))) (mkC_ok ctys_ok ceqs_ok (fns_cons ok_armplanref1_Of (fns_nil _)) (inl_nil _) noLoops_ok mixed) Try.func27 run_armplanref1_Unit (fun _ => by kernel_rfl)
def hd_armplanref1_Unit : Hd := dataHd [] [.pair (.pair (.pair (.int .i64) (.int .i64)) (.pair (.pair (.int .i64) (.int .i64)) (.pair (.int .i64) (.int .i64)))) (.pair (.pair (.pair (.int .i64) (.int .i64)) (.pair (.pair (.int .i64) (.int .i64)) (.pair (.int .i64) (.int .i64)))) (.pair (.pair (.int .i64) (.int .i64)) (.pair (.pair (.int .i64) (.int .i64)) (.pair (.int .i64) (.int .i64)))))] (fun _ => some ((fun r => (r, ())) armplanref1_Unit))
theorem ok_armplanref1_Unit : HdOk Try.prog 27 hd_armplanref1_Unit.sem ∧ Enters Try.prog 27 := data_ok fn_armplanref1_Unit Try.func27 (by kernel_rfl) (by kernel_rfl)

/- armplan/matrix.WithinMat -/
def t_matrix_WithinMat (a0 : (((Int × Int) × ((Int × Int) × (Int × Int))) × (((Int × Int) × ((Int × Int) × (Int × Int))) × ((Int × Int) × ((Int × Int) × (Int × Int)))))) (a1 : (((Int × Int) × ((Int × Int) × (Int × Int))) × (((Int × Int) × ((Int × Int) × (Int × Int))) × ((Int × Int) × ((Int × Int) × (Int × Int)))))) : Tr Bool :=
  let r1 : Bool := matrix_Within a0.1 a1.1
  .br ((!r1)) (
   .leaf false) (
   let r2 : Bool := matrix_Within a0.2.1 a1.2.1
   .br ((!r2)) (
    .leaf false) (
    let r3 : Bool := matrix_Within a0.2.2 a1.2.2
    .br ((!r3)) (
     .leaf false) (
     .leaf true)))
def matrix_WithinMat (a0 : (((Int × Int) × ((Int × Int) × (Int × Int))) × (((Int × Int) × ((Int × Int) × (Int × Int))) × ((Int × Int) × ((Int × Int) × (Int × Int)))))) (a1 : (((Int × Int) × ((Int × Int) × (Int × Int))) × (((Int × Int) × ((Int × Int) × (Int × Int))) × ((Int × Int) × ((Int × Int) × (Int × Int)))))) : Bool := (t_matrix_WithinMat a0 a1).val
theorem run_matrix_WithinMat : ∀ x, runF (mkC ctys ceqs [(67, hd_matrix_Within)] [] noLoops) 200 26 Try.f26 (argsA [.pair (.pair (.pair (.int .i64) (.int .i64)) (.pair (.pair (.int .i64) (.int .i64)) (.pair (.int .i64) (.int .i64)))) (.pair (.pair (.pair (.int .i64) (.int .i64)) (.pair (.pair (.int .i64) (.int .i64)) (.pair (.int .i64) (.int .i64)))) (.pair (.pair (.int .i64) (.int .i64)) (.pair (.pair (.int .i64) (.int .i64)) (.pair (.int .i64) (.int .i64))))), .pair (.pair (.pair (.int .i64) (.int .i64)) (.pair (.pair (.int .i64) (.int .i64)) (.pair (.int .i64) (.int .i64)))) (.pair (.pair (.pair (.int .i64) (.int .i64)) (.pair (.pair (.int .i64) (.int .i64)) (.pair (.int .i64) (.int .i64)))) (.pair (.pair (.int .i64) (.int .i64)) (.pair (.pair (.int .i64) (.int .i64)) (.pair (.int .i64) (.int .i64)))))] x) [] (fun v h => toRes h [.bool] v) = (t_matrix_WithinMat x.1 x.2.1).optA (fun r => (r, ())) := by
  intro x; kernel_rfl
theorem fn_matrix_WithinMat : FnOk Try.prog 26 [.pair (.pair (.pair (.int .i64) (.int .i64)) (.pair (.pair (.int .i64) (.int .i64)) (.pair (.int .i64) (.int .i64)))) (.pair (.pair (.pair (.int .i64) (.int .i64)) (.pair (.pair (.int .i64) (.int .i64)) (.pair (.int .i64) (.int .i64)))) (.pair (.pair (.int .i64) (.int .i64)) (.pair (.pair (.int .i64) (.int .i64)) (.pair (.int .i64) (.int .i64))))), .pair (.pair (.pair (.int .i64) (.int .i64)) (.pair (.pair (.int .i64) (.int .i64)) (.pair (.int .i64) (.int .i64)))) (.pair (.pair (.pair (.int .i64) (.int .i64)) (.pair (.pair (.int .i64) (.int .i64)) (.pair (.int .i64) (.int .i64)))) (.pair (.pair (.int .i64) (.int .i64)) (.pair (.pair (.int .i64) (.int .i64)) (.pair (.int .i64) (.int .i64)))))] [.bool] (fun x => some ((fun r => (r, ())) (matrix_WithinMat x.1 x.2.1))) :=
  fn_tot (t := fun (x : Ar [.pair (.pair (.pair (.int .i64) (.int .i64)) (.pair (.pair (.int .i64) (.int .i64)) (.pair (.int .i64) (.int .i64)))) (.pair (.pair (.pair (.int .i64) (.int .i64)) (.pair (.pair (.int .i64) (.int .i64)) (.pair (.int .i64) (.int .i64)))) (.pair (.pair (.int .i64) (.int .i64)) (.pair (.pair (.int .i64) (.int .i64)) (.pair (.int .i64) (.int .i64))))), .pair (.pair (.pair (.int .i64) (.int .i64)) (.pair (.pair (.int .i64) (.int .i64)) (.pair (.int .i64) (.int .i64)))) (.pair (.pair (.pair (.int .i64) (.int .i64)) (.pair (.pair (.int .i64) (.int .i64)) (.pair (.int .i64) (.int .i64)))) (.pair (.pair (.int .i64) (.int .i64)) (.pair (.pair (.int .i64) (.int .i64)) (.pair (.int .i64) (.int .i64)))))]) => t_matrix_WithinMat x.1 x.2.1) (R := Bool) (Ts := [.bool]) (mk := (fun r => (r, ()))) (mkC_ok ctys_ok ceqs_ok (fns_cons ok_matrix_Within (fns_nil _)) (inl_nil _) noLoops_ok mixed) Try.func26 run_matrix_WithinMat (fun _ => by kernel_rfl)
def hd_matrix_WithinMat : Hd := dataHd [.pair (.pair (.pair (.int .i64) (.int .i64)) (.pair (.pair (.int .i64) (.int .i64)) (.pair (.int .i64) (.int .i64)))) (.pair (.pair (.pair (.int .i64) (.int .i64)) (.pair (.pair (.int .i64) (.int .i64)) (.pair (.int .i64) (.int .i64)))) (.pair (.pair (.int .i64) (.int .i64)) (.pair (.pair (.int .i64) (.int .i64)) (.pair (.int .i64) (.int .i64))))), .pair (.pair (.pair (.int .i64) (.int .i64)) (.pair (.pair (.int .i64) (.int .i64)) (.pair (.int .i64) (.int .i64)))) (.pair (.pair (.pair (.int .i64) (.int .i64)) (.pair (.pair (.int .i64) (.int .i64)) (.pair (.int .i64) (.int .i64)))) (.pair (.pair (.int .i64) (.int .i64)) (.pair (.pair (.int .i64) (.int .i64)) (.pair (.int .i64) (.int .i64)))))] [.bool] (fun x => some ((fun r => (r, ())) (matrix_WithinMat x.1 x.2.1)))
theorem ok_matrix_WithinMat : HdOk Try.prog 26 hd_matrix_WithinMat.sem ∧ Enters Try.prog 26 := data_ok fn_matrix_WithinMat Try.func26 (by kernel_rfl) (by kernel_rfl)

/- armplan/armplanlaw4.MatrixOrthogonal -/
def t_armplanlaw4_MatrixOrthogonal (a0 : List (Int)) : Tr Bool :=
  let r1 : (Int × (List (Int) × Int)) := armplanmake_Source_Next (a0, 0) 3
  .br (dom_armplanmake_Source_Next (a0, 0) 3) (
   let r2 : (Int × (List (Int) × Int)) := armplanmake_Source_Signed r1.2 70000
   .br (dom_armplanmake_Source_Signed r1.2 70000) (
    let r3 : (Int × Int) := armplanref1_Of r2.1
    let r4 : (((Int × Int) × ((Int × Int) × (Int × Int))) × (((Int × Int) × ((Int × Int) × (Int × Int))) × ((Int × Int) × ((Int × Int) × (Int × Int))))) := matrix_Turn r1.1 r3
    let r5 : (Int × (List (Int) × Int)) := armplanmake_Source_Next r2.2 3
    .br (dom_armplanmake_Source_Next r2.2 3) (
     let r6 : (Int × (List (Int) × Int)) := armplanmake_Source_Signed r5.2 70000
     .br (dom_armplanmake_Source_Signed r5.2 70000) (
      let r7 : (Int × Int) := armplanref1_Of r6.1
      let r8 : (((Int × Int) × ((Int × Int) × (Int × Int))) × (((Int × Int) × ((Int × Int) × (Int × Int))) × ((Int × Int) × ((Int × Int) × (Int × Int))))) := matrix_Turn r5.1 r7
      let r9 : (((Int × Int) × ((Int × Int) × (Int × Int))) × (((Int × Int) × ((Int × Int) × (Int × Int))) × ((Int × Int) × ((Int × Int) × (Int × Int))))) := matrix_Compose r4 r8
      let r10 : Bool := armplanlaw4_awake
      .br (r10) (
       let r11 : (((Int × Int) × ((Int × Int) × (Int × Int))) × (((Int × Int) × ((Int × Int) × (Int × Int))) × ((Int × Int) × ((Int × Int) × (Int × Int))))) := armplanref1_Unit
       let r12 : (((Int × Int) × ((Int × Int) × (Int × Int))) × (((Int × Int) × ((Int × Int) × (Int × Int))) × ((Int × Int) × ((Int × Int) × (Int × Int))))) := matrix_Transpose r9
       let r13 : (((Int × Int) × ((Int × Int) × (Int × Int))) × (((Int × Int) × ((Int × Int) × (Int × Int))) × ((Int × Int) × ((Int × Int) × (Int × Int))))) := matrix_Compose r9 r12
       let r14 : Bool := matrix_WithinMat r11 r13
       .br (r14) (
        let r15 : (((Int × Int) × ((Int × Int) × (Int × Int))) × (((Int × Int) × ((Int × Int) × (Int × Int))) × ((Int × Int) × ((Int × Int) × (Int × Int))))) := armplanref1_Unit
        let r16 : (((Int × Int) × ((Int × Int) × (Int × Int))) × (((Int × Int) × ((Int × Int) × (Int × Int))) × ((Int × Int) × ((Int × Int) × (Int × Int))))) := matrix_Transpose r9
        let r17 : (((Int × Int) × ((Int × Int) × (Int × Int))) × (((Int × Int) × ((Int × Int) × (Int × Int))) × ((Int × Int) × ((Int × Int) × (Int × Int))))) := matrix_Compose r16 r9
        let r18 : Bool := matrix_WithinMat r15 r17
        .leaf r18) (
        .leaf false)) (
       .leaf false)) .fail) .fail) .fail) .fail
def armplanlaw4_MatrixOrthogonal (a0 : List (Int)) : Bool := (t_armplanlaw4_MatrixOrthogonal a0).val
def dom_armplanlaw4_MatrixOrthogonal (a0 : List (Int)) : Bool := (t_armplanlaw4_MatrixOrthogonal a0).dom
theorem run_armplanlaw4_MatrixOrthogonal : ∀ x, runF (mkC ctys ceqs [(17, hd_armplanmake_Source_Signed), (19, hd_matrix_Turn), (20, hd_armplanmake_Source_Next), (21, hd_armplanref1_Of), (24, hd_armplanlaw4_awake), (25, hd_matrix_Compose), (26, hd_matrix_WithinMat), (27, hd_armplanref1_Unit), (28, hd_matrix_Transpose)] [(15, Try.f15)] noLoops) 200 4 Try.f4 (argsA [.list (.int .i64)] x) [] (fun v h => toRes h [.bool] v) = (t_armplanlaw4_MatrixOrthogonal x.1).optA (fun r => (r, ())) := by
  intro x; kernel_rfl
theorem fn_armplanlaw4_MatrixOrthogonal : FnOk Try.prog 4 [.list (.int .i64)] [.bool] (fun x => bif dom_armplanlaw4_MatrixOrthogonal x.1 then some ((fun r => (r, ())) (armplanlaw4_MatrixOrthogonal x.1)) else none) :=
  fn_part (t := fun (x : Ar [.list (.int .i64)]) => t_armplanlaw4_MatrixOrthogonal x.1) (R := Bool) (Ts := [.bool]) (mk := (fun r => (r, ()))) (mkC_ok ctys_ok ceqs_ok (fns_cons ok_armplanmake_Source_Signed (fns_cons ok_matrix_Turn (fns_cons ok_armplanmake_Source_Next (fns_cons ok_armplanref1_Of (fns_cons ok_armplanlaw4_awake (fns_cons ok_matrix_Compose (fns_cons ok_matrix_WithinMat (fns_cons ok_armplanref1_Unit (fns_cons ok_matrix_Transpose (fns_nil _)))))))))) (inl_cons Try.func15 (by kernel_rfl) (inl_nil _)) noLoops_ok mixed) Try.func4 run_armplanlaw4_MatrixOrthogonal
def hd_armplanlaw4_MatrixOrthogonal : Hd := guardHd [.list (.int .i64)] [.bool] (fun x => dom_armplanlaw4_MatrixOrthogonal x.1) (fun x => (fun r => (r, ())) (armplanlaw4_MatrixOrthogonal x.1))
theorem ok_armplanlaw4_MatrixOrthogonal : HdOk Try.prog 4 hd_armplanlaw4_MatrixOrthogonal.sem ∧ Enters Try.prog 4 := guard_ok fn_armplanlaw4_MatrixOrthogonal Try.func4 (by kernel_rfl) (by kernel_rfl)

/- armplan/matrix.Identity -/
def t_matrix_Identity : Tr (((Int × Int) × ((Int × Int) × (Int × Int))) × (((Int × Int) × ((Int × Int) × (Int × Int))) × ((Int × Int) × ((Int × Int) × (Int × Int))))) :=
  let r1 : (Int × Int) := matrix_one
  let r2 : (Int × Int) := matrix_one
  let r3 : (Int × Int) := matrix_one
  .leaf ((r1, ((0, 0), (0, 0))), (((0, 0), (r2, (0, 0))), ((0, 0), ((0, 0), r3))))
def matrix_Identity : (((Int × Int) × ((Int × Int) × (Int × Int))) × (((Int × Int) × ((Int × Int) × (Int × Int))) × ((Int × Int) × ((Int × Int) × (Int × Int))))) := t_matrix_Identity.val
theorem run_matrix_Identity : ∀ x, runF (mkC ctys ceqs [(60, hd_matrix_one)] [] noLoops) 200 70 Try.f70 (argsA [] x) [] (fun v h => toRes h [.pair (.pair (.pair (.int .i64) (.int .i64)) (.pair (.pair (.int .i64) (.int .i64)) (.pair (.int .i64) (.int .i64)))) (.pair (.pair (.pair (.int .i64) (.int .i64)) (.pair (.pair (.int .i64) (.int .i64)) (.pair (.int .i64) (.int .i64)))) (.pair (.pair (.int .i64) (.int .i64)) (.pair (.pair (.int .i64) (.int .i64)) (.pair (.int .i64) (.int .i64)))))] v) = (t_matrix_Identity ).optA (fun r => (r, ())) := by
  intro x; kernel_rfl
theorem fn_matrix_Identity : FnOk Try.prog 70 [] [.pair (.pair (.pair (.int .i64) (.int .i64)) (.pair (.pair (.int .i64) (.int .i64)) (.pair (.int .i64) (.int .i64)))) (.pair (.pair (.pair (.int .i64) (.int .i64)) (.pair (.pair (.int .i64) (.int .i64)) (.pair (.int .i64) (.int .i64)))) (.pair (.pair (.int .i64) (.int .i64)) (.pair (.pair (.int .i64) (.int .i64)) (.pair (.int .i64) (.int .i64)))))] (fun _ => some ((fun r => (r, ())) matrix_Identity)) :=
  fn_tot (t := fun (_ : Ar []) => t_matrix_Identity ) (R := (((Int × Int) × ((Int × Int) × (Int × Int))) × (((Int × Int) × ((Int × Int) × (Int × Int))) × ((Int × Int) × ((Int × Int) × (Int × Int)))))) (Ts := [.pair (.pair (.pair (.int .i64) (.int .i64)) (.pair (.pair (.int .i64) (.int .i64)) (.pair (.int .i64) (.int .i64)))) (.pair (.pair (.pair (.int .i64) (.int .i64)) (.pair (.pair (.int .i64) (.int .i64)) (.pair (.int .i64) (.int .i64)))) (.pair (.pair (.int .i64) (.int .i64)) (.pair (.pair (.int .i64) (.int .i64)) (.pair (.int .i64) (.int .i64)))))]) (mk := (fun r => (r, ()))) (mkC_ok ctys_ok ceqs_ok (fns_cons ok_matrix_one (fns_nil _)) (inl_nil _) noLoops_ok mixed) Try.func70 run_matrix_Identity (fun _ => by kernel_rfl)
def hd_matrix_Identity : Hd := dataHd [] [.pair (.pair (.pair (.int .i64) (.int .i64)) (.pair (.pair (.int .i64) (.int .i64)) (.pair (.int .i64) (.int .i64)))) (.pair (.pair (.pair (.int .i64) (.int .i64)) (.pair (.pair (.int .i64) (.int .i64)) (.pair (.int .i64) (.int .i64)))) (.pair (.pair (.int .i64) (.int .i64)) (.pair (.pair (.int .i64) (.int .i64)) (.pair (.int .i64) (.int .i64)))))] (fun _ => some ((fun r => (r, ())) matrix_Identity))
theorem ok_matrix_Identity : HdOk Try.prog 70 hd_matrix_Identity.sem ∧ Enters Try.prog 70 := data_ok fn_matrix_Identity Try.func70 (by kernel_rfl) (by kernel_rfl)

/- armplan/armplanref1.ComposeMat -/
def t_armplanref1_ComposeMat (a0 : (((Int × Int) × ((Int × Int) × (Int × Int))) × (((Int × Int) × ((Int × Int) × (Int × Int))) × ((Int × Int) × ((Int × Int) × (Int × Int)))))) (a1 : (((Int × Int) × ((Int × Int) × (Int × Int))) × (((Int × Int) × ((Int × Int) × (Int × Int))) × ((Int × Int) × ((Int × Int) × (Int × Int)))))) : Tr (((Int × Int) × ((Int × Int) × (Int × Int))) × (((Int × Int) × ((Int × Int) × (Int × Int))) × ((Int × Int) × ((Int × Int) × (Int × Int))))) :=
  let r1 : (Int × Int) := armplanref1_Mul a0.1.1 a1.1.1
  let r2 : (Int × Int) := armplanref1_Mul a0.1.2.1 a1.2.1.1
  let r3 : (Int × Int) := armplanref1_Add r1 r2
  let r4 : (Int × Int) := armplanref1_Mul a0.1.2.2 a1.2.2.1
  let r5 : (Int × Int) := armplanref1_Add r3 r4
  let x6 : Int := if 65536 < r5.1 then 65536 else r5.1
  let x7 : Int := if x6 > (-65536) then x6 else (-65536)
  let x8 : Int := if 65536 < r5.2 then 65536 else r5.2
  let x9 : Int := if x8 > (-65536) then x8 else (-65536)
  let r10 : (Int × Int) := armplanref1_Mul a0.1.1 a1.1.2.1
  let r11 : (Int × Int) := armplanref1_Mul a0.1.2.1 a1.2.1.2.1
  let r12 : (Int × Int) := armplanref1_Add r10 r11
  let r13 : (Int × Int) := armplanref1_Mul a0.1.2.2 a1.2.2.2.1
  let r14 : (Int × Int) := armplanref1_Add r12 r13
  let x15 : Int := if 65536 < r14.1 then 65536 else r14.1
  let x16 : Int := if x15 > (-65536) then x15 else (-65536)
  let x17 : Int := if 65536 < r14.2 then 65536 else r14.2
  let x18 : Int := if x17 > (-65536) then x17 else (-65536)
  let r19 : (Int × Int) := armplanref1_Mul a0.1.1 a1.1.2.2
  let r20 : (Int × Int) := armplanref1_Mul a0.1.2.1 a1.2.1.2.2
  let r21 : (Int × Int) := armplanref1_Add r19 r20
  let r22 : (Int × Int) := armplanref1_Mul a0.1.2.2 a1.2.2.2.2
  let r23 : (Int × Int) := armplanref1_Add r21 r22
  let x24 : Int := if 65536 < r23.1 then 65536 else r23.1
  let x25 : Int := if x24 > (-65536) then x24 else (-65536)
  let x26 : Int := if 65536 < r23.2 then 65536 else r23.2
  let x27 : Int := if x26 > (-65536) then x26 else (-65536)
  let r28 : (Int × Int) := armplanref1_Mul a0.2.1.1 a1.1.1
  let r29 : (Int × Int) := armplanref1_Mul a0.2.1.2.1 a1.2.1.1
  let r30 : (Int × Int) := armplanref1_Add r28 r29
  let r31 : (Int × Int) := armplanref1_Mul a0.2.1.2.2 a1.2.2.1
  let r32 : (Int × Int) := armplanref1_Add r30 r31
  let x33 : Int := if 65536 < r32.1 then 65536 else r32.1
  let x34 : Int := if x33 > (-65536) then x33 else (-65536)
  let x35 : Int := if 65536 < r32.2 then 65536 else r32.2
  let x36 : Int := if x35 > (-65536) then x35 else (-65536)
  let r37 : (Int × Int) := armplanref1_Mul a0.2.1.1 a1.1.2.1
  let r38 : (Int × Int) := armplanref1_Mul a0.2.1.2.1 a1.2.1.2.1
  let r39 : (Int × Int) := armplanref1_Add r37 r38
  let r40 : (Int × Int) := armplanref1_Mul a0.2.1.2.2 a1.2.2.2.1
  let r41 : (Int × Int) := armplanref1_Add r39 r40
  let x42 : Int := if 65536 < r41.1 then 65536 else r41.1
  let x43 : Int := if x42 > (-65536) then x42 else (-65536)
  let x44 : Int := if 65536 < r41.2 then 65536 else r41.2
  let x45 : Int := if x44 > (-65536) then x44 else (-65536)
  let r46 : (Int × Int) := armplanref1_Mul a0.2.1.1 a1.1.2.2
  let r47 : (Int × Int) := armplanref1_Mul a0.2.1.2.1 a1.2.1.2.2
  let r48 : (Int × Int) := armplanref1_Add r46 r47
  let r49 : (Int × Int) := armplanref1_Mul a0.2.1.2.2 a1.2.2.2.2
  let r50 : (Int × Int) := armplanref1_Add r48 r49
  let x51 : Int := if 65536 < r50.1 then 65536 else r50.1
  let x52 : Int := if x51 > (-65536) then x51 else (-65536)
  let x53 : Int := if 65536 < r50.2 then 65536 else r50.2
  let x54 : Int := if x53 > (-65536) then x53 else (-65536)
  let r55 : (Int × Int) := armplanref1_Mul a0.2.2.1 a1.1.1
  let r56 : (Int × Int) := armplanref1_Mul a0.2.2.2.1 a1.2.1.1
  let r57 : (Int × Int) := armplanref1_Add r55 r56
  let r58 : (Int × Int) := armplanref1_Mul a0.2.2.2.2 a1.2.2.1
  let r59 : (Int × Int) := armplanref1_Add r57 r58
  let x60 : Int := if 65536 < r59.1 then 65536 else r59.1
  let x61 : Int := if x60 > (-65536) then x60 else (-65536)
  let x62 : Int := if 65536 < r59.2 then 65536 else r59.2
  let x63 : Int := if x62 > (-65536) then x62 else (-65536)
  let r64 : (Int × Int) := armplanref1_Mul a0.2.2.1 a1.1.2.1
  let r65 : (Int × Int) := armplanref1_Mul a0.2.2.2.1 a1.2.1.2.1
  let r66 : (Int × Int) := armplanref1_Add r64 r65
  let r67 : (Int × Int) := armplanref1_Mul a0.2.2.2.2 a1.2.2.2.1
  let r68 : (Int × Int) := armplanref1_Add r66 r67
  let x69 : Int := if 65536 < r68.1 then 65536 else r68.1
  let x70 : Int := if x69 > (-65536) then x69 else (-65536)
  let x71 : Int := if 65536 < r68.2 then 65536 else r68.2
  let x72 : Int := if x71 > (-65536) then x71 else (-65536)
  let r73 : (Int × Int) := armplanref1_Mul a0.2.2.1 a1.1.2.2
  let r74 : (Int × Int) := armplanref1_Mul a0.2.2.2.1 a1.2.1.2.2
  let r75 : (Int × Int) := armplanref1_Add r73 r74
  let r76 : (Int × Int) := armplanref1_Mul a0.2.2.2.2 a1.2.2.2.2
  let r77 : (Int × Int) := armplanref1_Add r75 r76
  let x78 : Int := if 65536 < r77.1 then 65536 else r77.1
  let x79 : Int := if x78 > (-65536) then x78 else (-65536)
  let x80 : Int := if 65536 < r77.2 then 65536 else r77.2
  let x81 : Int := if x80 > (-65536) then x80 else (-65536)
  .leaf (((x7, x9), ((x16, x18), (x25, x27))), (((x34, x36), ((x43, x45), (x52, x54))), ((x61, x63), ((x70, x72), (x79, x81)))))
def armplanref1_ComposeMat (a0 : (((Int × Int) × ((Int × Int) × (Int × Int))) × (((Int × Int) × ((Int × Int) × (Int × Int))) × ((Int × Int) × ((Int × Int) × (Int × Int)))))) (a1 : (((Int × Int) × ((Int × Int) × (Int × Int))) × (((Int × Int) × ((Int × Int) × (Int × Int))) × ((Int × Int) × ((Int × Int) × (Int × Int)))))) : (((Int × Int) × ((Int × Int) × (Int × Int))) × (((Int × Int) × ((Int × Int) × (Int × Int))) × ((Int × Int) × ((Int × Int) × (Int × Int))))) := (t_armplanref1_ComposeMat a0 a1).val
theorem run_armplanref1_ComposeMat : ∀ x, runF (mkC ctys ceqs [(64, hd_armplanref1_Add), (100, hd_armplanref1_Mul)] [] noLoops) 200 72 Try.f72 (argsA [.pair (.pair (.pair (.int .i64) (.int .i64)) (.pair (.pair (.int .i64) (.int .i64)) (.pair (.int .i64) (.int .i64)))) (.pair (.pair (.pair (.int .i64) (.int .i64)) (.pair (.pair (.int .i64) (.int .i64)) (.pair (.int .i64) (.int .i64)))) (.pair (.pair (.int .i64) (.int .i64)) (.pair (.pair (.int .i64) (.int .i64)) (.pair (.int .i64) (.int .i64))))), .pair (.pair (.pair (.int .i64) (.int .i64)) (.pair (.pair (.int .i64) (.int .i64)) (.pair (.int .i64) (.int .i64)))) (.pair (.pair (.pair (.int .i64) (.int .i64)) (.pair (.pair (.int .i64) (.int .i64)) (.pair (.int .i64) (.int .i64)))) (.pair (.pair (.int .i64) (.int .i64)) (.pair (.pair (.int .i64) (.int .i64)) (.pair (.int .i64) (.int .i64)))))] x) [] (fun v h => toRes h [.pair (.pair (.pair (.int .i64) (.int .i64)) (.pair (.pair (.int .i64) (.int .i64)) (.pair (.int .i64) (.int .i64)))) (.pair (.pair (.pair (.int .i64) (.int .i64)) (.pair (.pair (.int .i64) (.int .i64)) (.pair (.int .i64) (.int .i64)))) (.pair (.pair (.int .i64) (.int .i64)) (.pair (.pair (.int .i64) (.int .i64)) (.pair (.int .i64) (.int .i64)))))] v) = (t_armplanref1_ComposeMat x.1 x.2.1).optA (fun r => (r, ())) := by
  intro x; kernel_rfl
theorem fn_armplanref1_ComposeMat : FnOk Try.prog 72 [.pair (.pair (.pair (.int .i64) (.int .i64)) (.pair (.pair (.int .i64) (.int .i64)) (.pair (.int .i64) (.int .i64)))) (.pair (.pair (.pair (.int .i64) (.int .i64)) (.pair (.pair (.int .i64) (.int .i64)) (.pair (.int .i64) (.int .i64)))) (.pair (.pair (.int .i64) (.int .i64)) (.pair (.pair (.int .i64) (.int .i64)) (.pair (.int .i64) (.int .i64))))), .pair (.pair (.pair (.int .i64) (.int .i64)) (.pair (.pair (.int .i64) (.int .i64)) (.pair (.int .i64) (.int .i64)))) (.pair (.pair (.pair (.int .i64) (.int .i64)) (.pair (.pair (.int .i64) (.int .i64)) (.pair (.int .i64) (.int .i64)))) (.pair (.pair (.int .i64) (.int .i64)) (.pair (.pair (.int .i64) (.int .i64)) (.pair (.int .i64) (.int .i64)))))] [.pair (.pair (.pair (.int .i64) (.int .i64)) (.pair (.pair (.int .i64) (.int .i64)) (.pair (.int .i64) (.int .i64)))) (.pair (.pair (.pair (.int .i64) (.int .i64)) (.pair (.pair (.int .i64) (.int .i64)) (.pair (.int .i64) (.int .i64)))) (.pair (.pair (.int .i64) (.int .i64)) (.pair (.pair (.int .i64) (.int .i64)) (.pair (.int .i64) (.int .i64)))))] (fun x => some ((fun r => (r, ())) (armplanref1_ComposeMat x.1 x.2.1))) :=
  fn_tot (t := fun (x : Ar [.pair (.pair (.pair (.int .i64) (.int .i64)) (.pair (.pair (.int .i64) (.int .i64)) (.pair (.int .i64) (.int .i64)))) (.pair (.pair (.pair (.int .i64) (.int .i64)) (.pair (.pair (.int .i64) (.int .i64)) (.pair (.int .i64) (.int .i64)))) (.pair (.pair (.int .i64) (.int .i64)) (.pair (.pair (.int .i64) (.int .i64)) (.pair (.int .i64) (.int .i64))))), .pair (.pair (.pair (.int .i64) (.int .i64)) (.pair (.pair (.int .i64) (.int .i64)) (.pair (.int .i64) (.int .i64)))) (.pair (.pair (.pair (.int .i64) (.int .i64)) (.pair (.pair (.int .i64) (.int .i64)) (.pair (.int .i64) (.int .i64)))) (.pair (.pair (.int .i64) (.int .i64)) (.pair (.pair (.int .i64) (.int .i64)) (.pair (.int .i64) (.int .i64)))))]) => t_armplanref1_ComposeMat x.1 x.2.1) (R := (((Int × Int) × ((Int × Int) × (Int × Int))) × (((Int × Int) × ((Int × Int) × (Int × Int))) × ((Int × Int) × ((Int × Int) × (Int × Int)))))) (Ts := [.pair (.pair (.pair (.int .i64) (.int .i64)) (.pair (.pair (.int .i64) (.int .i64)) (.pair (.int .i64) (.int .i64)))) (.pair (.pair (.pair (.int .i64) (.int .i64)) (.pair (.pair (.int .i64) (.int .i64)) (.pair (.int .i64) (.int .i64)))) (.pair (.pair (.int .i64) (.int .i64)) (.pair (.pair (.int .i64) (.int .i64)) (.pair (.int .i64) (.int .i64)))))]) (mk := (fun r => (r, ()))) (mkC_ok ctys_ok ceqs_ok (fns_cons ok_armplanref1_Add (fns_cons ok_armplanref1_Mul (fns_nil _))) (inl_nil _) noLoops_ok mixed) Try.func72 run_armplanref1_ComposeMat (fun _ => by kernel_rfl)
def hd_armplanref1_ComposeMat : Hd := dataHd [.pair (.pair (.pair (.int .i64) (.int .i64)) (.pair (.pair (.int .i64) (.int .i64)) (.pair (.int .i64) (.int .i64)))) (.pair (.pair (.pair (.int .i64) (.int .i64)) (.pair (.pair (.int .i64) (.int .i64)) (.pair (.int .i64) (.int .i64)))) (.pair (.pair (.int .i64) (.int .i64)) (.pair (.pair (.int .i64) (.int .i64)) (.pair (.int .i64) (.int .i64))))), .pair (.pair (.pair (.int .i64) (.int .i64)) (.pair (.pair (.int .i64) (.int .i64)) (.pair (.int .i64) (.int .i64)))) (.pair (.pair (.pair (.int .i64) (.int .i64)) (.pair (.pair (.int .i64) (.int .i64)) (.pair (.int .i64) (.int .i64)))) (.pair (.pair (.int .i64) (.int .i64)) (.pair (.pair (.int .i64) (.int .i64)) (.pair (.int .i64) (.int .i64)))))] [.pair (.pair (.pair (.int .i64) (.int .i64)) (.pair (.pair (.int .i64) (.int .i64)) (.pair (.int .i64) (.int .i64)))) (.pair (.pair (.pair (.int .i64) (.int .i64)) (.pair (.pair (.int .i64) (.int .i64)) (.pair (.int .i64) (.int .i64)))) (.pair (.pair (.int .i64) (.int .i64)) (.pair (.pair (.int .i64) (.int .i64)) (.pair (.int .i64) (.int .i64)))))] (fun x => some ((fun r => (r, ())) (armplanref1_ComposeMat x.1 x.2.1)))
theorem ok_armplanref1_ComposeMat : HdOk Try.prog 72 hd_armplanref1_ComposeMat.sem ∧ Enters Try.prog 72 := data_ok fn_armplanref1_ComposeMat Try.func72 (by kernel_rfl) (by kernel_rfl)

/- armplan/armplanref1.Transpose -/
def t_armplanref1_Transpose (a0 : (((Int × Int) × ((Int × Int) × (Int × Int))) × (((Int × Int) × ((Int × Int) × (Int × Int))) × ((Int × Int) × ((Int × Int) × (Int × Int)))))) : Tr (((Int × Int) × ((Int × Int) × (Int × Int))) × (((Int × Int) × ((Int × Int) × (Int × Int))) × ((Int × Int) × ((Int × Int) × (Int × Int))))) :=
  .leaf ((a0.1.1, (a0.2.1.1, a0.2.2.1)), ((a0.1.2.1, (a0.2.1.2.1, a0.2.2.2.1)), (a0.1.2.2, (a0.2.1.2.2, a0.2.2.2.2))))
def armplanref1_Transpose (a0 : (((Int × Int) × ((Int × Int) × (Int × Int))) × (((Int × Int) × ((Int × Int) × (Int × Int))) × ((Int × Int) × ((Int × Int) × (Int × Int)))))) : (((Int × Int) × ((Int × Int) × (Int × Int))) × (((Int × Int) × ((Int × Int) × (Int × Int))) × ((Int × Int) × ((Int × Int) × (Int × Int))))) := (t_armplanref1_Transpose a0).val
theorem run_armplanref1_Transpose : ∀ x, runF (mkC ctys ceqs [] [] noLoops) 200 104 Try.f104 (argsA [.pair (.pair (.pair (.int .i64) (.int .i64)) (.pair (.pair (.int .i64) (.int .i64)) (.pair (.int .i64) (.int .i64)))) (.pair (.pair (.pair (.int .i64) (.int .i64)) (.pair (.pair (.int .i64) (.int .i64)) (.pair (.int .i64) (.int .i64)))) (.pair (.pair (.int .i64) (.int .i64)) (.pair (.pair (.int .i64) (.int .i64)) (.pair (.int .i64) (.int .i64)))))] x) [] (fun v h => toRes h [.pair (.pair (.pair (.int .i64) (.int .i64)) (.pair (.pair (.int .i64) (.int .i64)) (.pair (.int .i64) (.int .i64)))) (.pair (.pair (.pair (.int .i64) (.int .i64)) (.pair (.pair (.int .i64) (.int .i64)) (.pair (.int .i64) (.int .i64)))) (.pair (.pair (.int .i64) (.int .i64)) (.pair (.pair (.int .i64) (.int .i64)) (.pair (.int .i64) (.int .i64)))))] v) = (t_armplanref1_Transpose x.1).optA (fun r => (r, ())) := by
  intro x; kernel_rfl
theorem fn_armplanref1_Transpose : FnOk Try.prog 104 [.pair (.pair (.pair (.int .i64) (.int .i64)) (.pair (.pair (.int .i64) (.int .i64)) (.pair (.int .i64) (.int .i64)))) (.pair (.pair (.pair (.int .i64) (.int .i64)) (.pair (.pair (.int .i64) (.int .i64)) (.pair (.int .i64) (.int .i64)))) (.pair (.pair (.int .i64) (.int .i64)) (.pair (.pair (.int .i64) (.int .i64)) (.pair (.int .i64) (.int .i64)))))] [.pair (.pair (.pair (.int .i64) (.int .i64)) (.pair (.pair (.int .i64) (.int .i64)) (.pair (.int .i64) (.int .i64)))) (.pair (.pair (.pair (.int .i64) (.int .i64)) (.pair (.pair (.int .i64) (.int .i64)) (.pair (.int .i64) (.int .i64)))) (.pair (.pair (.int .i64) (.int .i64)) (.pair (.pair (.int .i64) (.int .i64)) (.pair (.int .i64) (.int .i64)))))] (fun x => some ((fun r => (r, ())) (armplanref1_Transpose x.1))) :=
  fn_tot (t := fun (x : Ar [.pair (.pair (.pair (.int .i64) (.int .i64)) (.pair (.pair (.int .i64) (.int .i64)) (.pair (.int .i64) (.int .i64)))) (.pair (.pair (.pair (.int .i64) (.int .i64)) (.pair (.pair (.int .i64) (.int .i64)) (.pair (.int .i64) (.int .i64)))) (.pair (.pair (.int .i64) (.int .i64)) (.pair (.pair (.int .i64) (.int .i64)) (.pair (.int .i64) (.int .i64)))))]) => t_armplanref1_Transpose x.1) (R := (((Int × Int) × ((Int × Int) × (Int × Int))) × (((Int × Int) × ((Int × Int) × (Int × Int))) × ((Int × Int) × ((Int × Int) × (Int × Int)))))) (Ts := [.pair (.pair (.pair (.int .i64) (.int .i64)) (.pair (.pair (.int .i64) (.int .i64)) (.pair (.int .i64) (.int .i64)))) (.pair (.pair (.pair (.int .i64) (.int .i64)) (.pair (.pair (.int .i64) (.int .i64)) (.pair (.int .i64) (.int .i64)))) (.pair (.pair (.int .i64) (.int .i64)) (.pair (.pair (.int .i64) (.int .i64)) (.pair (.int .i64) (.int .i64)))))]) (mk := (fun r => (r, ()))) (mkC_ok ctys_ok ceqs_ok (fns_nil _) (inl_nil _) noLoops_ok mixed) Try.func104 run_armplanref1_Transpose (fun _ => by kernel_rfl)
def hd_armplanref1_Transpose : Hd := dataHd [.pair (.pair (.pair (.int .i64) (.int .i64)) (.pair (.pair (.int .i64) (.int .i64)) (.pair (.int .i64) (.int .i64)))) (.pair (.pair (.pair (.int .i64) (.int .i64)) (.pair (.pair (.int .i64) (.int .i64)) (.pair (.int .i64) (.int .i64)))) (.pair (.pair (.int .i64) (.int .i64)) (.pair (.pair (.int .i64) (.int .i64)) (.pair (.int .i64) (.int .i64)))))] [.pair (.pair (.pair (.int .i64) (.int .i64)) (.pair (.pair (.int .i64) (.int .i64)) (.pair (.int .i64) (.int .i64)))) (.pair (.pair (.pair (.int .i64) (.int .i64)) (.pair (.pair (.int .i64) (.int .i64)) (.pair (.int .i64) (.int .i64)))) (.pair (.pair (.int .i64) (.int .i64)) (.pair (.pair (.int .i64) (.int .i64)) (.pair (.int .i64) (.int .i64)))))] (fun x => some ((fun r => (r, ())) (armplanref1_Transpose x.1)))
theorem ok_armplanref1_Transpose : HdOk Try.prog 104 hd_armplanref1_Transpose.sem ∧ Enters Try.prog 104 := data_ok fn_armplanref1_Transpose Try.func104 (by kernel_rfl) (by kernel_rfl)

/- armplan/armplanref1.WithinMat -/
def t_armplanref1_WithinMat (a0 : (((Int × Int) × ((Int × Int) × (Int × Int))) × (((Int × Int) × ((Int × Int) × (Int × Int))) × ((Int × Int) × ((Int × Int) × (Int × Int)))))) (a1 : (((Int × Int) × ((Int × Int) × (Int × Int))) × (((Int × Int) × ((Int × Int) × (Int × Int))) × ((Int × Int) × ((Int × Int) × (Int × Int)))))) : Tr Bool :=
  let r1 : Bool := armplanref1_WithinVec a0.1 a1.1
  .br (r1) (
   let r2 : Bool := armplanref1_WithinVec a0.2.1 a1.2.1
   .br (r2) (
    let r3 : Bool := armplanref1_WithinVec a0.2.2 a1.2.2
    .leaf r3) (
    .leaf false)) (
   .leaf false)
def armplanref1_WithinMat (a0 : (((Int × Int) × ((Int × Int) × (Int × Int))) × (((Int × Int) × ((Int × Int) × (Int × Int))) × ((Int × Int) × ((Int × Int) × (Int × Int)))))) (a1 : (((Int × Int) × ((Int × Int) × (Int × Int))) × (((Int × Int) × ((Int × Int) × (Int × Int))) × ((Int × Int) × ((Int × Int) × (Int × Int)))))) : Bool := (t_armplanref1_WithinMat a0 a1).val
theorem run_armplanref1_WithinMat : ∀ x, runF (mkC ctys ceqs [(51, hd_armplanref1_WithinVec)] [] noLoops) 200 105 Try.f105 (argsA [.pair (.pair (.pair (.int .i64) (.int .i64)) (.pair (.pair (.int .i64) (.int .i64)) (.pair (.int .i64) (.int .i64)))) (.pair (.pair (.pair (.int .i64) (.int .i64)) (.pair (.pair (.int .i64) (.int .i64)) (.pair (.int .i64) (.int .i64)))) (.pair (.pair (.int .i64) (.int .i64)) (.pair (.pair (.int .i64) (.int .i64)) (.pair (.int .i64) (.int .i64))))), .pair (.pair (.pair (.int .i64) (.int .i64)) (.pair (.pair (.int .i64) (.int .i64)) (.pair (.int .i64) (.int .i64)))) (.pair (.pair (.pair (.int .i64) (.int .i64)) (.pair (.pair (.int .i64) (.int .i64)) (.pair (.int .i64) (.int .i64)))) (.pair (.pair (.int .i64) (.int .i64)) (.pair (.pair (.int .i64) (.int .i64)) (.pair (.int .i64) (.int .i64)))))] x) [] (fun v h => toRes h [.bool] v) = (t_armplanref1_WithinMat x.1 x.2.1).optA (fun r => (r, ())) := by
  intro x; kernel_rfl
theorem fn_armplanref1_WithinMat : FnOk Try.prog 105 [.pair (.pair (.pair (.int .i64) (.int .i64)) (.pair (.pair (.int .i64) (.int .i64)) (.pair (.int .i64) (.int .i64)))) (.pair (.pair (.pair (.int .i64) (.int .i64)) (.pair (.pair (.int .i64) (.int .i64)) (.pair (.int .i64) (.int .i64)))) (.pair (.pair (.int .i64) (.int .i64)) (.pair (.pair (.int .i64) (.int .i64)) (.pair (.int .i64) (.int .i64))))), .pair (.pair (.pair (.int .i64) (.int .i64)) (.pair (.pair (.int .i64) (.int .i64)) (.pair (.int .i64) (.int .i64)))) (.pair (.pair (.pair (.int .i64) (.int .i64)) (.pair (.pair (.int .i64) (.int .i64)) (.pair (.int .i64) (.int .i64)))) (.pair (.pair (.int .i64) (.int .i64)) (.pair (.pair (.int .i64) (.int .i64)) (.pair (.int .i64) (.int .i64)))))] [.bool] (fun x => some ((fun r => (r, ())) (armplanref1_WithinMat x.1 x.2.1))) :=
  fn_tot (t := fun (x : Ar [.pair (.pair (.pair (.int .i64) (.int .i64)) (.pair (.pair (.int .i64) (.int .i64)) (.pair (.int .i64) (.int .i64)))) (.pair (.pair (.pair (.int .i64) (.int .i64)) (.pair (.pair (.int .i64) (.int .i64)) (.pair (.int .i64) (.int .i64)))) (.pair (.pair (.int .i64) (.int .i64)) (.pair (.pair (.int .i64) (.int .i64)) (.pair (.int .i64) (.int .i64))))), .pair (.pair (.pair (.int .i64) (.int .i64)) (.pair (.pair (.int .i64) (.int .i64)) (.pair (.int .i64) (.int .i64)))) (.pair (.pair (.pair (.int .i64) (.int .i64)) (.pair (.pair (.int .i64) (.int .i64)) (.pair (.int .i64) (.int .i64)))) (.pair (.pair (.int .i64) (.int .i64)) (.pair (.pair (.int .i64) (.int .i64)) (.pair (.int .i64) (.int .i64)))))]) => t_armplanref1_WithinMat x.1 x.2.1) (R := Bool) (Ts := [.bool]) (mk := (fun r => (r, ()))) (mkC_ok ctys_ok ceqs_ok (fns_cons ok_armplanref1_WithinVec (fns_nil _)) (inl_nil _) noLoops_ok mixed) Try.func105 run_armplanref1_WithinMat (fun _ => by kernel_rfl)
def hd_armplanref1_WithinMat : Hd := dataHd [.pair (.pair (.pair (.int .i64) (.int .i64)) (.pair (.pair (.int .i64) (.int .i64)) (.pair (.int .i64) (.int .i64)))) (.pair (.pair (.pair (.int .i64) (.int .i64)) (.pair (.pair (.int .i64) (.int .i64)) (.pair (.int .i64) (.int .i64)))) (.pair (.pair (.int .i64) (.int .i64)) (.pair (.pair (.int .i64) (.int .i64)) (.pair (.int .i64) (.int .i64))))), .pair (.pair (.pair (.int .i64) (.int .i64)) (.pair (.pair (.int .i64) (.int .i64)) (.pair (.int .i64) (.int .i64)))) (.pair (.pair (.pair (.int .i64) (.int .i64)) (.pair (.pair (.int .i64) (.int .i64)) (.pair (.int .i64) (.int .i64)))) (.pair (.pair (.int .i64) (.int .i64)) (.pair (.pair (.int .i64) (.int .i64)) (.pair (.int .i64) (.int .i64)))))] [.bool] (fun x => some ((fun r => (r, ())) (armplanref1_WithinMat x.1 x.2.1)))
theorem ok_armplanref1_WithinMat : HdOk Try.prog 105 hd_armplanref1_WithinMat.sem ∧ Enters Try.prog 105 := data_ok fn_armplanref1_WithinMat Try.func105 (by kernel_rfl) (by kernel_rfl)

/- armplan/armplanmake.Interval -/
def t_armplanmake_Interval (a0 : Int) (a1 : Int) : Tr (Int × Int) :=
  let x1 : Int := shrI .i64 a0 3
  let r2 : Int := armplanmake_Round x1 27
  let x3 : Int := IntKind.wrap .i64 (4 + r2)
  let x4 : Int := IntKind.wrap .u64 x3
  let x5 : Int := shlI .i64 1 x4
  .br (decide (0 ≤ x4)) (
   let x6 : Int := IntKind.wrap .i64 (2 * x5)
   let x7 : Int := IntKind.wrap .i64 (x6 + 1)
   let r8 : Int := armplanmake_Round a0 x7
   .br (dom_armplanmake_Round a0 x7) (
    let x9 : Int := IntKind.wrap .i64 (r8 - x5)
    let x10 : Int := IntKind.wrap .i64 (2 * x5)
    let x11 : Int := IntKind.wrap .i64 (x10 + 1)
    let r12 : Int := armplanmake_Round a1 x11
    .br (dom_armplanmake_Round a1 x11) (
     let x13 : Int := IntKind.wrap .i64 (r12 - x5)
     let x14 : Int := bitI .and .i64 a1 1
     let x15 : Bool := decide (x14 = 0)
     .br (x15) (
      let x16 : Int := shrI .i64 a1 1
      let x17 : Int := IntKind.wrap .i64 (Int.tdiv x5 8)
      let x18 : Int := IntKind.wrap .i64 (1 + x17)
      let r19 : Int := armplanmake_Round x16 x18
      .br (dom_armplanmake_Round x16 x18) (
       let x20 : Int := IntKind.wrap .i64 (x9 + r19)
       let r21 : Int := armplanref1_Clamp x9
       let r22 : Int := armplanref1_Clamp x20
       let x23 : Int := if r22 < r21 then r22 else r21
       let r24 : Int := armplanref1_Clamp x9
       let r25 : Int := armplanref1_Clamp x20
       let x26 : Int := if r25 > r24 then r25 else r24
       .leaf (x23, x26)) .fail) (
      let r27 : Int := armplanref1_Clamp x9
      let r28 : Int := armplanref1_Clamp x13
      let x29 : Int := if r28 < r27 then r28 else r27
      let r30 : Int := armplanref1_Clamp x9
      let r31 : Int := armplanref1_Clamp x13
      let x32 : Int := if r31 > r30 then r31 else r30
      .leaf (x29, x32))) .fail) .fail) .fail
def armplanmake_Interval (a0 : Int) (a1 : Int) : (Int × Int) := (t_armplanmake_Interval a0 a1).val
def dom_armplanmake_Interval (a0 : Int) (a1 : Int) : Bool := (t_armplanmake_Interval a0 a1).dom
theorem run_armplanmake_Interval : ∀ x, runF (mkC ctys ceqs [(36, hd_armplanmake_Round), (62, hd_armplanref1_Clamp)] [] noLoops) 200 52 Try.f52 (argsA [.int .i64, .int .i64] x) [] (fun v h => toRes h [.pair (.int .i64) (.int .i64)] v) = (t_armplanmake_Interval x.1 x.2.1).optA (fun r => (r, ())) := by
  intro x; kernel_rfl
theorem fn_armplanmake_Interval : FnOk Try.prog 52 [.int .i64, .int .i64] [.pair (.int .i64) (.int .i64)] (fun x => bif dom_armplanmake_Interval x.1 x.2.1 then some ((fun r => (r, ())) (armplanmake_Interval x.1 x.2.1)) else none) :=
  fn_part (t := fun (x : Ar [.int .i64, .int .i64]) => t_armplanmake_Interval x.1 x.2.1) (R := (Int × Int)) (Ts := [.pair (.int .i64) (.int .i64)]) (mk := (fun r => (r, ()))) (mkC_ok ctys_ok ceqs_ok (fns_cons ok_armplanmake_Round (fns_cons ok_armplanref1_Clamp (fns_nil _))) (inl_nil _) noLoops_ok mixed) Try.func52 run_armplanmake_Interval
def hd_armplanmake_Interval : Hd := guardHd [.int .i64, .int .i64] [.pair (.int .i64) (.int .i64)] (fun x => dom_armplanmake_Interval x.1 x.2.1) (fun x => (fun r => (r, ())) (armplanmake_Interval x.1 x.2.1))
theorem ok_armplanmake_Interval : HdOk Try.prog 52 hd_armplanmake_Interval.sem ∧ Enters Try.prog 52 := guard_ok fn_armplanmake_Interval Try.func52 (by kernel_rfl) (by kernel_rfl)

end Go.RX

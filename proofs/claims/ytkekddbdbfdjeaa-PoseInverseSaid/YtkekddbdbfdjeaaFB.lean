/-
  The contracts of functions.
-/
import Derived.Test.YtkekddbdbfdjeaaFA
import Derived.Test.YtkekddbdbfdjeaaSb
namespace Go.RX
open Go.Proofs

def btys : List (Nat × TRow) := [(2, ⟨.int .i64, 1, 8, [.int .i64 0], .int .i64⟩),
  (26, ⟨.struct [(0, 1), (1, 1)], 2, 16, [.int .i64 0, .int .i64 0], .pair (.int .i64) (.int .i64)⟩),
  (27, ⟨.arr 3 26, 6, 48, [.int .i64 0, .int .i64 0, .int .i64 0, .int .i64 0, .int .i64 0, .int .i64 0], .pair (.pair (.int .i64) (.int .i64)) (.pair (.pair (.int .i64) (.int .i64)) (.pair (.int .i64) (.int .i64)))⟩),
  (28, ⟨.arr 3 26, 6, 48, [.int .i64 0, .int .i64 0, .int .i64 0, .int .i64 0, .int .i64 0, .int .i64 0], .pair (.pair (.int .i64) (.int .i64)) (.pair (.pair (.int .i64) (.int .i64)) (.pair (.int .i64) (.int .i64)))⟩),
  (32, ⟨.arr 3 2, 3, 24, [.int .i64 0, .int .i64 0, .int .i64 0], .pair (.int .i64) (.pair (.int .i64) (.int .i64))⟩),
  (35, ⟨.arr 3 27, 18, 144, [.int .i64 0, .int .i64 0, .int .i64 0, .int .i64 0, .int .i64 0, .int .i64 0, .int .i64 0, .int .i64 0, .int .i64 0, .int .i64 0, .int .i64 0, .int .i64 0, .int .i64 0, .int .i64 0, .int .i64 0, .int .i64 0, .int .i64 0, .int .i64 0], .pair (.pair (.pair (.int .i64) (.int .i64)) (.pair (.pair (.int .i64) (.int .i64)) (.pair (.int .i64) (.int .i64)))) (.pair (.pair (.pair (.int .i64) (.int .i64)) (.pair (.pair (.int .i64) (.int .i64)) (.pair (.int .i64) (.int .i64)))) (.pair (.pair (.int .i64) (.int .i64)) (.pair (.pair (.int .i64) (.int .i64)) (.pair (.int .i64) (.int .i64)))))⟩),
  (129, ⟨.arr 4 2, 4, 32, [.int .i64 0, .int .i64 0, .int .i64 0, .int .i64 0], .pair (.int .i64) (.pair (.int .i64) (.pair (.int .i64) (.int .i64)))⟩)]
def beqs : List (Nat × (Bool × List TK)) := [(28, (true, [.int .i64, .int .i64, .int .i64, .int .i64, .int .i64, .int .i64]))]
theorem btys_ok : tableOk Try.prog btys = true := by kernel_rfl
theorem beqs_ok : eqsOk Try.prog beqs = true := by kernel_rfl

/- armplan/fixed.Clamp -/
def t_fixed_Clamp (a0 : Int) : Tr Int :=
  let x1 : Int := if (-2147483648) > a0 then (-2147483648) else a0
  let x2 : Int := if 2147483648 < x1 then 2147483648 else x1
  .leaf x2
def fixed_Clamp (a0 : Int) : Int := (t_fixed_Clamp a0).val
theorem run_fixed_Clamp : ∀ x, runF (mkC btys beqs [] [] noLoops) 200 129 Try.f129 (argsA [.int .i64] x) [] (fun v h => toRes h [.int .i64] v) = (t_fixed_Clamp x.1).optA (fun r => (r, ())) := by
  intro x; kernel_rfl
theorem fn_fixed_Clamp : FnOk Try.prog 129 [.int .i64] [.int .i64] (fun x => some ((fun r => (r, ())) (fixed_Clamp x.1))) :=
  fn_tot (t := fun (x : Ar [.int .i64]) => t_fixed_Clamp x.1) (R := Int) (Ts := [.int .i64]) (mk := (fun r => (r, ()))) (mkC_ok btys_ok beqs_ok (fns_nil _) (inl_nil _) noLoops_ok mixed) Try.func129 run_fixed_Clamp (fun _ => by kernel_rfl)
def hd_fixed_Clamp : Hd := dataHd [.int .i64] [.int .i64] (fun x => some ((fun r => (r, ())) (fixed_Clamp x.1)))
theorem ok_fixed_Clamp : HdOk Try.prog 129 hd_fixed_Clamp.sem ∧ Enters Try.prog 129 := data_ok fn_fixed_Clamp Try.func129 (by kernel_rfl) (by kernel_rfl)

/- armplan/interval.limit -/
def t_interval_limit (a0 : Int) (a1 : Int) : Tr (Int × Int) :=
  let r1 : Int := fixed_Clamp a0
  let r2 : Int := fixed_Clamp a1
  .leaf (r1, r2)
def interval_limit (a0 : Int) (a1 : Int) : (Int × Int) := (t_interval_limit a0 a1).val
theorem run_interval_limit : ∀ x, runF (mkC btys beqs [(129, hd_fixed_Clamp)] [] noLoops) 200 113 Try.f113 (argsA [.int .i64, .int .i64] x) [] (fun v h => toRes h [.pair (.int .i64) (.int .i64)] v) = (t_interval_limit x.1 x.2.1).optA (fun r => (r, ())) := by
  intro x; kernel_rfl
theorem fn_interval_limit : FnOk Try.prog 113 [.int .i64, .int .i64] [.pair (.int .i64) (.int .i64)] (fun x => some ((fun r => (r, ())) (interval_limit x.1 x.2.1))) :=
  fn_tot (t := fun (x : Ar [.int .i64, .int .i64]) => t_interval_limit x.1 x.2.1) (R := (Int × Int)) (Ts := [.pair (.int .i64) (.int .i64)]) (mk := (fun r => (r, ()))) (mkC_ok btys_ok beqs_ok (fns_cons ok_fixed_Clamp (fns_nil _)) (inl_nil _) noLoops_ok mixed) Try.func113 run_interval_limit (fun _ => by kernel_rfl)
def hd_interval_limit : Hd := dataHd [.int .i64, .int .i64] [.pair (.int .i64) (.int .i64)] (fun x => some ((fun r => (r, ())) (interval_limit x.1 x.2.1)))
theorem ok_interval_limit : HdOk Try.prog 113 hd_interval_limit.sem ∧ Enters Try.prog 113 := data_ok fn_interval_limit Try.func113 (by kernel_rfl) (by kernel_rfl)

/- armplan/interval.Of -/
def t_interval_Of (a0 : Int) : Tr (Int × Int) :=
  let r1 : (Int × Int) := interval_limit a0 a0
  .leaf r1
def interval_Of (a0 : Int) : (Int × Int) := (t_interval_Of a0).val
theorem run_interval_Of : ∀ x, runF (mkC btys beqs [(113, hd_interval_limit)] [] noLoops) 200 90 Try.f90 (argsA [.int .i64] x) [] (fun v h => toRes h [.pair (.int .i64) (.int .i64)] v) = (t_interval_Of x.1).optA (fun r => (r, ())) := by
  intro x; kernel_rfl
theorem fn_interval_Of : FnOk Try.prog 90 [.int .i64] [.pair (.int .i64) (.int .i64)] (fun x => some ((fun r => (r, ())) (interval_Of x.1))) :=
  fn_tot (t := fun (x : Ar [.int .i64]) => t_interval_Of x.1) (R := (Int × Int)) (Ts := [.pair (.int .i64) (.int .i64)]) (mk := (fun r => (r, ()))) (mkC_ok btys_ok beqs_ok (fns_cons ok_interval_limit (fns_nil _)) (inl_nil _) noLoops_ok mixed) Try.func90 run_interval_Of (fun _ => by kernel_rfl)
def hd_interval_Of : Hd := dataHd [.int .i64] [.pair (.int .i64) (.int .i64)] (fun x => some ((fun r => (r, ())) (interval_Of x.1)))
theorem ok_interval_Of : HdOk Try.prog 90 hd_interval_Of.sem ∧ Enters Try.prog 90 := data_ok fn_interval_Of Try.func90 (by kernel_rfl) (by kernel_rfl)

/- armplan/matrix.one -/
def t_matrix_one : Tr (Int × Int) :=
  let r1 : (Int × Int) := interval_Of 65536
  .leaf r1
def matrix_one : (Int × Int) := t_matrix_one.val
theorem run_matrix_one : ∀ x, runF (mkC btys beqs [(90, hd_interval_Of)] [] noLoops) 200 60 Try.f60 (argsA [] x) [] (fun v h => toRes h [.pair (.int .i64) (.int .i64)] v) = (t_matrix_one ).optA (fun r => (r, ())) := by
  intro x; kernel_rfl
theorem fn_matrix_one : FnOk Try.prog 60 [] [.pair (.int .i64) (.int .i64)] (fun _ => some ((fun r => (r, ())) matrix_one)) :=
  fn_tot (t := fun (_ : Ar []) => t_matrix_one ) (R := (Int × Int)) (Ts := [.pair (.int .i64) (.int .i64)]) (mk := (fun r => (r, ()))) (mkC_ok btys_ok beqs_ok (fns_cons ok_interval_Of (fns_nil _)) (inl_nil _) noLoops_ok mixed) Try.func60 run_matrix_one (fun _ => by kernel_rfl)
def hd_matrix_one : Hd := dataHd [] [.pair (.int .i64) (.int .i64)] (fun _ => some ((fun r => (r, ())) matrix_one))
theorem ok_matrix_one : HdOk Try.prog 60 hd_matrix_one.sem ∧ Enters Try.prog 60 := data_ok fn_matrix_one Try.func60 (by kernel_rfl) (by kernel_rfl)

/- armplan/matrix.Turn -/
def t_matrix_Turn_0 (a1 : (Int × Int)) : Tr (((Int × Int) × ((Int × Int) × (Int × Int))) × (((Int × Int) × ((Int × Int) × (Int × Int))) × ((Int × Int) × ((Int × Int) × (Int × Int))))) :=
  let r1 : Bool := interval_Valid a1
  .br ((!r1)) (
   .leaf (((0, 0), ((0, 0), (0, 0))), (((0, 0), ((0, 0), (0, 0))), ((0, 0), ((0, 0), (0, 0)))))) (
   let r2 : (Int × Int) := angle_CosOver a1
   let r3 : (Int × Int) := angle_SinOver a1
   let r4 : (Int × Int) := matrix_one
   let r5 : (Int × Int) := interval_Neg r3
   .leaf ((r4, ((0, 0), (0, 0))), (((0, 0), (r2, r5)), ((0, 0), (r3, r2)))))
theorem run_matrix_Turn_0 : ∀ y : Ar [.pair (.int .i64) (.int .i64)], runF (mkC btys beqs [(57, hd_interval_Valid), (58, hd_angle_CosOver), (59, hd_angle_SinOver), (60, hd_matrix_one), (61, hd_interval_Neg)] [] noLoops) 200 19 Try.f19 (argsA [.int .i64, .pair (.int .i64) (.int .i64)] (0, y)) [] (fun v h => toRes h [.pair (.pair (.pair (.int .i64) (.int .i64)) (.pair (.pair (.int .i64) (.int .i64)) (.pair (.int .i64) (.int .i64)))) (.pair (.pair (.pair (.int .i64) (.int .i64)) (.pair (.pair (.int .i64) (.int .i64)) (.pair (.int .i64) (.int .i64)))) (.pair (.pair (.int .i64) (.int .i64)) (.pair (.pair (.int .i64) (.int .i64)) (.pair (.int .i64) (.int .i64)))))] v) = (t_matrix_Turn_0 y.1).optA (fun r => (r, ())) := by
  intro y; kernel_rfl
theorem fn_matrix_Turn_0 : FnOk Try.prog 19 [.int .i64, .pair (.int .i64) (.int .i64)] [.pair (.pair (.pair (.int .i64) (.int .i64)) (.pair (.pair (.int .i64) (.int .i64)) (.pair (.int .i64) (.int .i64)))) (.pair (.pair (.pair (.int .i64) (.int .i64)) (.pair (.pair (.int .i64) (.int .i64)) (.pair (.int .i64) (.int .i64)))) (.pair (.pair (.int .i64) (.int .i64)) (.pair (.pair (.int .i64) (.int .i64)) (.pair (.int .i64) (.int .i64)))))] (fun x => if x.1 = 0 then some ((fun r => (r, ())) (t_matrix_Turn_0 x.2.1).val) else none) :=
  fn_lit (R := (((Int × Int) × ((Int × Int) × (Int × Int))) × (((Int × Int) × ((Int × Int) × (Int × Int))) × ((Int × Int) × ((Int × Int) × (Int × Int)))))) (Ts := [.pair (.pair (.pair (.int .i64) (.int .i64)) (.pair (.pair (.int .i64) (.int .i64)) (.pair (.int .i64) (.int .i64)))) (.pair (.pair (.pair (.int .i64) (.int .i64)) (.pair (.pair (.int .i64) (.int .i64)) (.pair (.int .i64) (.int .i64)))) (.pair (.pair (.int .i64) (.int .i64)) (.pair (.pair (.int .i64) (.int .i64)) (.pair (.int .i64) (.int .i64)))))]) (mk := (fun r => (r, ()))) (t := fun (y : Ar [.pair (.int .i64) (.int .i64)]) => t_matrix_Turn_0 y.1) (mkC_ok btys_ok beqs_ok (fns_cons ok_interval_Valid (fns_cons ok_angle_CosOver (fns_cons ok_angle_SinOver (fns_cons ok_matrix_one (fns_cons ok_interval_Neg (fns_nil _)))))) (inl_nil _) noLoops_ok mixed) Try.func19 0 run_matrix_Turn_0 (fun _ => by kernel_rfl)
def t_matrix_Turn_1 (a1 : (Int × Int)) : Tr (((Int × Int) × ((Int × Int) × (Int × Int))) × (((Int × Int) × ((Int × Int) × (Int × Int))) × ((Int × Int) × ((Int × Int) × (Int × Int))))) :=
  let r1 : Bool := interval_Valid a1
  .br ((!r1)) (
   .leaf (((0, 0), ((0, 0), (0, 0))), (((0, 0), ((0, 0), (0, 0))), ((0, 0), ((0, 0), (0, 0)))))) (
   let r2 : (Int × Int) := angle_CosOver a1
   let r3 : (Int × Int) := angle_SinOver a1
   let r4 : (Int × Int) := matrix_one
   let r5 : (Int × Int) := interval_Neg r3
   .leaf ((r2, ((0, 0), r3)), (((0, 0), (r4, (0, 0))), (r5, ((0, 0), r2)))))
theorem run_matrix_Turn_1 : ∀ y : Ar [.pair (.int .i64) (.int .i64)], runF (mkC btys beqs [(57, hd_interval_Valid), (58, hd_angle_CosOver), (59, hd_angle_SinOver), (60, hd_matrix_one), (61, hd_interval_Neg)] [] noLoops) 200 19 Try.f19 (argsA [.int .i64, .pair (.int .i64) (.int .i64)] (1, y)) [] (fun v h => toRes h [.pair (.pair (.pair (.int .i64) (.int .i64)) (.pair (.pair (.int .i64) (.int .i64)) (.pair (.int .i64) (.int .i64)))) (.pair (.pair (.pair (.int .i64) (.int .i64)) (.pair (.pair (.int .i64) (.int .i64)) (.pair (.int .i64) (.int .i64)))) (.pair (.pair (.int .i64) (.int .i64)) (.pair (.pair (.int .i64) (.int .i64)) (.pair (.int .i64) (.int .i64)))))] v) = (t_matrix_Turn_1 y.1).optA (fun r => (r, ())) := by
  intro y; kernel_rfl
theorem fn_matrix_Turn_1 : FnOk Try.prog 19 [.int .i64, .pair (.int .i64) (.int .i64)] [.pair (.pair (.pair (.int .i64) (.int .i64)) (.pair (.pair (.int .i64) (.int .i64)) (.pair (.int .i64) (.int .i64)))) (.pair (.pair (.pair (.int .i64) (.int .i64)) (.pair (.pair (.int .i64) (.int .i64)) (.pair (.int .i64) (.int .i64)))) (.pair (.pair (.int .i64) (.int .i64)) (.pair (.pair (.int .i64) (.int .i64)) (.pair (.int .i64) (.int .i64)))))] (fun x => if x.1 = 1 then some ((fun r => (r, ())) (t_matrix_Turn_1 x.2.1).val) else none) :=
  fn_lit (R := (((Int × Int) × ((Int × Int) × (Int × Int))) × (((Int × Int) × ((Int × Int) × (Int × Int))) × ((Int × Int) × ((Int × Int) × (Int × Int)))))) (Ts := [.pair (.pair (.pair (.int .i64) (.int .i64)) (.pair (.pair (.int .i64) (.int .i64)) (.pair (.int .i64) (.int .i64)))) (.pair (.pair (.pair (.int .i64) (.int .i64)) (.pair (.pair (.int .i64) (.int .i64)) (.pair (.int .i64) (.int .i64)))) (.pair (.pair (.int .i64) (.int .i64)) (.pair (.pair (.int .i64) (.int .i64)) (.pair (.int .i64) (.int .i64)))))]) (mk := (fun r => (r, ()))) (t := fun (y : Ar [.pair (.int .i64) (.int .i64)]) => t_matrix_Turn_1 y.1) (mkC_ok btys_ok beqs_ok (fns_cons ok_interval_Valid (fns_cons ok_angle_CosOver (fns_cons ok_angle_SinOver (fns_cons ok_matrix_one (fns_cons ok_interval_Neg (fns_nil _)))))) (inl_nil _) noLoops_ok mixed) Try.func19 1 run_matrix_Turn_1 (fun _ => by kernel_rfl)
def t_matrix_Turn_2 (a1 : (Int × Int)) : Tr (((Int × Int) × ((Int × Int) × (Int × Int))) × (((Int × Int) × ((Int × Int) × (Int × Int))) × ((Int × Int) × ((Int × Int) × (Int × Int))))) :=
  let r1 : Bool := interval_Valid a1
  .br ((!r1)) (
   .leaf (((0, 0), ((0, 0), (0, 0))), (((0, 0), ((0, 0), (0, 0))), ((0, 0), ((0, 0), (0, 0)))))) (
   let r2 : (Int × Int) := angle_CosOver a1
   let r3 : (Int × Int) := angle_SinOver a1
   let r4 : (Int × Int) := matrix_one
   let r5 : (Int × Int) := interval_Neg r3
   .leaf ((r2, (r5, (0, 0))), ((r3, (r2, (0, 0))), ((0, 0), ((0, 0), r4)))))
theorem run_matrix_Turn_2 : ∀ y : Ar [.pair (.int .i64) (.int .i64)], runF (mkC btys beqs [(57, hd_interval_Valid), (58, hd_angle_CosOver), (59, hd_angle_SinOver), (60, hd_matrix_one), (61, hd_interval_Neg)] [] noLoops) 200 19 Try.f19 (argsA [.int .i64, .pair (.int .i64) (.int .i64)] (2, y)) [] (fun v h => toRes h [.pair (.pair (.pair (.int .i64) (.int .i64)) (.pair (.pair (.int .i64) (.int .i64)) (.pair (.int .i64) (.int .i64)))) (.pair (.pair (.pair (.int .i64) (.int .i64)) (.pair (.pair (.int .i64) (.int .i64)) (.pair (.int .i64) (.int .i64)))) (.pair (.pair (.int .i64) (.int .i64)) (.pair (.pair (.int .i64) (.int .i64)) (.pair (.int .i64) (.int .i64)))))] v) = (t_matrix_Turn_2 y.1).optA (fun r => (r, ())) := by
  intro y; kernel_rfl
theorem fn_matrix_Turn_2 : FnOk Try.prog 19 [.int .i64, .pair (.int .i64) (.int .i64)] [.pair (.pair (.pair (.int .i64) (.int .i64)) (.pair (.pair (.int .i64) (.int .i64)) (.pair (.int .i64) (.int .i64)))) (.pair (.pair (.pair (.int .i64) (.int .i64)) (.pair (.pair (.int .i64) (.int .i64)) (.pair (.int .i64) (.int .i64)))) (.pair (.pair (.int .i64) (.int .i64)) (.pair (.pair (.int .i64) (.int .i64)) (.pair (.int .i64) (.int .i64)))))] (fun x => if x.1 = 2 then some ((fun r => (r, ())) (t_matrix_Turn_2 x.2.1).val) else none) :=
  fn_lit (R := (((Int × Int) × ((Int × Int) × (Int × Int))) × (((Int × Int) × ((Int × Int) × (Int × Int))) × ((Int × Int) × ((Int × Int) × (Int × Int)))))) (Ts := [.pair (.pair (.pair (.int .i64) (.int .i64)) (.pair (.pair (.int .i64) (.int .i64)) (.pair (.int .i64) (.int .i64)))) (.pair (.pair (.pair (.int .i64) (.int .i64)) (.pair (.pair (.int .i64) (.int .i64)) (.pair (.int .i64) (.int .i64)))) (.pair (.pair (.int .i64) (.int .i64)) (.pair (.pair (.int .i64) (.int .i64)) (.pair (.int .i64) (.int .i64)))))]) (mk := (fun r => (r, ()))) (t := fun (y : Ar [.pair (.int .i64) (.int .i64)]) => t_matrix_Turn_2 y.1) (mkC_ok btys_ok beqs_ok (fns_cons ok_interval_Valid (fns_cons ok_angle_CosOver (fns_cons ok_angle_SinOver (fns_cons ok_matrix_one (fns_cons ok_interval_Neg (fns_nil _)))))) (inl_nil _) noLoops_ok mixed) Try.func19 2 run_matrix_Turn_2 (fun _ => by kernel_rfl)
def t_matrix_Turn_x (a0 : Int) (a1 : (Int × Int)) : Tr (((Int × Int) × ((Int × Int) × (Int × Int))) × (((Int × Int) × ((Int × Int) × (Int × Int))) × ((Int × Int) × ((Int × Int) × (Int × Int))))) :=
  let x1 : Bool := decide (a0 < 0)
  .br (x1) (
   .leaf (((0, 0), ((0, 0), (0, 0))), (((0, 0), ((0, 0), (0, 0))), ((0, 0), ((0, 0), (0, 0)))))) (
   let x2 : Bool := decide (2 < a0)
   .br (x2) (
    .leaf (((0, 0), ((0, 0), (0, 0))), (((0, 0), ((0, 0), (0, 0))), ((0, 0), ((0, 0), (0, 0)))))) (
    let r3 : Bool := interval_Valid a1
    .br ((!r3)) (
     .leaf (((0, 0), ((0, 0), (0, 0))), (((0, 0), ((0, 0), (0, 0))), ((0, 0), ((0, 0), (0, 0)))))) (
     let r4 : (Int × Int) := angle_CosOver a1
     let r5 : (Int × Int) := angle_SinOver a1
     let x6 : Int := IntKind.wrap .i64 (a0 + 1)
     let x7 : Int := Int.tmod x6 3
     let x8 : Int := IntKind.wrap .i64 (a0 + 2)
     let x9 : Int := Int.tmod x8 3
     .fail)))
theorem run_matrix_Turn_x : ∀ x, runF (mkC btys beqs [(57, hd_interval_Valid), (58, hd_angle_CosOver), (59, hd_angle_SinOver)] [] noLoops) 6 19 Try.f19 (argsA [.int .i64, .pair (.int .i64) (.int .i64)] x) [] (fun v h => toRes h [.pair (.pair (.pair (.int .i64) (.int .i64)) (.pair (.pair (.int .i64) (.int .i64)) (.pair (.int .i64) (.int .i64)))) (.pair (.pair (.pair (.int .i64) (.int .i64)) (.pair (.pair (.int .i64) (.int .i64)) (.pair (.int .i64) (.int .i64)))) (.pair (.pair (.int .i64) (.int .i64)) (.pair (.pair (.int .i64) (.int .i64)) (.pair (.int .i64) (.int .i64)))))] v) = (t_matrix_Turn_x x.1 x.2.1).optA (fun r => (r, ())) := by
  intro x; kernel_rfl
theorem fn_matrix_Turn_x : FnOk Try.prog 19 [.int .i64, .pair (.int .i64) (.int .i64)] [.pair (.pair (.pair (.int .i64) (.int .i64)) (.pair (.pair (.int .i64) (.int .i64)) (.pair (.int .i64) (.int .i64)))) (.pair (.pair (.pair (.int .i64) (.int .i64)) (.pair (.pair (.int .i64) (.int .i64)) (.pair (.int .i64) (.int .i64)))) (.pair (.pair (.int .i64) (.int .i64)) (.pair (.pair (.int .i64) (.int .i64)) (.pair (.int .i64) (.int .i64)))))] (fun x => bif (t_matrix_Turn_x x.1 x.2.1).dom then some ((fun r => (r, ())) (t_matrix_Turn_x x.1 x.2.1).val) else none) :=
  fn_part (t := fun (x : Ar [.int .i64, .pair (.int .i64) (.int .i64)]) => t_matrix_Turn_x x.1 x.2.1) (R := (((Int × Int) × ((Int × Int) × (Int × Int))) × (((Int × Int) × ((Int × Int) × (Int × Int))) × ((Int × Int) × ((Int × Int) × (Int × Int)))))) (Ts := [.pair (.pair (.pair (.int .i64) (.int .i64)) (.pair (.pair (.int .i64) (.int .i64)) (.pair (.int .i64) (.int .i64)))) (.pair (.pair (.pair (.int .i64) (.int .i64)) (.pair (.pair (.int .i64) (.int .i64)) (.pair (.int .i64) (.int .i64)))) (.pair (.pair (.int .i64) (.int .i64)) (.pair (.pair (.int .i64) (.int .i64)) (.pair (.int .i64) (.int .i64)))))]) (mk := (fun r => (r, ()))) (mkC_ok btys_ok beqs_ok (fns_cons ok_interval_Valid (fns_cons ok_angle_CosOver (fns_cons ok_angle_SinOver (fns_nil _)))) (inl_nil _) noLoops_ok mixed) Try.func19 run_matrix_Turn_x
def matrix_Turn (a0 : Int) (a1 : (Int × Int)) : (((Int × Int) × ((Int × Int) × (Int × Int))) × (((Int × Int) × ((Int × Int) × (Int × Int))) × ((Int × Int) × ((Int × Int) × (Int × Int))))) := if a0 = 0 then (t_matrix_Turn_0 a1).val else if a0 = 1 then (t_matrix_Turn_1 a1).val else if a0 = 2 then (t_matrix_Turn_2 a1).val else (t_matrix_Turn_x a0 a1).val
theorem fn_matrix_Turn : FnOk Try.prog 19 [.int .i64, .pair (.int .i64) (.int .i64)] [.pair (.pair (.pair (.int .i64) (.int .i64)) (.pair (.pair (.int .i64) (.int .i64)) (.pair (.int .i64) (.int .i64)))) (.pair (.pair (.pair (.int .i64) (.int .i64)) (.pair (.pair (.int .i64) (.int .i64)) (.pair (.int .i64) (.int .i64)))) (.pair (.pair (.int .i64) (.int .i64)) (.pair (.pair (.int .i64) (.int .i64)) (.pair (.int .i64) (.int .i64)))))] (fun x => some ((fun r => (r, ())) (matrix_Turn x.1 x.2.1))) := by
  have hlt : ∀ z : Int, 2 < z → ¬ z < 0 := fun z h => by omega
  have hle : ∀ z : Int, ¬ z = 0 → ¬ z = 1 → ¬ z = 2 → z < 0 ∨ 2 < z := fun z h1 h2 h3 => by omega
  refine fn_or fn_matrix_Turn_0 (fn_or fn_matrix_Turn_1 (fn_or fn_matrix_Turn_2 fn_matrix_Turn_x (F := fun x : Ar [.int .i64, .pair (.int .i64) (.int .i64)] => if x.1 = 2 then some ((fun r => (r, ())) (t_matrix_Turn_2 x.2.1).val) else (if x.1 < 0 ∨ 2 < x.1 then some ((fun r => (r, ())) (t_matrix_Turn_x x.1 x.2.1).val) else none)) ?_)
    (F := fun x : Ar [.int .i64, .pair (.int .i64) (.int .i64)] => if x.1 = 1 then some ((fun r => (r, ())) (t_matrix_Turn_1 x.2.1).val) else if x.1 = 2 then some ((fun r => (r, ())) (t_matrix_Turn_2 x.2.1).val) else (if x.1 < 0 ∨ 2 < x.1 then some ((fun r => (r, ())) (t_matrix_Turn_x x.1 x.2.1).val) else none)) ?_) ?_
  · intro x r h
    dsimp only at h ⊢
    by_cases e2 : x.1 = 2
    · rw [if_pos e2] at h ⊢; exact .inl h
    · rw [if_neg e2] at h
      by_cases e3 : x.1 < 0 ∨ 2 < x.1
      · rw [if_pos e3] at h
        have hd : (t_matrix_Turn_x x.1 x.2.1).dom = true := by
          unfold t_matrix_Turn_x
          rcases e3 with e3 | e3
          · simp [Tr.dom, e3]
          · simp [Tr.dom, e3, hlt _ e3]
        rw [hd]; exact .inr h
      · rw [if_neg e3] at h; simp at h
  · intro x r h
    dsimp only at h ⊢
    by_cases e1 : x.1 = 1
    · rw [if_pos e1] at h ⊢; exact .inl h
    · rw [if_neg e1] at h; exact .inr h
  · intro x r h
    dsimp only at h ⊢
    unfold matrix_Turn at h
    by_cases e0 : x.1 = 0
    · rw [if_pos e0] at h ⊢; exact .inl h
    · rw [if_neg e0] at h
      refine .inr ?_
      by_cases e1 : x.1 = 1
      · rw [if_pos e1] at h ⊢; exact h
      · rw [if_neg e1] at h ⊢
        by_cases e2 : x.1 = 2
        · rw [if_pos e2] at h ⊢; exact h
        · rw [if_neg e2] at h ⊢
          rw [if_pos (hle _ e0 e1 e2)]; exact h
def hd_matrix_Turn : Hd := dataHd [.int .i64, .pair (.int .i64) (.int .i64)] [.pair (.pair (.pair (.int .i64) (.int .i64)) (.pair (.pair (.int .i64) (.int .i64)) (.pair (.int .i64) (.int .i64)))) (.pair (.pair (.pair (.int .i64) (.int .i64)) (.pair (.pair (.int .i64) (.int .i64)) (.pair (.int .i64) (.int .i64)))) (.pair (.pair (.int .i64) (.int .i64)) (.pair (.pair (.int .i64) (.int .i64)) (.pair (.int .i64) (.int .i64)))))] (fun x => some ((fun r => (r, ())) (matrix_Turn x.1 x.2.1)))
theorem ok_matrix_Turn : HdOk Try.prog 19 hd_matrix_Turn.sem ∧ Enters Try.prog 19 := data_ok fn_matrix_Turn Try.func19 (by kernel_rfl) (by kernel_rfl)

/- armplan/armplanref1.Point -/
def t_armplanref1_Point (a0 : (Int × (Int × Int))) : Tr ((Int × Int) × ((Int × Int) × (Int × Int))) :=
  let r1 : (Int × Int) := armplanref1_Of a0.1
  let r2 : (Int × Int) := armplanref1_Of a0.2.1
  let r3 : (Int × Int) := armplanref1_Of a0.2.2
  .leaf (r1, (r2, r3))
def armplanref1_Point (a0 : (Int × (Int × Int))) : ((Int × Int) × ((Int × Int) × (Int × Int))) := (t_armplanref1_Point a0).val
theorem run_armplanref1_Point : ∀ x, runF (mkC btys beqs [(21, hd_armplanref1_Of)] [] noLoops) 200 16 Try.f16 (argsA [.pair (.int .i64) (.pair (.int .i64) (.int .i64))] x) [] (fun v h => toRes h [.pair (.pair (.int .i64) (.int .i64)) (.pair (.pair (.int .i64) (.int .i64)) (.pair (.int .i64) (.int .i64)))] v) = (t_armplanref1_Point x.1).optA (fun r => (r, ())) := by
  intro x; kernel_rfl
theorem fn_armplanref1_Point : FnOk Try.prog 16 [.pair (.int .i64) (.pair (.int .i64) (.int .i64))] [.pair (.pair (.int .i64) (.int .i64)) (.pair (.pair (.int .i64) (.int .i64)) (.pair (.int .i64) (.int .i64)))] (fun x => some ((fun r => (r, ())) (armplanref1_Point x.1))) :=
  fn_tot (t := fun (x : Ar [.pair (.int .i64) (.pair (.int .i64) (.int .i64))]) => t_armplanref1_Point x.1) (R := ((Int × Int) × ((Int × Int) × (Int × Int)))) (Ts := [.pair (.pair (.int .i64) (.int .i64)) (.pair (.pair (.int .i64) (.int .i64)) (.pair (.int .i64) (.int .i64)))]) (mk := (fun r => (r, ()))) (mkC_ok btys_ok beqs_ok (fns_cons ok_armplanref1_Of (fns_nil _)) (inl_nil _) noLoops_ok mixed) Try.func16 run_armplanref1_Point (fun _ => by kernel_rfl)
def hd_armplanref1_Point : Hd := dataHd [.pair (.int .i64) (.pair (.int .i64) (.int .i64))] [.pair (.pair (.int .i64) (.int .i64)) (.pair (.pair (.int .i64) (.int .i64)) (.pair (.int .i64) (.int .i64)))] (fun x => some ((fun r => (r, ())) (armplanref1_Point x.1)))
theorem ok_armplanref1_Point : HdOk Try.prog 16 hd_armplanref1_Point.sem ∧ Enters Try.prog 16 := data_ok fn_armplanref1_Point Try.func16 (by kernel_rfl) (by kernel_rfl)

/- armplan/interval.Add -/
def t_interval_Add (a0 : (Int × Int)) (a1 : (Int × Int)) : Tr (Int × Int) :=
  let r1 : Bool := interval_both a0 a1
  .br ((!r1)) (
   .leaf (0, 0)) (
   let x2 : Int := IntKind.wrap .i64 (a0.1 + a1.1)
   let x3 : Int := IntKind.wrap .i64 (a0.2 + a1.2)
   let r4 : (Int × Int) := interval_limit x2 x3
   .leaf r4)
def interval_Add (a0 : (Int × Int)) (a1 : (Int × Int)) : (Int × Int) := (t_interval_Add a0 a1).val
theorem run_interval_Add : ∀ x, runF (mkC btys beqs [(111, hd_interval_both), (113, hd_interval_limit)] [] noLoops) 200 86 Try.f86 (argsA [.pair (.int .i64) (.int .i64), .pair (.int .i64) (.int .i64)] x) [] (fun v h => toRes h [.pair (.int .i64) (.int .i64)] v) = (t_interval_Add x.1 x.2.1).optA (fun r => (r, ())) := by
  intro x; kernel_rfl
theorem fn_interval_Add : FnOk Try.prog 86 [.pair (.int .i64) (.int .i64), .pair (.int .i64) (.int .i64)] [.pair (.int .i64) (.int .i64)] (fun x => some ((fun r => (r, ())) (interval_Add x.1 x.2.1))) :=
  fn_tot (t := fun (x : Ar [.pair (.int .i64) (.int .i64), .pair (.int .i64) (.int .i64)]) => t_interval_Add x.1 x.2.1) (R := (Int × Int)) (Ts := [.pair (.int .i64) (.int .i64)]) (mk := (fun r => (r, ()))) (mkC_ok btys_ok beqs_ok (fns_cons ok_interval_both (fns_cons ok_interval_limit (fns_nil _))) (inl_nil _) noLoops_ok mixed) Try.func86 run_interval_Add (fun _ => by kernel_rfl)
def hd_interval_Add : Hd := dataHd [.pair (.int .i64) (.int .i64), .pair (.int .i64) (.int .i64)] [.pair (.int .i64) (.int .i64)] (fun x => some ((fun r => (r, ())) (interval_Add x.1 x.2.1)))
theorem ok_interval_Add : HdOk Try.prog 86 hd_interval_Add.sem ∧ Enters Try.prog 86 := data_ok fn_interval_Add Try.func86 (by kernel_rfl) (by kernel_rfl)

/- armplan/interval.outward -/
def t_interval_outward (a0 : Int) (a1 : Int) : Tr (Int × Int) :=
  let r1 : Int := fixed_ShiftDown a0 16
  let r2 : Int := fixed_ShiftUp a1 16
  let r3 : (Int × Int) := interval_limit r1 r2
  .leaf r3
def interval_outward (a0 : Int) (a1 : Int) : (Int × Int) := (t_interval_outward a0 a1).val
theorem run_interval_outward : ∀ x, runF (mkC btys beqs [(113, hd_interval_limit), (127, hd_fixed_ShiftDown), (128, hd_fixed_ShiftUp)] [] noLoops) 200 112 Try.f112 (argsA [.int .i64, .int .i64] x) [] (fun v h => toRes h [.pair (.int .i64) (.int .i64)] v) = (t_interval_outward x.1 x.2.1).optA (fun r => (r, ())) := by
  intro x; kernel_rfl
theorem fn_interval_outward : FnOk Try.prog 112 [.int .i64, .int .i64] [.pair (.int .i64) (.int .i64)] (fun x => some ((fun r => (r, ())) (interval_outward x.1 x.2.1))) :=
  fn_tot (t := fun (x : Ar [.int .i64, .int .i64]) => t_interval_outward x.1 x.2.1) (R := (Int × Int)) (Ts := [.pair (.int .i64) (.int .i64)]) (mk := (fun r => (r, ()))) (mkC_ok btys_ok beqs_ok (fns_cons ok_interval_limit (fns_cons ok_fixed_ShiftDown (fns_cons ok_fixed_ShiftUp (fns_nil _)))) (inl_nil _) noLoops_ok mixed) Try.func112 run_interval_outward (fun _ => by kernel_rfl)
def hd_interval_outward : Hd := dataHd [.int .i64, .int .i64] [.pair (.int .i64) (.int .i64)] (fun x => some ((fun r => (r, ())) (interval_outward x.1 x.2.1)))
theorem ok_interval_outward : HdOk Try.prog 112 hd_interval_outward.sem ∧ Enters Try.prog 112 := data_ok fn_interval_outward Try.func112 (by kernel_rfl) (by kernel_rfl)

/- armplan/interval.Mul -/
def t_interval_Mul (a0 : (Int × Int)) (a1 : (Int × Int)) : Tr (Int × Int) :=
  let r1 : Bool := interval_both a0 a1
  .br ((!r1)) (
   .leaf (0, 0)) (
   let x2 : Int := IntKind.wrap .i64 (a0.1 * a1.1)
   let x3 : Int := IntKind.wrap .i64 (a0.1 * a1.2)
   let x4 : Int := IntKind.wrap .i64 (a0.2 * a1.1)
   let x5 : Int := IntKind.wrap .i64 (a0.2 * a1.2)
   let x6 : Int := if x2 < x2 then x2 else x2
   let x7 : Int := if x2 > x2 then x2 else x2
   let x8 : Int := if x3 < x6 then x3 else x6
   let x9 : Int := if x3 > x7 then x3 else x7
   let x10 : Int := if x4 < x8 then x4 else x8
   let x11 : Int := if x4 > x9 then x4 else x9
   let x12 : Int := if x5 < x10 then x5 else x10
   let x13 : Int := if x5 > x11 then x5 else x11
   let r14 : (Int × Int) := interval_outward x12 x13
   .leaf r14)
def interval_Mul (a0 : (Int × Int)) (a1 : (Int × Int)) : (Int × Int) := (t_interval_Mul a0 a1).val
theorem run_interval_Mul : ∀ x, runF (mkC btys beqs [(111, hd_interval_both), (112, hd_interval_outward)] [] noLoops) 200 85 Try.f85 (argsA [.pair (.int .i64) (.int .i64), .pair (.int .i64) (.int .i64)] x) [] (fun v h => toRes h [.pair (.int .i64) (.int .i64)] v) = (t_interval_Mul x.1 x.2.1).optA (fun r => (r, ())) := by
  intro x; kernel_rfl
theorem fn_interval_Mul : FnOk Try.prog 85 [.pair (.int .i64) (.int .i64), .pair (.int .i64) (.int .i64)] [.pair (.int .i64) (.int .i64)] (fun x => some ((fun r => (r, ())) (interval_Mul x.1 x.2.1))) :=
  fn_tot (t := fun (x : Ar [.pair (.int .i64) (.int .i64), .pair (.int .i64) (.int .i64)]) => t_interval_Mul x.1 x.2.1) (R := (Int × Int)) (Ts := [.pair (.int .i64) (.int .i64)]) (mk := (fun r => (r, ()))) (mkC_ok btys_ok beqs_ok (fns_cons ok_interval_both (fns_cons ok_interval_outward (fns_nil _))) (inl_nil _) noLoops_ok mixed) Try.func85 run_interval_Mul (fun _ => by kernel_rfl)
def hd_interval_Mul : Hd := dataHd [.pair (.int .i64) (.int .i64), .pair (.int .i64) (.int .i64)] [.pair (.int .i64) (.int .i64)] (fun x => some ((fun r => (r, ())) (interval_Mul x.1 x.2.1)))
theorem ok_interval_Mul : HdOk Try.prog 85 hd_interval_Mul.sem ∧ Enters Try.prog 85 := data_ok fn_interval_Mul Try.func85 (by kernel_rfl) (by kernel_rfl)

/- armplan/matrix.sum -/
def t_matrix_sum (a0 : ((Int × Int) × ((Int × Int) × (Int × Int)))) (a1 : ((Int × Int) × ((Int × Int) × (Int × Int)))) : Tr (Int × Int) :=
  let r1 : (Int × Int) := interval_Mul a0.1 a1.1
  let r2 : (Int × Int) := interval_Mul a0.2.1 a1.2.1
  let r3 : (Int × Int) := interval_Add r1 r2
  let r4 : (Int × Int) := interval_Mul a0.2.2 a1.2.2
  let r5 : (Int × Int) := interval_Add r3 r4
  .leaf r5
def matrix_sum (a0 : ((Int × Int) × ((Int × Int) × (Int × Int)))) (a1 : ((Int × Int) × ((Int × Int) × (Int × Int)))) : (Int × Int) := (t_matrix_sum a0 a1).val
theorem run_matrix_sum : ∀ x, runF (mkC btys beqs [(85, hd_interval_Mul), (86, hd_interval_Add)] [] noLoops) 200 56 Try.f56 (argsA [.pair (.pair (.int .i64) (.int .i64)) (.pair (.pair (.int .i64) (.int .i64)) (.pair (.int .i64) (.int .i64))), .pair (.pair (.int .i64) (.int .i64)) (.pair (.pair (.int .i64) (.int .i64)) (.pair (.int .i64) (.int .i64)))] x) [] (fun v h => toRes h [.pair (.int .i64) (.int .i64)] v) = (t_matrix_sum x.1 x.2.1).optA (fun r => (r, ())) := by
  intro x; kernel_rfl
theorem fn_matrix_sum : FnOk Try.prog 56 [.pair (.pair (.int .i64) (.int .i64)) (.pair (.pair (.int .i64) (.int .i64)) (.pair (.int .i64) (.int .i64))), .pair (.pair (.int .i64) (.int .i64)) (.pair (.pair (.int .i64) (.int .i64)) (.pair (.int .i64) (.int .i64)))] [.pair (.int .i64) (.int .i64)] (fun x => some ((fun r => (r, ())) (matrix_sum x.1 x.2.1))) :=
  fn_tot (t := fun (x : Ar [.pair (.pair (.int .i64) (.int .i64)) (.pair (.pair (.int .i64) (.int .i64)) (.pair (.int .i64) (.int .i64))), .pair (.pair (.int .i64) (.int .i64)) (.pair (.pair (.int .i64) (.int .i64)) (.pair (.int .i64) (.int .i64)))]) => t_matrix_sum x.1 x.2.1) (R := (Int × Int)) (Ts := [.pair (.int .i64) (.int .i64)]) (mk := (fun r => (r, ()))) (mkC_ok btys_ok beqs_ok (fns_cons ok_interval_Mul (fns_cons ok_interval_Add (fns_nil _))) (inl_nil _) noLoops_ok mixed) Try.func56 run_matrix_sum (fun _ => by kernel_rfl)
def hd_matrix_sum : Hd := dataHd [.pair (.pair (.int .i64) (.int .i64)) (.pair (.pair (.int .i64) (.int .i64)) (.pair (.int .i64) (.int .i64))), .pair (.pair (.int .i64) (.int .i64)) (.pair (.pair (.int .i64) (.int .i64)) (.pair (.int .i64) (.int .i64)))] [.pair (.int .i64) (.int .i64)] (fun x => some ((fun r => (r, ())) (matrix_sum x.1 x.2.1)))
theorem ok_matrix_sum : HdOk Try.prog 56 hd_matrix_sum.sem ∧ Enters Try.prog 56 := data_ok fn_matrix_sum Try.func56 (by kernel_rfl) (by kernel_rfl)

/- armplan/matrix.Apply -/
def t_matrix_Apply (a0 : (((Int × Int) × ((Int × Int) × (Int × Int))) × (((Int × Int) × ((Int × Int) × (Int × Int))) × ((Int × Int) × ((Int × Int) × (Int × Int)))))) (a1 : ((Int × Int) × ((Int × Int) × (Int × Int)))) : Tr ((Int × Int) × ((Int × Int) × (Int × Int))) :=
  let r1 : (Int × Int) := matrix_sum a0.1 a1
  let r2 : (Int × Int) := matrix_sum a0.2.1 a1
  let r3 : (Int × Int) := matrix_sum a0.2.2 a1
  .leaf (r1, (r2, r3))
def matrix_Apply (a0 : (((Int × Int) × ((Int × Int) × (Int × Int))) × (((Int × Int) × ((Int × Int) × (Int × Int))) × ((Int × Int) × ((Int × Int) × (Int × Int)))))) (a1 : ((Int × Int) × ((Int × Int) × (Int × Int)))) : ((Int × Int) × ((Int × Int) × (Int × Int))) := (t_matrix_Apply a0 a1).val
theorem run_matrix_Apply : ∀ x, runF (mkC btys beqs [(56, hd_matrix_sum)] [] noLoops) 200 18 Try.f18 (argsA [.pair (.pair (.pair (.int .i64) (.int .i64)) (.pair (.pair (.int .i64) (.int .i64)) (.pair (.int .i64) (.int .i64)))) (.pair (.pair (.pair (.int .i64) (.int .i64)) (.pair (.pair (.int .i64) (.int .i64)) (.pair (.int .i64) (.int .i64)))) (.pair (.pair (.int .i64) (.int .i64)) (.pair (.pair (.int .i64) (.int .i64)) (.pair (.int .i64) (.int .i64))))), .pair (.pair (.int .i64) (.int .i64)) (.pair (.pair (.int .i64) (.int .i64)) (.pair (.int .i64) (.int .i64)))] x) [] (fun v h => toRes h [.pair (.pair (.int .i64) (.int .i64)) (.pair (.pair (.int .i64) (.int .i64)) (.pair (.int .i64) (.int .i64)))] v) = (t_matrix_Apply x.1 x.2.1).optA (fun r => (r, ())) := by
  intro x; kernel_rfl
theorem fn_matrix_Apply : FnOk Try.prog 18 [.pair (.pair (.pair (.int .i64) (.int .i64)) (.pair (.pair (.int .i64) (.int .i64)) (.pair (.int .i64) (.int .i64)))) (.pair (.pair (.pair (.int .i64) (.int .i64)) (.pair (.pair (.int .i64) (.int .i64)) (.pair (.int .i64) (.int .i64)))) (.pair (.pair (.int .i64) (.int .i64)) (.pair (.pair (.int .i64) (.int .i64)) (.pair (.int .i64) (.int .i64))))), .pair (.pair (.int .i64) (.int .i64)) (.pair (.pair (.int .i64) (.int .i64)) (.pair (.int .i64) (.int .i64)))] [.pair (.pair (.int .i64) (.int .i64)) (.pair (.pair (.int .i64) (.int .i64)) (.pair (.int .i64) (.int .i64)))] (fun x => some ((fun r => (r, ())) (matrix_Apply x.1 x.2.1))) :=
  fn_tot (t := fun (x : Ar [.pair (.pair (.pair (.int .i64) (.int .i64)) (.pair (.pair (.int .i64) (.int .i64)) (.pair (.int .i64) (.int .i64)))) (.pair (.pair (.pair (.int .i64) (.int .i64)) (.pair (.pair (.int .i64) (.int .i64)) (.pair (.int .i64) (.int .i64)))) (.pair (.pair (.int .i64) (.int .i64)) (.pair (.pair (.int .i64) (.int .i64)) (.pair (.int .i64) (.int .i64))))), .pair (.pair (.int .i64) (.int .i64)) (.pair (.pair (.int .i64) (.int .i64)) (.pair (.int .i64) (.int .i64)))]) => t_matrix_Apply x.1 x.2.1) (R := ((Int × Int) × ((Int × Int) × (Int × Int)))) (Ts := [.pair (.pair (.int .i64) (.int .i64)) (.pair (.pair (.int .i64) (.int .i64)) (.pair (.int .i64) (.int .i64)))]) (mk := (fun r => (r, ()))) (mkC_ok btys_ok beqs_ok (fns_cons ok_matrix_sum (fns_nil _)) (inl_nil _) noLoops_ok mixed) Try.func18 run_matrix_Apply (fun _ => by kernel_rfl)
def hd_matrix_Apply : Hd := dataHd [.pair (.pair (.pair (.int .i64) (.int .i64)) (.pair (.pair (.int .i64) (.int .i64)) (.pair (.int .i64) (.int .i64)))) (.pair (.pair (.pair (.int .i64) (.int .i64)) (.pair (.pair (.int .i64) (.int .i64)) (.pair (.int .i64) (.int .i64)))) (.pair (.pair (.int .i64) (.int .i64)) (.pair (.pair (.int .i64) (.int .i64)) (.pair (.int .i64) (.int .i64))))), .pair (.pair (.int .i64) (.int .i64)) (.pair (.pair (.int .i64) (.int .i64)) (.pair (.int .i64) (.int .i64)))] [.pair (.pair (.int .i64) (.int .i64)) (.pair (.pair (.int .i64) (.int .i64)) (.pair (.int .i64) (.int .i64)))] (fun x => some ((fun r => (r, ())) (matrix_Apply x.1 x.2.1)))
theorem ok_matrix_Apply : HdOk Try.prog 18 hd_matrix_Apply.sem ∧ Enters Try.prog 18 := data_ok fn_matrix_Apply Try.func18 (by kernel_rfl) (by kernel_rfl)

/- armplan/matrix.Point -/
def t_matrix_Point (a0 : (Int × (Int × Int))) : Tr ((Int × Int) × ((Int × Int) × (Int × Int))) :=
  let r1 : (Int × Int) := interval_Of a0.1
  let r2 : (Int × Int) := interval_Of a0.2.1
  let r3 : (Int × Int) := interval_Of a0.2.2
  .leaf (r1, (r2, r3))
def matrix_Point (a0 : (Int × (Int × Int))) : ((Int × Int) × ((Int × Int) × (Int × Int))) := (t_matrix_Point a0).val
theorem run_matrix_Point : ∀ x, runF (mkC btys beqs [(90, hd_interval_Of)] [] noLoops) 200 66 Try.f66 (argsA [.pair (.int .i64) (.pair (.int .i64) (.int .i64))] x) [] (fun v h => toRes h [.pair (.pair (.int .i64) (.int .i64)) (.pair (.pair (.int .i64) (.int .i64)) (.pair (.int .i64) (.int .i64)))] v) = (t_matrix_Point x.1).optA (fun r => (r, ())) := by
  intro x; kernel_rfl
theorem fn_matrix_Point : FnOk Try.prog 66 [.pair (.int .i64) (.pair (.int .i64) (.int .i64))] [.pair (.pair (.int .i64) (.int .i64)) (.pair (.pair (.int .i64) (.int .i64)) (.pair (.int .i64) (.int .i64)))] (fun x => some ((fun r => (r, ())) (matrix_Point x.1))) :=
  fn_tot (t := fun (x : Ar [.pair (.int .i64) (.pair (.int .i64) (.int .i64))]) => t_matrix_Point x.1) (R := ((Int × Int) × ((Int × Int) × (Int × Int)))) (Ts := [.pair (.pair (.int .i64) (.int .i64)) (.pair (.pair (.int .i64) (.int .i64)) (.pair (.int .i64) (.int .i64)))]) (mk := (fun r => (r, ()))) (mkC_ok btys_ok beqs_ok (fns_cons ok_interval_Of (fns_nil _)) (inl_nil _) noLoops_ok mixed) Try.func66 run_matrix_Point (fun _ => by kernel_rfl)
def hd_matrix_Point : Hd := dataHd [.pair (.int .i64) (.pair (.int .i64) (.int .i64))] [.pair (.pair (.int .i64) (.int .i64)) (.pair (.pair (.int .i64) (.int .i64)) (.pair (.int .i64) (.int .i64)))] (fun x => some ((fun r => (r, ())) (matrix_Point x.1)))
theorem ok_matrix_Point : HdOk Try.prog 66 hd_matrix_Point.sem ∧ Enters Try.prog 66 := data_ok fn_matrix_Point Try.func66 (by kernel_rfl) (by kernel_rfl)

/- armplan/interval.Within -/
def t_interval_Within (a0 : (Int × Int)) (a1 : (Int × Int)) : Tr Bool :=
  let r1 : Bool := interval_both a0 a1
  .br (r1) (
   let x2 : Bool := decide (a1.1 ≤ a0.1)
   .br (x2) (
    let x3 : Bool := decide (a0.2 ≤ a1.2)
    .leaf x3) (
    .leaf false)) (
   .leaf false)
def interval_Within (a0 : (Int × Int)) (a1 : (Int × Int)) : Bool := (t_interval_Within a0 a1).val
theorem run_interval_Within : ∀ x, runF (mkC btys beqs [(111, hd_interval_both)] [] noLoops) 200 94 Try.f94 (argsA [.pair (.int .i64) (.int .i64), .pair (.int .i64) (.int .i64)] x) [] (fun v h => toRes h [.bool] v) = (t_interval_Within x.1 x.2.1).optA (fun r => (r, ())) := by
  intro x; kernel_rfl
theorem fn_interval_Within : FnOk Try.prog 94 [.pair (.int .i64) (.int .i64), .pair (.int .i64) (.int .i64)] [.bool] (fun x => some ((fun r => (r, ())) (interval_Within x.1 x.2.1))) :=
  fn_tot (t := fun (x : Ar [.pair (.int .i64) (.int .i64), .pair (.int .i64) (.int .i64)]) => t_interval_Within x.1 x.2.1) (R := Bool) (Ts := [.bool]) (mk := (fun r => (r, ()))) (mkC_ok btys_ok beqs_ok (fns_cons ok_interval_both (fns_nil _)) (inl_nil _) noLoops_ok mixed) Try.func94 run_interval_Within (fun _ => by kernel_rfl)
def hd_interval_Within : Hd := dataHd [.pair (.int .i64) (.int .i64), .pair (.int .i64) (.int .i64)] [.bool] (fun x => some ((fun r => (r, ())) (interval_Within x.1 x.2.1)))
theorem ok_interval_Within : HdOk Try.prog 94 hd_interval_Within.sem ∧ Enters Try.prog 94 := data_ok fn_interval_Within Try.func94 (by kernel_rfl) (by kernel_rfl)

/- armplan/matrix.Within -/
def t_matrix_Within (a0 : ((Int × Int) × ((Int × Int) × (Int × Int)))) (a1 : ((Int × Int) × ((Int × Int) × (Int × Int)))) : Tr Bool :=
  let r1 : Bool := interval_Within a0.1 a1.1
  .br ((!r1)) (
   .leaf false) (
   let r2 : Bool := interval_Within a0.2.1 a1.2.1
   .br ((!r2)) (
    .leaf false) (
    let r3 : Bool := interval_Within a0.2.2 a1.2.2
    .br ((!r3)) (
     .leaf false) (
     .leaf true)))
def matrix_Within (a0 : ((Int × Int) × ((Int × Int) × (Int × Int)))) (a1 : ((Int × Int) × ((Int × Int) × (Int × Int)))) : Bool := (t_matrix_Within a0 a1).val
theorem run_matrix_Within : ∀ x, runF (mkC btys beqs [(94, hd_interval_Within)] [] noLoops) 200 67 Try.f67 (argsA [.pair (.pair (.int .i64) (.int .i64)) (.pair (.pair (.int .i64) (.int .i64)) (.pair (.int .i64) (.int .i64))), .pair (.pair (.int .i64) (.int .i64)) (.pair (.pair (.int .i64) (.int .i64)) (.pair (.int .i64) (.int .i64)))] x) [] (fun v h => toRes h [.bool] v) = (t_matrix_Within x.1 x.2.1).optA (fun r => (r, ())) := by
  intro x; kernel_rfl
theorem fn_matrix_Within : FnOk Try.prog 67 [.pair (.pair (.int .i64) (.int .i64)) (.pair (.pair (.int .i64) (.int .i64)) (.pair (.int .i64) (.int .i64))), .pair (.pair (.int .i64) (.int .i64)) (.pair (.pair (.int .i64) (.int .i64)) (.pair (.int .i64) (.int .i64)))] [.bool] (fun x => some ((fun r => (r, ())) (matrix_Within x.1 x.2.1))) :=
  fn_tot (t := fun (x : Ar [.pair (.pair (.int .i64) (.int .i64)) (.pair (.pair (.int .i64) (.int .i64)) (.pair (.int .i64) (.int .i64))), .pair (.pair (.int .i64) (.int .i64)) (.pair (.pair (.int .i64) (.int .i64)) (.pair (.int .i64) (.int .i64)))]) => t_matrix_Within x.1 x.2.1) (R := Bool) (Ts := [.bool]) (mk := (fun r => (r, ()))) (mkC_ok btys_ok beqs_ok (fns_cons ok_interval_Within (fns_nil _)) (inl_nil _) noLoops_ok mixed) Try.func67 run_matrix_Within (fun _ => by kernel_rfl)
def hd_matrix_Within : Hd := dataHd [.pair (.pair (.int .i64) (.int .i64)) (.pair (.pair (.int .i64) (.int .i64)) (.pair (.int .i64) (.int .i64))), .pair (.pair (.int .i64) (.int .i64)) (.pair (.pair (.int .i64) (.int .i64)) (.pair (.int .i64) (.int .i64)))] [.bool] (fun x => some ((fun r => (r, ())) (matrix_Within x.1 x.2.1)))
theorem ok_matrix_Within : HdOk Try.prog 67 hd_matrix_Within.sem ∧ Enters Try.prog 67 := data_ok fn_matrix_Within Try.func67 (by kernel_rfl) (by kernel_rfl)

/- armplan/armplanlaw4.awake -/
def t_armplanlaw4_awake : Tr Bool :=
  let r1 : (Int × Int) := armplanref1_Of 16384
  let r2 : (((Int × Int) × ((Int × Int) × (Int × Int))) × (((Int × Int) × ((Int × Int) × (Int × Int))) × ((Int × Int) × ((Int × Int) × (Int × Int))))) := matrix_Turn 2 r1
  let r3 : ((Int × Int) × ((Int × Int) × (Int × Int))) := matrix_Point (3, (5, 7))
  let r4 : ((Int × Int) × ((Int × Int) × (Int × Int))) := matrix_Apply r2 r3
  let r5 : ((Int × Int) × ((Int × Int) × (Int × Int))) := armplanref1_Point ((-5), (3, 7))
  let x6 : Bool := (decide (r4.1.1 = r5.1.1) && (decide (r4.1.2 = r5.1.2) && (decide (r4.2.1.1 = r5.2.1.1) && (decide (r4.2.1.2 = r5.2.1.2) && (decide (r4.2.2.1 = r5.2.2.1) && (decide (r4.2.2.2 = r5.2.2.2) && true))))))
  .br (x6) (
   let r7 : Bool := matrix_Within r4 r4
   .leaf r7) (
   .leaf false)
def armplanlaw4_awake : Bool := t_armplanlaw4_awake.val
theorem run_armplanlaw4_awake : ∀ x, runF (mkC btys beqs [(16, hd_armplanref1_Point), (18, hd_matrix_Apply), (19, hd_matrix_Turn), (21, hd_armplanref1_Of), (66, hd_matrix_Point), (67, hd_matrix_Within)] [] noLoops) 200 24 Try.f24 (argsA [] x) [] (fun v h => toRes h [.bool] v) = (t_armplanlaw4_awake ).optA (fun r => (r, ())) := by
  intro x; kernel_rfl
theorem fn_armplanlaw4_awake : FnOk Try.prog 24 [] [.bool] (fun _ => some ((fun r => (r, ())) armplanlaw4_awake)) :=
  fn_tot (t := fun (_ : Ar []) => t_armplanlaw4_awake ) (R := Bool) (Ts := [.bool]) (mk := (fun r => (r, ()))) (mkC_ok btys_ok beqs_ok (fns_cons ok_armplanref1_Point (fns_cons ok_matrix_Apply (fns_cons ok_matrix_Turn (fns_cons ok_armplanref1_Of (fns_cons ok_matrix_Point (fns_cons ok_matrix_Within (fns_nil _))))))) (inl_nil _) noLoops_ok mixed) Try.func24 run_armplanlaw4_awake (fun _ => by kernel_rfl)
def hd_armplanlaw4_awake : Hd := dataHd [] [.bool] (fun _ => some ((fun r => (r, ())) armplanlaw4_awake))
theorem ok_armplanlaw4_awake : HdOk Try.prog 24 hd_armplanlaw4_awake.sem ∧ Enters Try.prog 24 := data_ok fn_armplanlaw4_awake Try.func24 (by kernel_rfl) (by kernel_rfl)

/- armplan/armplanref1.Turn -/
def t_armplanref1_Turn (a0 : Int) (a1 : (Int × Int)) : Tr (((Int × Int) × ((Int × Int) × (Int × Int))) × (((Int × Int) × ((Int × Int) × (Int × Int))) × ((Int × Int) × ((Int × Int) × (Int × Int))))) :=
  let r1 : Bool := armplanref1_Valid a1
  .br ((!r1)) (
   .leaf (((0, 0), ((0, 0), (0, 0))), (((0, 0), ((0, 0), (0, 0))), ((0, 0), ((0, 0), (0, 0)))))) (
   let r2 : (Int × Int) := armplanref1_Of 65536
   let r3 : (Int × Int) := armplanref1_CosOver a1
   let r4 : (Int × Int) := armplanref1_SinOver a1
   let r5 : (Int × Int) := armplanref1_Neg r4
   let x6 : Bool := decide (a0 = 0)
   .br (x6) (
    .leaf ((r2, ((0, 0), (0, 0))), (((0, 0), (r3, r5)), ((0, 0), (r4, r3))))) (
    let x7 : Bool := decide (a0 = 1)
    .br (x7) (
     .leaf ((r3, ((0, 0), r4)), (((0, 0), (r2, (0, 0))), (r5, ((0, 0), r3))))) (
     let x8 : Bool := decide (a0 = 2)
     .br (x8) (
      .leaf ((r3, (r5, (0, 0))), ((r4, (r3, (0, 0))), ((0, 0), ((0, 0), r2))))) (
      .leaf (((0, 0), ((0, 0), (0, 0))), (((0, 0), ((0, 0), (0, 0))), ((0, 0), ((0, 0), (0, 0)))))))))
def armplanref1_Turn (a0 : Int) (a1 : (Int × Int)) : (((Int × Int) × ((Int × Int) × (Int × Int))) × (((Int × Int) × ((Int × Int) × (Int × Int))) × ((Int × Int) × ((Int × Int) × (Int × Int))))) := (t_armplanref1_Turn a0 a1).val
theorem run_armplanref1_Turn : ∀ x, runF (mkC btys beqs [(21, hd_armplanref1_Of), (63, hd_armplanref1_Valid), (97, hd_armplanref1_CosOver), (98, hd_armplanref1_SinOver), (99, hd_armplanref1_Neg)] [] noLoops) 200 71 Try.f71 (argsA [.int .i64, .pair (.int .i64) (.int .i64)] x) [] (fun v h => toRes h [.pair (.pair (.pair (.int .i64) (.int .i64)) (.pair (.pair (.int .i64) (.int .i64)) (.pair (.int .i64) (.int .i64)))) (.pair (.pair (.pair (.int .i64) (.int .i64)) (.pair (.pair (.int .i64) (.int .i64)) (.pair (.int .i64) (.int .i64)))) (.pair (.pair (.int .i64) (.int .i64)) (.pair (.pair (.int .i64) (.int .i64)) (.pair (.int .i64) (.int .i64)))))] v) = (t_armplanref1_Turn x.1 x.2.1).optA (fun r => (r, ())) := by
  intro x; kernel_rfl
theorem fn_armplanref1_Turn : FnOk Try.prog 71 [.int .i64, .pair (.int .i64) (.int .i64)] [.pair (.pair (.pair (.int .i64) (.int .i64)) (.pair (.pair (.int .i64) (.int .i64)) (.pair (.int .i64) (.int .i64)))) (.pair (.pair (.pair (.int .i64) (.int .i64)) (.pair (.pair (.int .i64) (.int .i64)) (.pair (.int .i64) (.int .i64)))) (.pair (.pair (.int .i64) (.int .i64)) (.pair (.pair (.int .i64) (.int .i64)) (.pair (.int .i64) (.int .i64)))))] (fun x => some ((fun r => (r, ())) (armplanref1_Turn x.1 x.2.1))) :=
  fn_tot (t := fun (x : Ar [.int .i64, .pair (.int .i64) (.int .i64)]) => t_armplanref1_Turn x.1 x.2.1) (R := (((Int × Int) × ((Int × Int) × (Int × Int))) × (((Int × Int) × ((Int × Int) × (Int × Int))) × ((Int × Int) × ((Int × Int) × (Int × Int)))))) (Ts := [.pair (.pair (.pair (.int .i64) (.int .i64)) (.pair (.pair (.int .i64) (.int .i64)) (.pair (.int .i64) (.int .i64)))) (.pair (.pair (.pair (.int .i64) (.int .i64)) (.pair (.pair (.int .i64) (.int .i64)) (.pair (.int .i64) (.int .i64)))) (.pair (.pair (.int .i64) (.int .i64)) (.pair (.pair (.int .i64) (.int .i64)) (.pair (.int .i64) (.int .i64)))))]) (mk := (fun r => (r, ()))) (mkC_ok btys_ok beqs_ok (fns_cons ok_armplanref1_Of (fns_cons ok_armplanref1_Valid (fns_cons ok_armplanref1_CosOver (fns_cons ok_armplanref1_SinOver (fns_cons ok_armplanref1_Neg (fns_nil _)))))) (inl_nil _) noLoops_ok mixed) Try.func71 run_armplanref1_Turn (fun _ => by kernel_rfl)
def hd_armplanref1_Turn : Hd := dataHd [.int .i64, .pair (.int .i64) (.int .i64)] [.pair (.pair (.pair (.int .i64) (.int .i64)) (.pair (.pair (.int .i64) (.int .i64)) (.pair (.int .i64) (.int .i64)))) (.pair (.pair (.pair (.int .i64) (.int .i64)) (.pair (.pair (.int .i64) (.int .i64)) (.pair (.int .i64) (.int .i64)))) (.pair (.pair (.int .i64) (.int .i64)) (.pair (.pair (.int .i64) (.int .i64)) (.pair (.int .i64) (.int .i64)))))] (fun x => some ((fun r => (r, ())) (armplanref1_Turn x.1 x.2.1)))
theorem ok_armplanref1_Turn : HdOk Try.prog 71 hd_armplanref1_Turn.sem ∧ Enters Try.prog 71 := data_ok fn_armplanref1_Turn Try.func71 (by kernel_rfl) (by kernel_rfl)

end Go.RX

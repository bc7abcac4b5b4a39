/-
  The contracts of functions.
-/
import Derived.Test.YtlikaaohkecccaaFA
import Derived.Test.YtlikaaohkecccaaSb
namespace Go.RX
open Go.Proofs

def btys : List (Nat × TRow) := [(2, ⟨.int .i64, 1, 8, [.int .i64 0], .int .i64⟩),
  (24, ⟨.struct [(0, 1), (1, 1)], 2, 16, [.int .i64 0, .int .i64 0], .pair (.int .i64) (.int .i64)⟩),
  (43, ⟨.arr 3 24, 6, 48, [.int .i64 0, .int .i64 0, .int .i64 0, .int .i64 0, .int .i64 0, .int .i64 0], .pair (.pair (.int .i64) (.int .i64)) (.pair (.pair (.int .i64) (.int .i64)) (.pair (.int .i64) (.int .i64)))⟩),
  (45, ⟨.arr 3 43, 18, 144, [.int .i64 0, .int .i64 0, .int .i64 0, .int .i64 0, .int .i64 0, .int .i64 0, .int .i64 0, .int .i64 0, .int .i64 0, .int .i64 0, .int .i64 0, .int .i64 0, .int .i64 0, .int .i64 0, .int .i64 0, .int .i64 0, .int .i64 0, .int .i64 0], .pair (.pair (.pair (.int .i64) (.int .i64)) (.pair (.pair (.int .i64) (.int .i64)) (.pair (.int .i64) (.int .i64)))) (.pair (.pair (.pair (.int .i64) (.int .i64)) (.pair (.pair (.int .i64) (.int .i64)) (.pair (.int .i64) (.int .i64)))) (.pair (.pair (.int .i64) (.int .i64)) (.pair (.pair (.int .i64) (.int .i64)) (.pair (.int .i64) (.int .i64)))))⟩),
  (51, ⟨.arr 3 24, 6, 48, [.int .i64 0, .int .i64 0, .int .i64 0, .int .i64 0, .int .i64 0, .int .i64 0], .pair (.pair (.int .i64) (.int .i64)) (.pair (.pair (.int .i64) (.int .i64)) (.pair (.int .i64) (.int .i64)))⟩),
  (55, ⟨.arr 3 2, 3, 24, [.int .i64 0, .int .i64 0, .int .i64 0], .pair (.int .i64) (.pair (.int .i64) (.int .i64))⟩),
  (154, ⟨.arr 4 2, 4, 32, [.int .i64 0, .int .i64 0, .int .i64 0, .int .i64 0], .pair (.int .i64) (.pair (.int .i64) (.pair (.int .i64) (.int .i64)))⟩)]
def beqs : List (Nat × (Bool × List TK)) := [(45, (true, [.int .i64, .int .i64, .int .i64, .int .i64, .int .i64, .int .i64, .int .i64, .int .i64, .int .i64, .int .i64, .int .i64, .int .i64, .int .i64, .int .i64, .int .i64, .int .i64, .int .i64, .int .i64])),
  (51, (true, [.int .i64, .int .i64, .int .i64, .int .i64, .int .i64, .int .i64]))]
theorem btys_ok : tableOk Try.prog btys = true := by kernel_rfl
theorem beqs_ok : eqsOk Try.prog beqs = true := by kernel_rfl

/- armplan/fixed.Clamp -/
def t_fixed_Clamp (a0 : Int) : Tr Int :=
  let x1 : Int := if (-2147483648) > a0 then (-2147483648) else a0
  let x2 : Int := if 2147483648 < x1 then 2147483648 else x1
  .leaf x2
def fixed_Clamp (a0 : Int) : Int := (t_fixed_Clamp a0).val
theorem run_fixed_Clamp : ∀ x, runF (mkC btys beqs [] [] noLoops) 200 162 Try.f162 (argsA [.int .i64] x) [] (fun v h => toRes h [.int .i64] v) = (t_fixed_Clamp x.1).optA (fun r => (r, ())) := by
  intro x; kernel_rfl
theorem fn_fixed_Clamp : FnOk Try.prog 162 [.int .i64] [.int .i64] (fun x => some ((fun r => (r, ())) (fixed_Clamp x.1))) :=
  fn_tot (t := fun (x : Ar [.int .i64]) => t_fixed_Clamp x.1) (R := Int) (Ts := [.int .i64]) (mk := (fun r => (r, ()))) (mkC_ok btys_ok beqs_ok (fns_nil _) (inl_nil _) noLoops_ok mixed) Try.func162 run_fixed_Clamp (fun _ => by kernel_rfl)
def hd_fixed_Clamp : Hd := dataHd [.int .i64] [.int .i64] (fun x => some ((fun r => (r, ())) (fixed_Clamp x.1)))
theorem ok_fixed_Clamp : HdOk Try.prog 162 hd_fixed_Clamp.sem ∧ Enters Try.prog 162 := data_ok fn_fixed_Clamp Try.func162 (by kernel_rfl) (by kernel_rfl)

/- armplan/interval.limit -/
def t_interval_limit (a0 : Int) (a1 : Int) : Tr (Int × Int) :=
  let r1 : Int := fixed_Clamp a0
  let r2 : Int := fixed_Clamp a1
  .leaf (r1, r2)
def interval_limit (a0 : Int) (a1 : Int) : (Int × Int) := (t_interval_limit a0 a1).val
theorem run_interval_limit : ∀ x, runF (mkC btys beqs [(162, hd_fixed_Clamp)] [] noLoops) 200 144 Try.f144 (argsA [.int .i64, .int .i64] x) [] (fun v h => toRes h [.pair (.int .i64) (.int .i64)] v) = (t_interval_limit x.1 x.2.1).optA (fun r => (r, ())) := by
  intro x; kernel_rfl
theorem fn_interval_limit : FnOk Try.prog 144 [.int .i64, .int .i64] [.pair (.int .i64) (.int .i64)] (fun x => some ((fun r => (r, ())) (interval_limit x.1 x.2.1))) :=
  fn_tot (t := fun (x : Ar [.int .i64, .int .i64]) => t_interval_limit x.1 x.2.1) (R := (Int × Int)) (Ts := [.pair (.int .i64) (.int .i64)]) (mk := (fun r => (r, ()))) (mkC_ok btys_ok beqs_ok (fns_cons ok_fixed_Clamp (fns_nil _)) (inl_nil _) noLoops_ok mixed) Try.func144 run_interval_limit (fun _ => by kernel_rfl)
def hd_interval_limit : Hd := dataHd [.int .i64, .int .i64] [.pair (.int .i64) (.int .i64)] (fun x => some ((fun r => (r, ())) (interval_limit x.1 x.2.1)))
theorem ok_interval_limit : HdOk Try.prog 144 hd_interval_limit.sem ∧ Enters Try.prog 144 := data_ok fn_interval_limit Try.func144 (by kernel_rfl) (by kernel_rfl)

/- armplan/interval.Of -/
def t_interval_Of (a0 : Int) : Tr (Int × Int) :=
  let r1 : (Int × Int) := interval_limit a0 a0
  .leaf r1
def interval_Of (a0 : Int) : (Int × Int) := (t_interval_Of a0).val
theorem run_interval_Of : ∀ x, runF (mkC btys beqs [(144, hd_interval_limit)] [] noLoops) 200 115 Try.f115 (argsA [.int .i64] x) [] (fun v h => toRes h [.pair (.int .i64) (.int .i64)] v) = (t_interval_Of x.1).optA (fun r => (r, ())) := by
  intro x; kernel_rfl
theorem fn_interval_Of : FnOk Try.prog 115 [.int .i64] [.pair (.int .i64) (.int .i64)] (fun x => some ((fun r => (r, ())) (interval_Of x.1))) :=
  fn_tot (t := fun (x : Ar [.int .i64]) => t_interval_Of x.1) (R := (Int × Int)) (Ts := [.pair (.int .i64) (.int .i64)]) (mk := (fun r => (r, ()))) (mkC_ok btys_ok beqs_ok (fns_cons ok_interval_limit (fns_nil _)) (inl_nil _) noLoops_ok mixed) Try.func115 run_interval_Of (fun _ => by kernel_rfl)
def hd_interval_Of : Hd := dataHd [.int .i64] [.pair (.int .i64) (.int .i64)] (fun x => some ((fun r => (r, ())) (interval_Of x.1)))
theorem ok_interval_Of : HdOk Try.prog 115 hd_interval_Of.sem ∧ Enters Try.prog 115 := data_ok fn_interval_Of Try.func115 (by kernel_rfl) (by kernel_rfl)

/- armplan/matrix.one -/
def t_matrix_one : Tr (Int × Int) :=
  let r1 : (Int × Int) := interval_Of 65536
  .leaf r1
def matrix_one : (Int × Int) := t_matrix_one.val
theorem run_matrix_one : ∀ x, runF (mkC btys beqs [(115, hd_interval_Of)] [] noLoops) 200 110 Try.f110 (argsA [] x) [] (fun v h => toRes h [.pair (.int .i64) (.int .i64)] v) = (t_matrix_one ).optA (fun r => (r, ())) := by
  intro x; kernel_rfl
theorem fn_matrix_one : FnOk Try.prog 110 [] [.pair (.int .i64) (.int .i64)] (fun _ => some ((fun r => (r, ())) matrix_one)) :=
  fn_tot (t := fun (_ : Ar []) => t_matrix_one ) (R := (Int × Int)) (Ts := [.pair (.int .i64) (.int .i64)]) (mk := (fun r => (r, ()))) (mkC_ok btys_ok beqs_ok (fns_cons ok_interval_Of (fns_nil _)) (inl_nil _) noLoops_ok mixed) Try.func110 run_matrix_one (fun _ => by kernel_rfl)
def hd_matrix_one : Hd := dataHd [] [.pair (.int .i64) (.int .i64)] (fun _ => some ((fun r => (r, ())) matrix_one))
theorem ok_matrix_one : HdOk Try.prog 110 hd_matrix_one.sem ∧ Enters Try.prog 110 := data_ok fn_matrix_one Try.func110 (by kernel_rfl) (by kernel_rfl)

/- armplan/matrix.Turn -/
def t_matrix_Turn_0 (a1 : (Int × Int)) : Tr (((Int × Int) × ((Int × Int) × (Int × Int))) × (((Int × Int) × ((Int × Int) × (Int × Int))) × ((Int × Int) × ((Int × Int) × (Int × Int))))) :=
  let r1 : Bool := interval_Valid a1
  .br ((!r1)) (
   .leaf (((0, 0), ((0, 0), (0, 0))), (((0, 0), ((0, 0), (0, 0))), ((0, 0), ((0, 0), (0, 0)))))) (
   let r2 : (Int × Int) := angle_CosOver a1
   let r3 : (Int × Int) := angle_SinOver a1
   let r4 : (Int × Int) := matrix_one
   let r5 : (Int × Int) := interval_Neg r3
   .leaf ((r4, ((0, 0), (0, 0))), (((0, 0), (r2, r5)), ((0, 0), (r3, r2)))))
theorem run_matrix_Turn_0 : ∀ y : Ar [.pair (.int .i64) (.int .i64)], runF (mkC btys beqs [(45, hd_angle_SinOver), (47, hd_angle_CosOver), (100, hd_interval_Neg), (109, hd_interval_Valid), (110, hd_matrix_one)] [] noLoops) 200 51 Try.f51 (argsA [.int .i64, .pair (.int .i64) (.int .i64)] (0, y)) [] (fun v h => toRes h [.pair (.pair (.pair (.int .i64) (.int .i64)) (.pair (.pair (.int .i64) (.int .i64)) (.pair (.int .i64) (.int .i64)))) (.pair (.pair (.pair (.int .i64) (.int .i64)) (.pair (.pair (.int .i64) (.int .i64)) (.pair (.int .i64) (.int .i64)))) (.pair (.pair (.int .i64) (.int .i64)) (.pair (.pair (.int .i64) (.int .i64)) (.pair (.int .i64) (.int .i64)))))] v) = (t_matrix_Turn_0 y.1).optA (fun r => (r, ())) := by
  intro y; kernel_rfl
theorem fn_matrix_Turn_0 : FnOk Try.prog 51 [.int .i64, .pair (.int .i64) (.int .i64)] [.pair (.pair (.pair (.int .i64) (.int .i64)) (.pair (.pair (.int .i64) (.int .i64)) (.pair (.int .i64) (.int .i64)))) (.pair (.pair (.pair (.int .i64) (.int .i64)) (.pair (.pair (.int .i64) (.int .i64)) (.pair (.int .i64) (.int .i64)))) (.pair (.pair (.int .i64) (.int .i64)) (.pair (.pair (.int .i64) (.int .i64)) (.pair (.int .i64) (.int .i64)))))] (fun x => if x.1 = 0 then some ((fun r => (r, ())) (t_matrix_Turn_0 x.2.1).val) else none) :=
  fn_lit (R := (((Int × Int) × ((Int × Int) × (Int × Int))) × (((Int × Int) × ((Int × Int) × (Int × Int))) × ((Int × Int) × ((Int × Int) × (Int × Int)))))) (Ts := [.pair (.pair (.pair (.int .i64) (.int .i64)) (.pair (.pair (.int .i64) (.int .i64)) (.pair (.int .i64) (.int .i64)))) (.pair (.pair (.pair (.int .i64) (.int .i64)) (.pair (.pair (.int .i64) (.int .i64)) (.pair (.int .i64) (.int .i64)))) (.pair (.pair (.int .i64) (.int .i64)) (.pair (.pair (.int .i64) (.int .i64)) (.pair (.int .i64) (.int .i64)))))]) (mk := (fun r => (r, ()))) (t := fun (y : Ar [.pair (.int .i64) (.int .i64)]) => t_matrix_Turn_0 y.1) (mkC_ok btys_ok beqs_ok (fns_cons ok_angle_SinOver (fns_cons ok_angle_CosOver (fns_cons ok_interval_Neg (fns_cons ok_interval_Valid (fns_cons ok_matrix_one (fns_nil _)))))) (inl_nil _) noLoops_ok mixed) Try.func51 0 run_matrix_Turn_0 (fun _ => by kernel_rfl)
def t_matrix_Turn_1 (a1 : (Int × Int)) : Tr (((Int × Int) × ((Int × Int) × (Int × Int))) × (((Int × Int) × ((Int × Int) × (Int × Int))) × ((Int × Int) × ((Int × Int) × (Int × Int))))) :=
  let r1 : Bool := interval_Valid a1
  .br ((!r1)) (
   .leaf (((0, 0), ((0, 0), (0, 0))), (((0, 0), ((0, 0), (0, 0))), ((0, 0), ((0, 0), (0, 0)))))) (
   let r2 : (Int × Int) := angle_CosOver a1
   let r3 : (Int × Int) := angle_SinOver a1
   let r4 : (Int × Int) := matrix_one
   let r5 : (Int × Int) := interval_Neg r3
   .leaf ((r2, ((0, 0), r3)), (((0, 0), (r4, (0, 0))), (r5, ((0, 0), r2)))))
theorem run_matrix_Turn_1 : ∀ y : Ar [.pair (.int .i64) (.int .i64)], runF (mkC btys beqs [(45, hd_angle_SinOver), (47, hd_angle_CosOver), (100, hd_interval_Neg), (109, hd_interval_Valid), (110, hd_matrix_one)] [] noLoops) 200 51 Try.f51 (argsA [.int .i64, .pair (.int .i64) (.int .i64)] (1, y)) [] (fun v h => toRes h [.pair (.pair (.pair (.int .i64) (.int .i64)) (.pair (.pair (.int .i64) (.int .i64)) (.pair (.int .i64) (.int .i64)))) (.pair (.pair (.pair (.int .i64) (.int .i64)) (.pair (.pair (.int .i64) (.int .i64)) (.pair (.int .i64) (.int .i64)))) (.pair (.pair (.int .i64) (.int .i64)) (.pair (.pair (.int .i64) (.int .i64)) (.pair (.int .i64) (.int .i64)))))] v) = (t_matrix_Turn_1 y.1).optA (fun r => (r, ())) := by
  intro y; kernel_rfl
theorem fn_matrix_Turn_1 : FnOk Try.prog 51 [.int .i64, .pair (.int .i64) (.int .i64)] [.pair (.pair (.pair (.int .i64) (.int .i64)) (.pair (.pair (.int .i64) (.int .i64)) (.pair (.int .i64) (.int .i64)))) (.pair (.pair (.pair (.int .i64) (.int .i64)) (.pair (.pair (.int .i64) (.int .i64)) (.pair (.int .i64) (.int .i64)))) (.pair (.pair (.int .i64) (.int .i64)) (.pair (.pair (.int .i64) (.int .i64)) (.pair (.int .i64) (.int .i64)))))] (fun x => if x.1 = 1 then some ((fun r => (r, ())) (t_matrix_Turn_1 x.2.1).val) else none) :=
  fn_lit (R := (((Int × Int) × ((Int × Int) × (Int × Int))) × (((Int × Int) × ((Int × Int) × (Int × Int))) × ((Int × Int) × ((Int × Int) × (Int × Int)))))) (Ts := [.pair (.pair (.pair (.int .i64) (.int .i64)) (.pair (.pair (.int .i64) (.int .i64)) (.pair (.int .i64) (.int .i64)))) (.pair (.pair (.pair (.int .i64) (.int .i64)) (.pair (.pair (.int .i64) (.int .i64)) (.pair (.int .i64) (.int .i64)))) (.pair (.pair (.int .i64) (.int .i64)) (.pair (.pair (.int .i64) (.int .i64)) (.pair (.int .i64) (.int .i64)))))]) (mk := (fun r => (r, ()))) (t := fun (y : Ar [.pair (.int .i64) (.int .i64)]) => t_matrix_Turn_1 y.1) (mkC_ok btys_ok beqs_ok (fns_cons ok_angle_SinOver (fns_cons ok_angle_CosOver (fns_cons ok_interval_Neg (fns_cons ok_interval_Valid (fns_cons ok_matrix_one (fns_nil _)))))) (inl_nil _) noLoops_ok mixed) Try.func51 1 run_matrix_Turn_1 (fun _ => by kernel_rfl)
def t_matrix_Turn_2 (a1 : (Int × Int)) : Tr (((Int × Int) × ((Int × Int) × (Int × Int))) × (((Int × Int) × ((Int × Int) × (Int × Int))) × ((Int × Int) × ((Int × Int) × (Int × Int))))) :=
  let r1 : Bool := interval_Valid a1
  .br ((!r1)) (
   .leaf (((0, 0), ((0, 0), (0, 0))), (((0, 0), ((0, 0), (0, 0))), ((0, 0), ((0, 0), (0, 0)))))) (
   let r2 : (Int × Int) := angle_CosOver a1
   let r3 : (Int × Int) := angle_SinOver a1
   let r4 : (Int × Int) := matrix_one
   let r5 : (Int × Int) := interval_Neg r3
   .leaf ((r2, (r5, (0, 0))), ((r3, (r2, (0, 0))), ((0, 0), ((0, 0), r4)))))
theorem run_matrix_Turn_2 : ∀ y : Ar [.pair (.int .i64) (.int .i64)], runF (mkC btys beqs [(45, hd_angle_SinOver), (47, hd_angle_CosOver), (100, hd_interval_Neg), (109, hd_interval_Valid), (110, hd_matrix_one)] [] noLoops) 200 51 Try.f51 (argsA [.int .i64, .pair (.int .i64) (.int .i64)] (2, y)) [] (fun v h => toRes h [.pair (.pair (.pair (.int .i64) (.int .i64)) (.pair (.pair (.int .i64) (.int .i64)) (.pair (.int .i64) (.int .i64)))) (.pair (.pair (.pair (.int .i64) (.int .i64)) (.pair (.pair (.int .i64) (.int .i64)) (.pair (.int .i64) (.int .i64)))) (.pair (.pair (.int .i64) (.int .i64)) (.pair (.pair (.int .i64) (.int .i64)) (.pair (.int .i64) (.int .i64)))))] v) = (t_matrix_Turn_2 y.1).optA (fun r => (r, ())) := by
  intro y; kernel_rfl
theorem fn_matrix_Turn_2 : FnOk Try.prog 51 [.int .i64, .pair (.int .i64) (.int .i64)] [.pair (.pair (.pair (.int .i64) (.int .i64)) (.pair (.pair (.int .i64) (.int .i64)) (.pair (.int .i64) (.int .i64)))) (.pair (.pair (.pair (.int .i64) (.int .i64)) (.pair (.pair (.int .i64) (.int .i64)) (.pair (.int .i64) (.int .i64)))) (.pair (.pair (.int .i64) (.int .i64)) (.pair (.pair (.int .i64) (.int .i64)) (.pair (.int .i64) (.int .i64)))))] (fun x => if x.1 = 2 then some ((fun r => (r, ())) (t_matrix_Turn_2 x.2.1).val) else none) :=
  fn_lit (R := (((Int × Int) × ((Int × Int) × (Int × Int))) × (((Int × Int) × ((Int × Int) × (Int × Int))) × ((Int × Int) × ((Int × Int) × (Int × Int)))))) (Ts := [.pair (.pair (.pair (.int .i64) (.int .i64)) (.pair (.pair (.int .i64) (.int .i64)) (.pair (.int .i64) (.int .i64)))) (.pair (.pair (.pair (.int .i64) (.int .i64)) (.pair (.pair (.int .i64) (.int .i64)) (.pair (.int .i64) (.int .i64)))) (.pair (.pair (.int .i64) (.int .i64)) (.pair (.pair (.int .i64) (.int .i64)) (.pair (.int .i64) (.int .i64)))))]) (mk := (fun r => (r, ()))) (t := fun (y : Ar [.pair (.int .i64) (.int .i64)]) => t_matrix_Turn_2 y.1) (mkC_ok btys_ok beqs_ok (fns_cons ok_angle_SinOver (fns_cons ok_angle_CosOver (fns_cons ok_interval_Neg (fns_cons ok_interval_Valid (fns_cons ok_matrix_one (fns_nil _)))))) (inl_nil _) noLoops_ok mixed) Try.func51 2 run_matrix_Turn_2 (fun _ => by kernel_rfl)
def t_matrix_Turn_x (a0 : Int) (a1 : (Int × Int)) : Tr (((Int × Int) × ((Int × Int) × (Int × Int))) × (((Int × Int) × ((Int × Int) × (Int × Int))) × ((Int × Int) × ((Int × Int) × (Int × Int))))) :=
  let x1 : Bool := decide (a0 < 0)
  .br (x1) (
   .leaf (((0, 0), ((0, 0), (0, 0))), (((0, 0), ((0, 0), (0, 0))), ((0, 0), ((0, 0), (0, 0)))))) (
   let x2 : Bool := decide (2 < a0)
   .br (x2) (
    .leaf (((0, 0), ((0, 0), (0, 0))), (((0, 0), ((0, 0), (0, 0))), ((0, 0), ((0, 0), (0, 0)))))) (
    let r3 : Bool := interval_Valid a1
    .br ((!r3)) (
     .leaf (((0, 0), ((0, 0), (0, 0))), (((0, 0), ((0, 0), (0, 0))), ((0, 0), ((0, 0), (0, 0)))))) (
     let r4 : (Int × Int) := angle_CosOver a1
     let r5 : (Int × Int) := angle_SinOver a1
     let x6 : Int := IntKind.wrap .i64 (a0 + 1)
     let x7 : Int := Int.tmod x6 3
     let x8 : Int := IntKind.wrap .i64 (a0 + 2)
     let x9 : Int := Int.tmod x8 3
     .fail)))
theorem run_matrix_Turn_x : ∀ x, runF (mkC btys beqs [(45, hd_angle_SinOver), (47, hd_angle_CosOver), (109, hd_interval_Valid)] [] noLoops) 6 51 Try.f51 (argsA [.int .i64, .pair (.int .i64) (.int .i64)] x) [] (fun v h => toRes h [.pair (.pair (.pair (.int .i64) (.int .i64)) (.pair (.pair (.int .i64) (.int .i64)) (.pair (.int .i64) (.int .i64)))) (.pair (.pair (.pair (.int .i64) (.int .i64)) (.pair (.pair (.int .i64) (.int .i64)) (.pair (.int .i64) (.int .i64)))) (.pair (.pair (.int .i64) (.int .i64)) (.pair (.pair (.int .i64) (.int .i64)) (.pair (.int .i64) (.int .i64)))))] v) = (t_matrix_Turn_x x.1 x.2.1).optA (fun r => (r, ())) := by
  intro x; kernel_rfl
theorem fn_matrix_Turn_x : FnOk Try.prog 51 [.int .i64, .pair (.int .i64) (.int .i64)] [.pair (.pair (.pair (.int .i64) (.int .i64)) (.pair (.pair (.int .i64) (.int .i64)) (.pair (.int .i64) (.int .i64)))) (.pair (.pair (.pair (.int .i64) (.int .i64)) (.pair (.pair (.int .i64) (.int .i64)) (.pair (.int .i64) (.int .i64)))) (.pair (.pair (.int .i64) (.int .i64)) (.pair (.pair (.int .i64) (.int .i64)) (.pair (.int .i64) (.int .i64)))))] (fun x => bif (t_matrix_Turn_x x.1 x.2.1).dom then some ((fun r => (r, ())) (t_matrix_Turn_x x.1 x.2.1).val) else none) :=
  fn_part (t := fun (x : Ar [.int .i64, .pair (.int .i64) (.int .i64)]) => t_matrix_Turn_x x.1 x.2.1) (R := (((Int × Int) × ((Int × Int) × (Int × Int))) × (((Int × Int) × ((Int × Int) × (Int × Int))) × ((Int × Int) × ((Int × Int) × (Int × Int)))))) (Ts := [.pair (.pair (.pair (.int .i64) (.int .i64)) (.pair (.pair (.int .i64) (.int .i64)) (.pair (.int .i64) (.int .i64)))) (.pair (.pair (.pair (.int .i64) (.int .i64)) (.pair (.pair (.int .i64) (.int .i64)) (.pair (.int .i64) (.int .i64)))) (.pair (.pair (.int .i64) (.int .i64)) (.pair (.pair (.int .i64) (.int .i64)) (.pair (.int .i64) (.int .i64)))))]) (mk := (fun r => (r, ()))) (mkC_ok btys_ok beqs_ok (fns_cons ok_angle_SinOver (fns_cons ok_angle_CosOver (fns_cons ok_interval_Valid (fns_nil _)))) (inl_nil _) noLoops_ok mixed) Try.func51 run_matrix_Turn_x
def matrix_Turn (a0 : Int) (a1 : (Int × Int)) : (((Int × Int) × ((Int × Int) × (Int × Int))) × (((Int × Int) × ((Int × Int) × (Int × Int))) × ((Int × Int) × ((Int × Int) × (Int × Int))))) := if a0 = 0 then (t_matrix_Turn_0 a1).val else if a0 = 1 then (t_matrix_Turn_1 a1).val else if a0 = 2 then (t_matrix_Turn_2 a1).val else (t_matrix_Turn_x a0 a1).val
theorem fn_matrix_Turn : FnOk Try.prog 51 [.int .i64, .pair (.int .i64) (.int .i64)] [.pair (.pair (.pair (.int .i64) (.int .i64)) (.pair (.pair (.int .i64) (.int .i64)) (.pair (.int .i64) (.int .i64)))) (.pair (.pair (.pair (.int .i64) (.int .i64)) (.pair (.pair (.int .i64) (.int .i64)) (.pair (.int .i64) (.int .i64)))) (.pair (.pair (.int .i64) (.int .i64)) (.pair (.pair (.int .i64) (.int .i64)) (.pair (.int .i64) (.int .i64)))))] (fun x => some ((fun r => (r, ())) (matrix_Turn x.1 x.2.1))) := by
  have hlt : ∀ z : Int, 2 < z → ¬ z < 0 := fun z h => by omega
  have hle : ∀ z : Int, ¬ z = 0 → ¬ z = 1 → ¬ z = 2 → z < 0 ∨ 2 < z := fun z h1 h2 h3 => by omega
  refine fn_or fn_matrix_Turn_0 (fn_or fn_matrix_Turn_1 (fn_or fn_matrix_Turn_2 fn_matrix_Turn_x (F := fun x : Ar [.int .i64, .pair (.int .i64) (.int .i64)] => if x.1 = 2 then some ((fun r => (r, ())) (t_matrix_Turn_2 x.2.1).val) else (if x.1 < 0 ∨ 2 < x.1 then some ((fun r => (r, ())) (t_matrix_Turn_x x.1 x.2.1).val) else none)) ?_)
    (F := fun x : Ar [.int .i64, .pair (.int .i64) (.int .i64)] => if x.1 = 1 then some ((fun r => (r, ())) (t_matrix_Turn_1 x.2.1).val) else if x.1 = 2 then some ((fun r => (r, ())) (t_matrix_Turn_2 x.2.1).val) else (if x.1 < 0 ∨ 2 < x.1 then some ((fun r => (r, ())) (t_matrix_Turn_x x.1 x.2.1).val) else none)) ?_) ?_
  · intro x r h
    dsimp only at h ⊢
    by_cases e2 : x.1 = 2
    · rw [if_pos e2] at h ⊢; exact .inl h
    · rw [if_neg e2] at h
      by_cases e3 : x.1 < 0 ∨ 2 < x.1
      · rw [if_pos e3] at h
        have hd : (t_matrix_Turn_x x.1 x.2.1).dom = true := by
          unfold t_matrix_Turn_x
          rcases e3 with e3 | e3
          · simp [Tr.dom, e3]
          · simp [Tr.dom, e3, hlt _ e3]
        rw [hd]; exact .inr h
      · rw [if_neg e3] at h; simp at h
  · intro x r h
    dsimp only at h ⊢
    by_cases e1 : x.1 = 1
    · rw [if_pos e1] at h ⊢; exact .inl h
    · rw [if_neg e1] at h; exact .inr h
  · intro x r h
    dsimp only at h ⊢
    unfold matrix_Turn at h
    by_cases e0 : x.1 = 0
    · rw [if_pos e0] at h ⊢; exact .inl h
    · rw [if_neg e0] at h
      refine .inr ?_
      by_cases e1 : x.1 = 1
      · rw [if_pos e1] at h ⊢; exact h
      · rw [if_neg e1] at h ⊢
        by_cases e2 : x.1 = 2
        · rw [if_pos e2] at h ⊢; exact h
        · rw [if_neg e2] at h ⊢
          rw [if_pos (hle _ e0 e1 e2)]; exact h
def hd_matrix_Turn : Hd := dataHd [.int .i64, .pair (.int .i64) (.int .i64)] [.pair (.pair (.pair (.int .i64) (.int .i64)) (.pair (.pair (.int .i64) (.int .i64)) (.pair (.int .i64) (.int .i64)))) (.pair (.pair (.pair (.int .i64) (.int .i64)) (.pair (.pair (.int .i64) (.int .i64)) (.pair (.int .i64) (.int .i64)))) (.pair (.pair (.int .i64) (.int .i64)) (.pair (.pair (.int .i64) (.int .i64)) (.pair (.int .i64) (.int .i64)))))] (fun x => some ((fun r => (r, ())) (matrix_Turn x.1 x.2.1)))
theorem ok_matrix_Turn : HdOk Try.prog 51 hd_matrix_Turn.sem ∧ Enters Try.prog 51 := data_ok fn_matrix_Turn Try.func51 (by kernel_rfl) (by kernel_rfl)

/- armplan/armplanref1.Point -/
def t_armplanref1_Point (a0 : (Int × (Int × Int))) : Tr ((Int × Int) × ((Int × Int) × (Int × Int))) :=
  let r1 : (Int × Int) := armplanref1_Of a0.1
  let r2 : (Int × Int) := armplanref1_Of a0.2.1
  let r3 : (Int × Int) := armplanref1_Of a0.2.2
  .leaf (r1, (r2, r3))
def armplanref1_Point (a0 : (Int × (Int × Int))) : ((Int × Int) × ((Int × Int) × (Int × Int))) := (t_armplanref1_Point a0).val
theorem run_armplanref1_Point : ∀ x, runF (mkC btys beqs [(58, hd_armplanref1_Of)] [] noLoops) 200 54 Try.f54 (argsA [.pair (.int .i64) (.pair (.int .i64) (.int .i64))] x) [] (fun v h => toRes h [.pair (.pair (.int .i64) (.int .i64)) (.pair (.pair (.int .i64) (.int .i64)) (.pair (.int .i64) (.int .i64)))] v) = (t_armplanref1_Point x.1).optA (fun r => (r, ())) := by
  intro x; kernel_rfl
theorem fn_armplanref1_Point : FnOk Try.prog 54 [.pair (.int .i64) (.pair (.int .i64) (.int .i64))] [.pair (.pair (.int .i64) (.int .i64)) (.pair (.pair (.int .i64) (.int .i64)) (.pair (.int .i64) (.int .i64)))] (fun x => some ((fun r => (r, ())) (armplanref1_Point x.1))) :=
  fn_tot (t := fun (x : Ar [.pair (.int .i64) (.pair (.int .i64) (.int .i64))]) => t_armplanref1_Point x.1) (R := ((Int × Int) × ((Int × Int) × (Int × Int)))) (Ts := [.pair (.pair (.int .i64) (.int .i64)) (.pair (.pair (.int .i64) (.int .i64)) (.pair (.int .i64) (.int .i64)))]) (mk := (fun r => (r, ()))) (mkC_ok btys_ok beqs_ok (fns_cons ok_armplanref1_Of (fns_nil _)) (inl_nil _) noLoops_ok mixed) Try.func54 run_armplanref1_Point (fun _ => by kernel_rfl)
def hd_armplanref1_Point : Hd := dataHd [.pair (.int .i64) (.pair (.int .i64) (.int .i64))] [.pair (.pair (.int .i64) (.int .i64)) (.pair (.pair (.int .i64) (.int .i64)) (.pair (.int .i64) (.int .i64)))] (fun x => some ((fun r => (r, ())) (armplanref1_Point x.1)))
theorem ok_armplanref1_Point : HdOk Try.prog 54 hd_armplanref1_Point.sem ∧ Enters Try.prog 54 := data_ok fn_armplanref1_Point Try.func54 (by kernel_rfl) (by kernel_rfl)

/- armplan/interval.Add -/
def t_interval_Add (a0 : (Int × Int)) (a1 : (Int × Int)) : Tr (Int × Int) :=
  let r1 : Bool := interval_both a0 a1
  .br ((!r1)) (
   .leaf (0, 0)) (
   let x2 : Int := IntKind.wrap .i64 (a0.1 + a1.1)
   let x3 : Int := IntKind.wrap .i64 (a0.2 + a1.2)
   let r4 : (Int × Int) := interval_limit x2 x3
   .leaf r4)
def interval_Add (a0 : (Int × Int)) (a1 : (Int × Int)) : (Int × Int) := (t_interval_Add a0 a1).val
theorem run_interval_Add : ∀ x, runF (mkC btys beqs [(144, hd_interval_limit), (145, hd_interval_both)] [] noLoops) 200 121 Try.f121 (argsA [.pair (.int .i64) (.int .i64), .pair (.int .i64) (.int .i64)] x) [] (fun v h => toRes h [.pair (.int .i64) (.int .i64)] v) = (t_interval_Add x.1 x.2.1).optA (fun r => (r, ())) := by
  intro x; kernel_rfl
theorem fn_interval_Add : FnOk Try.prog 121 [.pair (.int .i64) (.int .i64), .pair (.int .i64) (.int .i64)] [.pair (.int .i64) (.int .i64)] (fun x => some ((fun r => (r, ())) (interval_Add x.1 x.2.1))) :=
  fn_tot (t := fun (x : Ar [.pair (.int .i64) (.int .i64), .pair (.int .i64) (.int .i64)]) => t_interval_Add x.1 x.2.1) (R := (Int × Int)) (Ts := [.pair (.int .i64) (.int .i64)]) (mk := (fun r => (r, ()))) (mkC_ok btys_ok beqs_ok (fns_cons ok_interval_limit (fns_cons ok_interval_both (fns_nil _))) (inl_nil _) noLoops_ok mixed) Try.func121 run_interval_Add (fun _ => by kernel_rfl)
def hd_interval_Add : Hd := dataHd [.pair (.int .i64) (.int .i64), .pair (.int .i64) (.int .i64)] [.pair (.int .i64) (.int .i64)] (fun x => some ((fun r => (r, ())) (interval_Add x.1 x.2.1)))
theorem ok_interval_Add : HdOk Try.prog 121 hd_interval_Add.sem ∧ Enters Try.prog 121 := data_ok fn_interval_Add Try.func121 (by kernel_rfl) (by kernel_rfl)

/- armplan/interval.outward -/
def t_interval_outward (a0 : Int) (a1 : Int) : Tr (Int × Int) :=
  let r1 : Int := fixed_ShiftDown a0 16
  let r2 : Int := fixed_ShiftUp a1 16
  let r3 : (Int × Int) := interval_limit r1 r2
  .leaf r3
def interval_outward (a0 : Int) (a1 : Int) : (Int × Int) := (t_interval_outward a0 a1).val
theorem run_interval_outward : ∀ x, runF (mkC btys beqs [(144, hd_interval_limit), (168, hd_fixed_ShiftDown), (169, hd_fixed_ShiftUp)] [] noLoops) 200 161 Try.f161 (argsA [.int .i64, .int .i64] x) [] (fun v h => toRes h [.pair (.int .i64) (.int .i64)] v) = (t_interval_outward x.1 x.2.1).optA (fun r => (r, ())) := by
  intro x; kernel_rfl
theorem fn_interval_outward : FnOk Try.prog 161 [.int .i64, .int .i64] [.pair (.int .i64) (.int .i64)] (fun x => some ((fun r => (r, ())) (interval_outward x.1 x.2.1))) :=
  fn_tot (t := fun (x : Ar [.int .i64, .int .i64]) => t_interval_outward x.1 x.2.1) (R := (Int × Int)) (Ts := [.pair (.int .i64) (.int .i64)]) (mk := (fun r => (r, ()))) (mkC_ok btys_ok beqs_ok (fns_cons ok_interval_limit (fns_cons ok_fixed_ShiftDown (fns_cons ok_fixed_ShiftUp (fns_nil _)))) (inl_nil _) noLoops_ok mixed) Try.func161 run_interval_outward (fun _ => by kernel_rfl)
def hd_interval_outward : Hd := dataHd [.int .i64, .int .i64] [.pair (.int .i64) (.int .i64)] (fun x => some ((fun r => (r, ())) (interval_outward x.1 x.2.1)))
theorem ok_interval_outward : HdOk Try.prog 161 hd_interval_outward.sem ∧ Enters Try.prog 161 := data_ok fn_interval_outward Try.func161 (by kernel_rfl) (by kernel_rfl)

/- armplan/interval.Mul -/
def t_interval_Mul (a0 : (Int × Int)) (a1 : (Int × Int)) : Tr (Int × Int) :=
  let r1 : Bool := interval_both a0 a1
  .br ((!r1)) (
   .leaf (0, 0)) (
   let x2 : Int := IntKind.wrap .i64 (a0.1 * a1.1)
   let x3 : Int := IntKind.wrap .i64 (a0.1 * a1.2)
   let x4 : Int := IntKind.wrap .i64 (a0.2 * a1.1)
   let x5 : Int := IntKind.wrap .i64 (a0.2 * a1.2)
   let x6 : Int := if x2 < x2 then x2 else x2
   let x7 : Int := if x2 > x2 then x2 else x2
   let x8 : Int := if x3 < x6 then x3 else x6
   let x9 : Int := if x3 > x7 then x3 else x7
   let x10 : Int := if x4 < x8 then x4 else x8
   let x11 : Int := if x4 > x9 then x4 else x9
   let x12 : Int := if x5 < x10 then x5 else x10
   let x13 : Int := if x5 > x11 then x5 else x11
   let r14 : (Int × Int) := interval_outward x12 x13
   .leaf r14)
def interval_Mul (a0 : (Int × Int)) (a1 : (Int × Int)) : (Int × Int) := (t_interval_Mul a0 a1).val
theorem run_interval_Mul : ∀ x, runF (mkC btys beqs [(145, hd_interval_both), (161, hd_interval_outward)] [] noLoops) 200 143 Try.f143 (argsA [.pair (.int .i64) (.int .i64), .pair (.int .i64) (.int .i64)] x) [] (fun v h => toRes h [.pair (.int .i64) (.int .i64)] v) = (t_interval_Mul x.1 x.2.1).optA (fun r => (r, ())) := by
  intro x; kernel_rfl
theorem fn_interval_Mul : FnOk Try.prog 143 [.pair (.int .i64) (.int .i64), .pair (.int .i64) (.int .i64)] [.pair (.int .i64) (.int .i64)] (fun x => some ((fun r => (r, ())) (interval_Mul x.1 x.2.1))) :=
  fn_tot (t := fun (x : Ar [.pair (.int .i64) (.int .i64), .pair (.int .i64) (.int .i64)]) => t_interval_Mul x.1 x.2.1) (R := (Int × Int)) (Ts := [.pair (.int .i64) (.int .i64)]) (mk := (fun r => (r, ()))) (mkC_ok btys_ok beqs_ok (fns_cons ok_interval_both (fns_cons ok_interval_outward (fns_nil _))) (inl_nil _) noLoops_ok mixed) Try.func143 run_interval_Mul (fun _ => by kernel_rfl)
def hd_interval_Mul : Hd := dataHd [.pair (.int .i64) (.int .i64), .pair (.int .i64) (.int .i64)] [.pair (.int .i64) (.int .i64)] (fun x => some ((fun r => (r, ())) (interval_Mul x.1 x.2.1)))
theorem ok_interval_Mul : HdOk Try.prog 143 hd_interval_Mul.sem ∧ Enters Try.prog 143 := data_ok fn_interval_Mul Try.func143 (by kernel_rfl) (by kernel_rfl)

/- armplan/matrix.sum -/
def t_matrix_sum (a0 : ((Int × Int) × ((Int × Int) × (Int × Int)))) (a1 : ((Int × Int) × ((Int × Int) × (Int × Int)))) : Tr (Int × Int) :=
  let r1 : (Int × Int) := interval_Mul a0.1 a1.1
  let r2 : (Int × Int) := interval_Mul a0.2.1 a1.2.1
  let r3 : (Int × Int) := interval_Add r1 r2
  let r4 : (Int × Int) := interval_Mul a0.2.2 a1.2.2
  let r5 : (Int × Int) := interval_Add r3 r4
  .leaf r5
def matrix_sum (a0 : ((Int × Int) × ((Int × Int) × (Int × Int)))) (a1 : ((Int × Int) × ((Int × Int) × (Int × Int)))) : (Int × Int) := (t_matrix_sum a0 a1).val
theorem run_matrix_sum : ∀ x, runF (mkC btys beqs [(121, hd_interval_Add), (143, hd_interval_Mul)] [] noLoops) 200 111 Try.f111 (argsA [.pair (.pair (.int .i64) (.int .i64)) (.pair (.pair (.int .i64) (.int .i64)) (.pair (.int .i64) (.int .i64))), .pair (.pair (.int .i64) (.int .i64)) (.pair (.pair (.int .i64) (.int .i64)) (.pair (.int .i64) (.int .i64)))] x) [] (fun v h => toRes h [.pair (.int .i64) (.int .i64)] v) = (t_matrix_sum x.1 x.2.1).optA (fun r => (r, ())) := by
  intro x; kernel_rfl
theorem fn_matrix_sum : FnOk Try.prog 111 [.pair (.pair (.int .i64) (.int .i64)) (.pair (.pair (.int .i64) (.int .i64)) (.pair (.int .i64) (.int .i64))), .pair (.pair (.int .i64) (.int .i64)) (.pair (.pair (.int .i64) (.int .i64)) (.pair (.int .i64) (.int .i64)))] [.pair (.int .i64) (.int .i64)] (fun x => some ((fun r => (r, ())) (matrix_sum x.1 x.2.1))) :=
  fn_tot (t := fun (x : Ar [.pair (.pair (.int .i64) (.int .i64)) (.pair (.pair (.int .i64) (.int .i64)) (.pair (.int .i64) (.int .i64))), .pair (.pair (.int .i64) (.int .i64)) (.pair (.pair (.int .i64) (.int .i64)) (.pair (.int .i64) (.int .i64)))]) => t_matrix_sum x.1 x.2.1) (R := (Int × Int)) (Ts := [.pair (.int .i64) (.int .i64)]) (mk := (fun r => (r, ()))) (mkC_ok btys_ok beqs_ok (fns_cons ok_interval_Add (fns_cons ok_interval_Mul (fns_nil _))) (inl_nil _) noLoops_ok mixed) Try.func111 run_matrix_sum (fun _ => by kernel_rfl)
def hd_matrix_sum : Hd := dataHd [.pair (.pair (.int .i64) (.int .i64)) (.pair (.pair (.int .i64) (.int .i64)) (.pair (.int .i64) (.int .i64))), .pair (.pair (.int .i64) (.int .i64)) (.pair (.pair (.int .i64) (.int .i64)) (.pair (.int .i64) (.int .i64)))] [.pair (.int .i64) (.int .i64)] (fun x => some ((fun r => (r, ())) (matrix_sum x.1 x.2.1)))
theorem ok_matrix_sum : HdOk Try.prog 111 hd_matrix_sum.sem ∧ Enters Try.prog 111 := data_ok fn_matrix_sum Try.func111 (by kernel_rfl) (by kernel_rfl)

/- armplan/matrix.Apply -/
def t_matrix_Apply (a0 : (((Int × Int) × ((Int × Int) × (Int × Int))) × (((Int × Int) × ((Int × Int) × (Int × Int))) × ((Int × Int) × ((Int × Int) × (Int × Int)))))) (a1 : ((Int × Int) × ((Int × Int) × (Int × Int)))) : Tr ((Int × Int) × ((Int × Int) × (Int × Int))) :=
  let r1 : (Int × Int) := matrix_sum a0.1 a1
  let r2 : (Int × Int) := matrix_sum a0.2.1 a1
  let r3 : (Int × Int) := matrix_sum a0.2.2 a1
  .leaf (r1, (r2, r3))
def matrix_Apply (a0 : (((Int × Int) × ((Int × Int) × (Int × Int))) × (((Int × Int) × ((Int × Int) × (Int × Int))) × ((Int × Int) × ((Int × Int) × (Int × Int)))))) (a1 : ((Int × Int) × ((Int × Int) × (Int × Int)))) : ((Int × Int) × ((Int × Int) × (Int × Int))) := (t_matrix_Apply a0 a1).val
theorem run_matrix_Apply : ∀ x, runF (mkC btys beqs [(111, hd_matrix_sum)] [] noLoops) 200 56 Try.f56 (argsA [.pair (.pair (.pair (.int .i64) (.int .i64)) (.pair (.pair (.int .i64) (.int .i64)) (.pair (.int .i64) (.int .i64)))) (.pair (.pair (.pair (.int .i64) (.int .i64)) (.pair (.pair (.int .i64) (.int .i64)) (.pair (.int .i64) (.int .i64)))) (.pair (.pair (.int .i64) (.int .i64)) (.pair (.pair (.int .i64) (.int .i64)) (.pair (.int .i64) (.int .i64))))), .pair (.pair (.int .i64) (.int .i64)) (.pair (.pair (.int .i64) (.int .i64)) (.pair (.int .i64) (.int .i64)))] x) [] (fun v h => toRes h [.pair (.pair (.int .i64) (.int .i64)) (.pair (.pair (.int .i64) (.int .i64)) (.pair (.int .i64) (.int .i64)))] v) = (t_matrix_Apply x.1 x.2.1).optA (fun r => (r, ())) := by
  intro x; kernel_rfl
theorem fn_matrix_Apply : FnOk Try.prog 56 [.pair (.pair (.pair (.int .i64) (.int .i64)) (.pair (.pair (.int .i64) (.int .i64)) (.pair (.int .i64) (.int .i64)))) (.pair (.pair (.pair (.int .i64) (.int .i64)) (.pair (.pair (.int .i64) (.int .i64)) (.pair (.int .i64) (.int .i64)))) (.pair (.pair (.int .i64) (.int .i64)) (.pair (.pair (.int .i64) (.int .i64)) (.pair (.int .i64) (.int .i64))))), .pair (.pair (.int .i64) (.int .i64)) (.pair (.pair (.int .i64) (.int .i64)) (.pair (.int .i64) (.int .i64)))] [.pair (.pair (.int .i64) (.int .i64)) (.pair (.pair (.int .i64) (.int .i64)) (.pair (.int .i64) (.int .i64)))] (fun x => some ((fun r => (r, ())) (matrix_Apply x.1 x.2.1))) :=
  fn_tot (t := fun (x : Ar [.pair (.pair (.pair (.int .i64) (.int .i64)) (.pair (.pair (.int .i64) (.int .i64)) (.pair (.int .i64) (.int .i64)))) (.pair (.pair (.pair (.int .i64) (.int .i64)) (.pair (.pair (.int .i64) (.int .i64)) (.pair (.int .i64) (.int .i64)))) (.pair (.pair (.int .i64) (.int .i64)) (.pair (.pair (.int .i64) (.int .i64)) (.pair (.int .i64) (.int .i64))))), .pair (.pair (.int .i64) (.int .i64)) (.pair (.pair (.int .i64) (.int .i64)) (.pair (.int .i64) (.int .i64)))]) => t_matrix_Apply x.1 x.2.1) (R := ((Int × Int) × ((Int × Int) × (Int × Int)))) (Ts := [.pair (.pair (.int .i64) (.int .i64)) (.pair (.pair (.int .i64) (.int .i64)) (.pair (.int .i64) (.int .i64)))]) (mk := (fun r => (r, ()))) (mkC_ok btys_ok beqs_ok (fns_cons ok_matrix_sum (fns_nil _)) (inl_nil _) noLoops_ok mixed) Try.func56 run_matrix_Apply (fun _ => by kernel_rfl)
def hd_matrix_Apply : Hd := dataHd [.pair (.pair (.pair (.int .i64) (.int .i64)) (.pair (.pair (.int .i64) (.int .i64)) (.pair (.int .i64) (.int .i64)))) (.pair (.pair (.pair (.int .i64) (.int .i64)) (.pair (.pair (.int .i64) (.int .i64)) (.pair (.int .i64) (.int .i64)))) (.pair (.pair (.int .i64) (.int .i64)) (.pair (.pair (.int .i64) (.int .i64)) (.pair (.int .i64) (.int .i64))))), .pair (.pair (.int .i64) (.int .i64)) (.pair (.pair (.int .i64) (.int .i64)) (.pair (.int .i64) (.int .i64)))] [.pair (.pair (.int .i64) (.int .i64)) (.pair (.pair (.int .i64) (.int .i64)) (.pair (.int .i64) (.int .i64)))] (fun x => some ((fun r => (r, ())) (matrix_Apply x.1 x.2.1)))
theorem ok_matrix_Apply : HdOk Try.prog 56 hd_matrix_Apply.sem ∧ Enters Try.prog 56 := data_ok fn_matrix_Apply Try.func56 (by kernel_rfl) (by kernel_rfl)

/- armplan/matrix.Point -/
def t_matrix_Point (a0 : (Int × (Int × Int))) : Tr ((Int × Int) × ((Int × Int) × (Int × Int))) :=
  let r1 : (Int × Int) := interval_Of a0.1
  let r2 : (Int × Int) := interval_Of a0.2.1
  let r3 : (Int × Int) := interval_Of a0.2.2
  .leaf (r1, (r2, r3))
def matrix_Point (a0 : (Int × (Int × Int))) : ((Int × Int) × ((Int × Int) × (Int × Int))) := (t_matrix_Point a0).val
theorem run_matrix_Point : ∀ x, runF (mkC btys beqs [(115, hd_interval_Of)] [] noLoops) 200 63 Try.f63 (argsA [.pair (.int .i64) (.pair (.int .i64) (.int .i64))] x) [] (fun v h => toRes h [.pair (.pair (.int .i64) (.int .i64)) (.pair (.pair (.int .i64) (.int .i64)) (.pair (.int .i64) (.int .i64)))] v) = (t_matrix_Point x.1).optA (fun r => (r, ())) := by
  intro x; kernel_rfl
theorem fn_matrix_Point : FnOk Try.prog 63 [.pair (.int .i64) (.pair (.int .i64) (.int .i64))] [.pair (.pair (.int .i64) (.int .i64)) (.pair (.pair (.int .i64) (.int .i64)) (.pair (.int .i64) (.int .i64)))] (fun x => some ((fun r => (r, ())) (matrix_Point x.1))) :=
  fn_tot (t := fun (x : Ar [.pair (.int .i64) (.pair (.int .i64) (.int .i64))]) => t_matrix_Point x.1) (R := ((Int × Int) × ((Int × Int) × (Int × Int)))) (Ts := [.pair (.pair (.int .i64) (.int .i64)) (.pair (.pair (.int .i64) (.int .i64)) (.pair (.int .i64) (.int .i64)))]) (mk := (fun r => (r, ()))) (mkC_ok btys_ok beqs_ok (fns_cons ok_interval_Of (fns_nil _)) (inl_nil _) noLoops_ok mixed) Try.func63 run_matrix_Point (fun _ => by kernel_rfl)
def hd_matrix_Point : Hd := dataHd [.pair (.int .i64) (.pair (.int .i64) (.int .i64))] [.pair (.pair (.int .i64) (.int .i64)) (.pair (.pair (.int .i64) (.int .i64)) (.pair (.int .i64) (.int .i64)))] (fun x => some ((fun r => (r, ())) (matrix_Point x.1)))
theorem ok_matrix_Point : HdOk Try.prog 63 hd_matrix_Point.sem ∧ Enters Try.prog 63 := data_ok fn_matrix_Point Try.func63 (by kernel_rfl) (by kernel_rfl)

/- armplan/interval.Within -/
def t_interval_Within (a0 : (Int × Int)) (a1 : (Int × Int)) : Tr Bool :=
  let r1 : Bool := interval_both a0 a1
  .br (r1) (
   let x2 : Bool := decide (a1.1 ≤ a0.1)
   .br (x2) (
    let x3 : Bool := decide (a0.2 ≤ a1.2)
    .leaf x3) (
    .leaf false)) (
   .leaf false)
def interval_Within (a0 : (Int × Int)) (a1 : (Int × Int)) : Bool := (t_interval_Within a0 a1).val
theorem run_interval_Within : ∀ x, runF (mkC btys beqs [(145, hd_interval_both)] [] noLoops) 200 120 Try.f120 (argsA [.pair (.int .i64) (.int .i64), .pair (.int .i64) (.int .i64)] x) [] (fun v h => toRes h [.bool] v) = (t_interval_Within x.1 x.2.1).optA (fun r => (r, ())) := by
  intro x; kernel_rfl
theorem fn_interval_Within : FnOk Try.prog 120 [.pair (.int .i64) (.int .i64), .pair (.int .i64) (.int .i64)] [.bool] (fun x => some ((fun r => (r, ())) (interval_Within x.1 x.2.1))) :=
  fn_tot (t := fun (x : Ar [.pair (.int .i64) (.int .i64), .pair (.int .i64) (.int .i64)]) => t_interval_Within x.1 x.2.1) (R := Bool) (Ts := [.bool]) (mk := (fun r => (r, ()))) (mkC_ok btys_ok beqs_ok (fns_cons ok_interval_both (fns_nil _)) (inl_nil _) noLoops_ok mixed) Try.func120 run_interval_Within (fun _ => by kernel_rfl)
def hd_interval_Within : Hd := dataHd [.pair (.int .i64) (.int .i64), .pair (.int .i64) (.int .i64)] [.bool] (fun x => some ((fun r => (r, ())) (interval_Within x.1 x.2.1)))
theorem ok_interval_Within : HdOk Try.prog 120 hd_interval_Within.sem ∧ Enters Try.prog 120 := data_ok fn_interval_Within Try.func120 (by kernel_rfl) (by kernel_rfl)

/- armplan/matrix.Within -/
def t_matrix_Within (a0 : ((Int × Int) × ((Int × Int) × (Int × Int)))) (a1 : ((Int × Int) × ((Int × Int) × (Int × Int)))) : Tr Bool :=
  let r1 : Bool := interval_Within a0.1 a1.1
  .br ((!r1)) (
   .leaf false) (
   let r2 : Bool := interval_Within a0.2.1 a1.2.1
   .br ((!r2)) (
    .leaf false) (
    let r3 : Bool := interval_Within a0.2.2 a1.2.2
    .br ((!r3)) (
     .leaf false) (
     .leaf true)))
def matrix_Within (a0 : ((Int × Int) × ((Int × Int) × (Int × Int)))) (a1 : ((Int × Int) × ((Int × Int) × (Int × Int)))) : Bool := (t_matrix_Within a0 a1).val
theorem run_matrix_Within : ∀ x, runF (mkC btys beqs [(120, hd_interval_Within)] [] noLoops) 200 71 Try.f71 (argsA [.pair (.pair (.int .i64) (.int .i64)) (.pair (.pair (.int .i64) (.int .i64)) (.pair (.int .i64) (.int .i64))), .pair (.pair (.int .i64) (.int .i64)) (.pair (.pair (.int .i64) (.int .i64)) (.pair (.int .i64) (.int .i64)))] x) [] (fun v h => toRes h [.bool] v) = (t_matrix_Within x.1 x.2.1).optA (fun r => (r, ())) := by
  intro x; kernel_rfl
theorem fn_matrix_Within : FnOk Try.prog 71 [.pair (.pair (.int .i64) (.int .i64)) (.pair (.pair (.int .i64) (.int .i64)) (.pair (.int .i64) (.int .i64))), .pair (.pair (.int .i64) (.int .i64)) (.pair (.pair (.int .i64) (.int .i64)) (.pair (.int .i64) (.int .i64)))] [.bool] (fun x => some ((fun r => (r, ())) (matrix_Within x.1 x.2.1))) :=
  fn_tot (t := fun (x : Ar [.pair (.pair (.int .i64) (.int .i64)) (.pair (.pair (.int .i64) (.int .i64)) (.pair (.int .i64) (.int .i64))), .pair (.pair (.int .i64) (.int .i64)) (.pair (.pair (.int .i64) (.int .i64)) (.pair (.int .i64) (.int .i64)))]) => t_matrix_Within x.1 x.2.1) (R := Bool) (Ts := [.bool]) (mk := (fun r => (r, ()))) (mkC_ok btys_ok beqs_ok (fns_cons ok_interval_Within (fns_nil _)) (inl_nil _) noLoops_ok mixed) Try.func71 run_matrix_Within (fun _ => by kernel_rfl)
def hd_matrix_Within : Hd := dataHd [.pair (.pair (.int .i64) (.int .i64)) (.pair (.pair (.int .i64) (.int .i64)) (.pair (.int .i64) (.int .i64))), .pair (.pair (.int .i64) (.int .i64)) (.pair (.pair (.int .i64) (.int .i64)) (.pair (.int .i64) (.int .i64)))] [.bool] (fun x => some ((fun r => (r, ())) (matrix_Within x.1 x.2.1)))
theorem ok_matrix_Within : HdOk Try.prog 71 hd_matrix_Within.sem ∧ Enters Try.prog 71 := data_ok fn_matrix_Within Try.func71 (by kernel_rfl) (by kernel_rfl)

/- armplan/armplanlaw4.awake -/
def t_armplanlaw4_awake : Tr Bool :=
  let r1 : (Int × Int) := armplanref1_Of 16384
  let r2 : (((Int × Int) × ((Int × Int) × (Int × Int))) × (((Int × Int) × ((Int × Int) × (Int × Int))) × ((Int × Int) × ((Int × Int) × (Int × Int))))) := matrix_Turn 2 r1
  let r3 : ((Int × Int) × ((Int × Int) × (Int × Int))) := matrix_Point (3, (5, 7))
  let r4 : ((Int × Int) × ((Int × Int) × (Int × Int))) := matrix_Apply r2 r3
  let r5 : ((Int × Int) × ((Int × Int) × (Int × Int))) := armplanref1_Point ((-5), (3, 7))
  let x6 : Bool := (decide (r4.1.1 = r5.1.1) && (decide (r4.1.2 = r5.1.2) && (decide (r4.2.1.1 = r5.2.1.1) && (decide (r4.2.1.2 = r5.2.1.2) && (decide (r4.2.2.1 = r5.2.2.1) && (decide (r4.2.2.2 = r5.2.2.2) && true))))))
  .br (x6) (
   let r7 : Bool := matrix_Within r4 r4
   .leaf r7) (
   .leaf false)
def armplanlaw4_awake : Bool := t_armplanlaw4_awake.val
theorem run_armplanlaw4_awake : ∀ x, runF (mkC btys beqs [(51, hd_matrix_Turn), (54, hd_armplanref1_Point), (56, hd_matrix_Apply), (58, hd_armplanref1_Of), (63, hd_matrix_Point), (71, hd_matrix_Within)] [] noLoops) 200 50 Try.f50 (argsA [] x) [] (fun v h => toRes h [.bool] v) = (t_armplanlaw4_awake ).optA (fun r => (r, ())) := by
  intro x; kernel_rfl
theorem fn_armplanlaw4_awake : FnOk Try.prog 50 [] [.bool] (fun _ => some ((fun r => (r, ())) armplanlaw4_awake)) :=
  fn_tot (t := fun (_ : Ar []) => t_armplanlaw4_awake ) (R := Bool) (Ts := [.bool]) (mk := (fun r => (r, ()))) (mkC_ok btys_ok beqs_ok (fns_cons ok_matrix_Turn (fns_cons ok_armplanref1_Point (fns_cons ok_matrix_Apply (fns_cons ok_armplanref1_Of (fns_cons ok_matrix_Point (fns_cons ok_matrix_Within (fns_nil _))))))) (inl_nil _) noLoops_ok mixed) Try.func50 run_armplanlaw4_awake (fun _ => by kernel_rfl)
def hd_armplanlaw4_awake : Hd := dataHd [] [.bool] (fun _ => some ((fun r => (r, ())) armplanlaw4_awake))
theorem ok_armplanlaw4_awake : HdOk Try.prog 50 hd_armplanlaw4_awake.sem ∧ Enters Try.prog 50 := data_ok fn_armplanlaw4_awake Try.func50 (by kernel_rfl) (by kernel_rfl)

/- armplan/armplanref1.Turn -/
def t_armplanref1_Turn (a0 : Int) (a1 : (Int × Int)) : Tr (((Int × Int) × ((Int × Int) × (Int × Int))) × (((Int × Int) × ((Int × Int) × (Int × Int))) × ((Int × Int) × ((Int × Int) × (Int × Int))))) :=
  let r1 : Bool := armplanref1_Valid a1
  .br ((!r1)) (
   .leaf (((0, 0), ((0, 0), (0, 0))), (((0, 0), ((0, 0), (0, 0))), ((0, 0), ((0, 0), (0, 0)))))) (
   let r2 : (Int × Int) := armplanref1_Of 65536
   let r3 : (Int × Int) := armplanref1_CosOver a1
   let r4 : (Int × Int) := armplanref1_SinOver a1
   let r5 : (Int × Int) := armplanref1_Neg r4
   let x6 : Bool := decide (a0 = 0)
   .br (x6) (
    .leaf ((r2, ((0, 0), (0, 0))), (((0, 0), (r3, r5)), ((0, 0), (r4, r3))))) (
    let x7 : Bool := decide (a0 = 1)
    .br (x7) (
     .leaf ((r3, ((0, 0), r4)), (((0, 0), (r2, (0, 0))), (r5, ((0, 0), r3))))) (
     let x8 : Bool := decide (a0 = 2)
     .br (x8) (
      .leaf ((r3, (r5, (0, 0))), ((r4, (r3, (0, 0))), ((0, 0), ((0, 0), r2))))) (
      .leaf (((0, 0), ((0, 0), (0, 0))), (((0, 0), ((0, 0), (0, 0))), ((0, 0), ((0, 0), (0, 0)))))))))
def armplanref1_Turn (a0 : Int) (a1 : (Int × Int)) : (((Int × Int) × ((Int × Int) × (Int × Int))) × (((Int × Int) × ((Int × Int) × (Int × Int))) × ((Int × Int) × ((Int × Int) × (Int × Int))))) := (t_armplanref1_Turn a0 a1).val
theorem run_armplanref1_Turn : ∀ x, runF (mkC btys beqs [(36, hd_armplanref1_Neg), (46, hd_armplanref1_SinOver), (48, hd_armplanref1_CosOver), (58, hd_armplanref1_Of), (103, hd_armplanref1_Valid)] [] noLoops) 200 52 Try.f52 (argsA [.int .i64, .pair (.int .i64) (.int .i64)] x) [] (fun v h => toRes h [.pair (.pair (.pair (.int .i64) (.int .i64)) (.pair (.pair (.int .i64) (.int .i64)) (.pair (.int .i64) (.int .i64)))) (.pair (.pair (.pair (.int .i64) (.int .i64)) (.pair (.pair (.int .i64) (.int .i64)) (.pair (.int .i64) (.int .i64)))) (.pair (.pair (.int .i64) (.int .i64)) (.pair (.pair (.int .i64) (.int .i64)) (.pair (.int .i64) (.int .i64)))))] v) = (t_armplanref1_Turn x.1 x.2.1).optA (fun r => (r, ())) := by
  intro x; kernel_rfl
theorem fn_armplanref1_Turn : FnOk Try.prog 52 [.int .i64, .pair (.int .i64) (.int .i64)] [.pair (.pair (.pair (.int .i64) (.int .i64)) (.pair (.pair (.int .i64) (.int .i64)) (.pair (.int .i64) (.int .i64)))) (.pair (.pair (.pair (.int .i64) (.int .i64)) (.pair (.pair (.int .i64) (.int .i64)) (.pair (.int .i64) (.int .i64)))) (.pair (.pair (.int .i64) (.int .i64)) (.pair (.pair (.int .i64) (.int .i64)) (.pair (.int .i64) (.int .i64)))))] (fun x => some ((fun r => (r, ())) (armplanref1_Turn x.1 x.2.1))) :=
  fn_tot (t := fun (x : Ar [.int .i64, .pair (.int .i64) (.int .i64)]) => t_armplanref1_Turn x.1 x.2.1) (R := (((Int × Int) × ((Int × Int) × (Int × Int))) × (((Int × Int) × ((Int × Int) × (Int × Int))) × ((Int × Int) × ((Int × Int) × (Int × Int)))))) (Ts := [.pair (.pair (.pair (.int .i64) (.int .i64)) (.pair (.pair (.int .i64) (.int .i64)) (.pair (.int .i64) (.int .i64)))) (.pair (.pair (.pair (.int .i64) (.int .i64)) (.pair (.pair (.int .i64) (.int .i64)) (.pair (.int .i64) (.int .i64)))) (.pair (.pair (.int .i64) (.int .i64)) (.pair (.pair (.int .i64) (.int .i64)) (.pair (.int .i64) (.int .i64)))))]) (mk := (fun r => (r, ()))) (mkC_ok btys_ok beqs_ok (fns_cons ok_armplanref1_Neg (fns_cons ok_armplanref1_SinOver (fns_cons ok_armplanref1_CosOver (fns_cons ok_armplanref1_Of (fns_cons ok_armplanref1_Valid (fns_nil _)))))) (inl_nil _) noLoops_ok mixed) Try.func52 run_armplanref1_Turn (fun _ => by kernel_rfl)
def hd_armplanref1_Turn : Hd := dataHd [.int .i64, .pair (.int .i64) (.int .i64)] [.pair (.pair (.pair (.int .i64) (.int .i64)) (.pair (.pair (.int .i64) (.int .i64)) (.pair (.int .i64) (.int .i64)))) (.pair (.pair (.pair (.int .i64) (.int .i64)) (.pair (.pair (.int .i64) (.int .i64)) (.pair (.int .i64) (.int .i64)))) (.pair (.pair (.int .i64) (.int .i64)) (.pair (.pair (.int .i64) (.int .i64)) (.pair (.int .i64) (.int .i64)))))] (fun x => some ((fun r => (r, ())) (armplanref1_Turn x.1 x.2.1)))
theorem ok_armplanref1_Turn : HdOk Try.prog 52 hd_armplanref1_Turn.sem ∧ Enters Try.prog 52 := data_ok fn_armplanref1_Turn Try.func52 (by kernel_rfl) (by kernel_rfl)

/- armplan/armplanlaw4.MatrixTurns -/
def t_armplanlaw4_MatrixTurns (a0 : Int) (a1 : (Int × Int)) (a2 : Int) (a3 : Int) : Tr Bool :=
  let r1 : Int := armplanmake_Round a2 140000
  let x2 : Int := IntKind.wrap .i64 (r1 - 70000)
  let r3 : Int := armplanmake_Round a3 70000
  let x4 : Int := IntKind.wrap .i64 (x2 + r3)
  let r5 : Int := armplanmake_Round a0 4
  let r6 : Bool := armplanlaw4_awake
  .br (r6) (
   let r7 : (((Int × Int) × ((Int × Int) × (Int × Int))) × (((Int × Int) × ((Int × Int) × (Int × Int))) × ((Int × Int) × ((Int × Int) × (Int × Int))))) := matrix_Turn a0 a1
   let r8 : (((Int × Int) × ((Int × Int) × (Int × Int))) × (((Int × Int) × ((Int × Int) × (Int × Int))) × ((Int × Int) × ((Int × Int) × (Int × Int))))) := armplanref1_Turn a0 a1
   let x9 : Bool := (decide (r7.1.1.1 = r8.1.1.1) && (decide (r7.1.1.2 = r8.1.1.2) && (decide (r7.1.2.1.1 = r8.1.2.1.1) && (decide (r7.1.2.1.2 = r8.1.2.1.2) && (decide (r7.1.2.2.1 = r8.1.2.2.1) && (decide (r7.1.2.2.2 = r8.1.2.2.2) && (decide (r7.2.1.1.1 = r8.2.1.1.1) && (decide (r7.2.1.1.2 = r8.2.1.1.2) && (decide (r7.2.1.2.1.1 = r8.2.1.2.1.1) && (decide (r7.2.1.2.1.2 = r8.2.1.2.1.2) && (decide (r7.2.1.2.2.1 = r8.2.1.2.2.1) && (decide (r7.2.1.2.2.2 = r8.2.1.2.2.2) && (decide (r7.2.2.1.1 = r8.2.2.1.1) && (decide (r7.2.2.1.2 = r8.2.2.1.2) && (decide (r7.2.2.2.1.1 = r8.2.2.2.1.1) && (decide (r7.2.2.2.1.2 = r8.2.2.2.1.2) && (decide (r7.2.2.2.2.1 = r8.2.2.2.2.1) && (decide (r7.2.2.2.2.2 = r8.2.2.2.2.2) && true))))))))))))))))))
   .br (x9) (
    let r10 : (((Int × Int) × ((Int × Int) × (Int × Int))) × (((Int × Int) × ((Int × Int) × (Int × Int))) × ((Int × Int) × ((Int × Int) × (Int × Int))))) := matrix_Turn r5 a1
    let r11 : (((Int × Int) × ((Int × Int) × (Int × Int))) × (((Int × Int) × ((Int × Int) × (Int × Int))) × ((Int × Int) × ((Int × Int) × (Int × Int))))) := armplanref1_Turn r5 a1
    let x12 : Bool := (decide (r10.1.1.1 = r11.1.1.1) && (decide (r10.1.1.2 = r11.1.1.2) && (decide (r10.1.2.1.1 = r11.1.2.1.1) && (decide (r10.1.2.1.2 = r11.1.2.1.2) && (decide (r10.1.2.2.1 = r11.1.2.2.1) && (decide (r10.1.2.2.2 = r11.1.2.2.2) && (decide (r10.2.1.1.1 = r11.2.1.1.1) && (decide (r10.2.1.1.2 = r11.2.1.1.2) && (decide (r10.2.1.2.1.1 = r11.2.1.2.1.1) && (decide (r10.2.1.2.1.2 = r11.2.1.2.1.2) && (decide (r10.2.1.2.2.1 = r11.2.1.2.2.1) && (decide (r10.2.1.2.2.2 = r11.2.1.2.2.2) && (decide (r10.2.2.1.1 = r11.2.2.1.1) && (decide (r10.2.2.1.2 = r11.2.2.1.2) && (decide (r10.2.2.2.1.1 = r11.2.2.2.1.1) && (decide (r10.2.2.2.1.2 = r11.2.2.2.1.2) && (decide (r10.2.2.2.2.1 = r11.2.2.2.2.1) && (decide (r10.2.2.2.2.2 = r11.2.2.2.2.2) && true))))))))))))))))))
    .br (x12) (
     let r13 : (((Int × Int) × ((Int × Int) × (Int × Int))) × (((Int × Int) × ((Int × Int) × (Int × Int))) × ((Int × Int) × ((Int × Int) × (Int × Int))))) := matrix_Turn r5 (x2, x4)
     let r14 : (((Int × Int) × ((Int × Int) × (Int × Int))) × (((Int × Int) × ((Int × Int) × (Int × Int))) × ((Int × Int) × ((Int × Int) × (Int × Int))))) := armplanref1_Turn r5 (x2, x4)
     let x15 : Bool := (decide (r13.1.1.1 = r14.1.1.1) && (decide (r13.1.1.2 = r14.1.1.2) && (decide (r13.1.2.1.1 = r14.1.2.1.1) && (decide (r13.1.2.1.2 = r14.1.2.1.2) && (decide (r13.1.2.2.1 = r14.1.2.2.1) && (decide (r13.1.2.2.2 = r14.1.2.2.2) && (decide (r13.2.1.1.1 = r14.2.1.1.1) && (decide (r13.2.1.1.2 = r14.2.1.1.2) && (decide (r13.2.1.2.1.1 = r14.2.1.2.1.1) && (decide (r13.2.1.2.1.2 = r14.2.1.2.1.2) && (decide (r13.2.1.2.2.1 = r14.2.1.2.2.1) && (decide (r13.2.1.2.2.2 = r14.2.1.2.2.2) && (decide (r13.2.2.1.1 = r14.2.2.1.1) && (decide (r13.2.2.1.2 = r14.2.2.1.2) && (decide (r13.2.2.2.1.1 = r14.2.2.2.1.1) && (decide (r13.2.2.2.1.2 = r14.2.2.2.1.2) && (decide (r13.2.2.2.2.1 = r14.2.2.2.2.1) && (decide (r13.2.2.2.2.2 = r14.2.2.2.2.2) && true))))))))))))))))))
     .leaf x15) (
     .leaf false)) (
    .leaf false)) (
   .leaf false)
def armplanlaw4_MatrixTurns (a0 : Int) (a1 : (Int × Int)) (a2 : Int) (a3 : Int) : Bool := (t_armplanlaw4_MatrixTurns a0 a1 a2 a3).val
theorem run_armplanlaw4_MatrixTurns : ∀ x, runF (mkC btys beqs [(30, hd_armplanmake_Round), (50, hd_armplanlaw4_awake), (51, hd_matrix_Turn), (52, hd_armplanref1_Turn)] [] noLoops) 200 12 Try.f12 (argsA [.int .i64, .pair (.int .i64) (.int .i64), .int .i64, .int .i64] x) [] (fun v h => toRes h [.bool] v) = (t_armplanlaw4_MatrixTurns x.1 x.2.1 x.2.2.1 x.2.2.2.1).optA (fun r => (r, ())) := by
  intro x; kernel_rfl
theorem fn_armplanlaw4_MatrixTurns : FnOk Try.prog 12 [.int .i64, .pair (.int .i64) (.int .i64), .int .i64, .int .i64] [.bool] (fun x => some ((fun r => (r, ())) (armplanlaw4_MatrixTurns x.1 x.2.1 x.2.2.1 x.2.2.2.1))) :=
  fn_tot (t := fun (x : Ar [.int .i64, .pair (.int .i64) (.int .i64), .int .i64, .int .i64]) => t_armplanlaw4_MatrixTurns x.1 x.2.1 x.2.2.1 x.2.2.2.1) (R := Bool) (Ts := [.bool]) (mk := (fun r => (r, ()))) (mkC_ok btys_ok beqs_ok (fns_cons ok_armplanmake_Round (fns_cons ok_armplanlaw4_awake (fns_cons ok_matrix_Turn (fns_cons ok_armplanref1_Turn (fns_nil _))))) (inl_nil _) noLoops_ok mixed) Try.func12 run_armplanlaw4_MatrixTurns (fun _ => by kernel_rfl)
def hd_armplanlaw4_MatrixTurns : Hd := dataHd [.int .i64, .pair (.int .i64) (.int .i64), .int .i64, .int .i64] [.bool] (fun x => some ((fun r => (r, ())) (armplanlaw4_MatrixTurns x.1 x.2.1 x.2.2.1 x.2.2.2.1)))
theorem ok_armplanlaw4_MatrixTurns : HdOk Try.prog 12 hd_armplanlaw4_MatrixTurns.sem ∧ Enters Try.prog 12 := data_ok fn_armplanlaw4_MatrixTurns Try.func12 (by kernel_rfl) (by kernel_rfl)

end Go.RX

/-
  The contracts of functions.
-/
import Derived.Test.YtkekddbdbfdjeaaRu
import Derived.Test.YtkekddbdbfdjeaaProg
import Derived.Test.YtkekddbdbfdjeaaSb
namespace Go.RX
open Go.Proofs

def tys : List (Nat × TRow) := [(2, ⟨.int .i64, 1, 8, [.int .i64 0], .int .i64⟩),
  (26, ⟨.struct [(0, 1), (1, 1)], 2, 16, [.int .i64 0, .int .i64 0], .pair (.int .i64) (.int .i64)⟩),
  (87, ⟨.slice 2, 1, 24, [.slice none 0 0], .list (.int .i64)⟩),
  (141, ⟨.arr 11 2, 11, 88, [.int .i64 0, .int .i64 0, .int .i64 0, .int .i64 0, .int .i64 0, .int .i64 0, .int .i64 0, .int .i64 0, .int .i64 0, .int .i64 0, .int .i64 0], .pair (.int .i64) (.pair (.int .i64) (.pair (.int .i64) (.pair (.int .i64) (.pair (.int .i64) (.pair (.int .i64) (.pair (.int .i64) (.pair (.int .i64) (.pair (.int .i64) (.pair (.int .i64) (.int .i64))))))))))⟩),
  (143, ⟨.struct [(0, 11), (11, 11)], 22, 176, [.int .i64 0, .int .i64 0, .int .i64 0, .int .i64 0, .int .i64 0, .int .i64 0, .int .i64 0, .int .i64 0, .int .i64 0, .int .i64 0, .int .i64 0, .int .i64 0, .int .i64 0, .int .i64 0, .int .i64 0, .int .i64 0, .int .i64 0, .int .i64 0, .int .i64 0, .int .i64 0, .int .i64 0, .int .i64 0], .pair (.pair (.int .i64) (.pair (.int .i64) (.pair (.int .i64) (.pair (.int .i64) (.pair (.int .i64) (.pair (.int .i64) (.pair (.int .i64) (.pair (.int .i64) (.pair (.int .i64) (.pair (.int .i64) (.int .i64))))))))))) (.pair (.int .i64) (.pair (.int .i64) (.pair (.int .i64) (.pair (.int .i64) (.pair (.int .i64) (.pair (.int .i64) (.pair (.int .i64) (.pair (.int .i64) (.pair (.int .i64) (.pair (.int .i64) (.int .i64)))))))))))⟩)]
def eqs : List (Nat × (Bool × List TK)) := []
theorem tys_ok : tableOk Try.prog tys = true := by kernel_rfl
theorem eqs_ok : eqsOk Try.prog eqs = true := by kernel_rfl
theorem mixed : Try.prog.follows .mixedOrders = true := by kernel_rfl

/- armplan/armplanmake.Round -/
def t_armplanmake_Round (a0 : Int) (a1 : Int) : Tr Int :=
  let x1 : Int := Int.tmod a0 a1
  .br (!decide (a1 = 0)) (
   let x2 : Bool := decide (x1 < 0)
   .br (x2) (
    let x3 : Int := IntKind.wrap .i64 (x1 + a1)
    .leaf x3) (
    .leaf x1)) .fail
def armplanmake_Round (a0 : Int) (a1 : Int) : Int := (t_armplanmake_Round a0 a1).val
def dom_armplanmake_Round (a0 : Int) (a1 : Int) : Bool := (t_armplanmake_Round a0 a1).dom
theorem run_armplanmake_Round : ∀ x, runF (mkC tys eqs [] [] noLoops) 200 36 Try.f36 (argsA [.int .i64, .int .i64] x) [] (fun v h => toRes h [.int .i64] v) = (t_armplanmake_Round x.1 x.2.1).optA (fun r => (r, ())) := by
  intro x; kernel_rfl
theorem fn_armplanmake_Round : FnOk Try.prog 36 [.int .i64, .int .i64] [.int .i64] (fun x => bif dom_armplanmake_Round x.1 x.2.1 then some ((fun r => (r, ())) (armplanmake_Round x.1 x.2.1)) else none) :=
  fn_part (t := fun (x : Ar [.int .i64, .int .i64]) => t_armplanmake_Round x.1 x.2.1) (R := Int) (Ts := [.int .i64]) (mk := (fun r => (r, ()))) (mkC_ok tys_ok eqs_ok (fns_nil _) (inl_nil _) noLoops_ok mixed) Try.func36 run_armplanmake_Round
def hd_armplanmake_Round : Hd := guardHd [.int .i64, .int .i64] [.int .i64] (fun x => dom_armplanmake_Round x.1 x.2.1) (fun x => (fun r => (r, ())) (armplanmake_Round x.1 x.2.1))
theorem ok_armplanmake_Round : HdOk Try.prog 36 hd_armplanmake_Round.sem ∧ Enters Try.prog 36 := guard_ok fn_armplanmake_Round Try.func36 (by kernel_rfl) (by kernel_rfl)

/- armplan/angle.mod -/
def t_angle_mod (a0 : Int) : Tr Int :=
  let x1 : Int := Int.tmod a0 65536
  let x2 : Bool := decide (x1 < 0)
  .br (x2) (
   let x3 : Int := IntKind.wrap .i64 (x1 + 65536)
   .leaf x3) (
   .leaf x1)
def angle_mod (a0 : Int) : Int := (t_angle_mod a0).val
theorem run_angle_mod : ∀ x, runF (mkC tys eqs [] [] noLoops) 200 117 Try.f117 (argsA [.int .i64] x) [] (fun v h => toRes h [.int .i64] v) = (t_angle_mod x.1).optA (fun r => (r, ())) := by
  intro x; kernel_rfl
theorem fn_angle_mod : FnOk Try.prog 117 [.int .i64] [.int .i64] (fun x => some ((fun r => (r, ())) (angle_mod x.1))) :=
  fn_tot (t := fun (x : Ar [.int .i64]) => t_angle_mod x.1) (R := Int) (Ts := [.int .i64]) (mk := (fun r => (r, ()))) (mkC_ok tys_ok eqs_ok (fns_nil _) (inl_nil _) noLoops_ok mixed) Try.func117 run_angle_mod (fun _ => by kernel_rfl)
def hd_angle_mod : Hd := dataHd [.int .i64] [.int .i64] (fun x => some ((fun r => (r, ())) (angle_mod x.1)))
theorem ok_angle_mod : HdOk Try.prog 117 hd_angle_mod.sem ∧ Enters Try.prog 117 := data_ok fn_angle_mod Try.func117 (by kernel_rfl) (by kernel_rfl)

/- armplan/angle.up -/
def t_angle_up (a0 : Int) (a1 : Int) : Tr Int :=
  let x1 : Int := IntKind.wrap .i64 (a0 + a1)
  let x2 : Int := IntKind.wrap .i64 (x1 - 1)
  let x3 : Int := IntKind.wrap .i64 (Int.tdiv x2 a1)
  .br (!decide (a1 = 0)) (
   .leaf x3) .fail
def angle_up (a0 : Int) (a1 : Int) : Int := (t_angle_up a0 a1).val
def dom_angle_up (a0 : Int) (a1 : Int) : Bool := (t_angle_up a0 a1).dom
theorem run_angle_up : ∀ x, runF (mkC tys eqs [] [] noLoops) 200 140 Try.f140 (argsA [.int .i64, .int .i64] x) [] (fun v h => toRes h [.int .i64] v) = (t_angle_up x.1 x.2.1).optA (fun r => (r, ())) := by
  intro x; kernel_rfl
theorem fn_angle_up : FnOk Try.prog 140 [.int .i64, .int .i64] [.int .i64] (fun x => bif dom_angle_up x.1 x.2.1 then some ((fun r => (r, ())) (angle_up x.1 x.2.1)) else none) :=
  fn_part (t := fun (x : Ar [.int .i64, .int .i64]) => t_angle_up x.1 x.2.1) (R := Int) (Ts := [.int .i64]) (mk := (fun r => (r, ()))) (mkC_ok tys_ok eqs_ok (fns_nil _) (inl_nil _) noLoops_ok mixed) Try.func140 run_angle_up
def hd_angle_up : Hd := guardHd [.int .i64, .int .i64] [.int .i64] (fun x => dom_angle_up x.1 x.2.1) (fun x => (fun r => (r, ())) (angle_up x.1 x.2.1))
theorem ok_angle_up : HdOk Try.prog 140 hd_angle_up.sem ∧ Enters Try.prog 140 := guard_ok fn_angle_up Try.func140 (by kernel_rfl) (by kernel_rfl)

/- armplan/angle.powersOf -/
def t_angle_powersOf (a0 : Int) : Tr ((Int × (Int × (Int × (Int × (Int × (Int × (Int × (Int × (Int × (Int × Int)))))))))) × (Int × (Int × (Int × (Int × (Int × (Int × (Int × (Int × (Int × (Int × Int))))))))))) :=
  let x1 : Int := IntKind.wrap .i64 (a0 * 6746518852)
  let x2 : Int := IntKind.wrap .i64 (Int.tdiv x1 65536)
  let x3 : Int := IntKind.wrap .i64 (a0 * 6746518853)
  let r4 : Int := angle_up x3 65536
  let x5 : Int := IntKind.wrap .i64 (x2 * x2)
  let x6 : Int := IntKind.wrap .i64 (Int.tdiv x5 1073741824)
  let x7 : Int := IntKind.wrap .i64 (r4 * r4)
  let r8 : Int := angle_up x7 1073741824
  let x9 : Int := IntKind.wrap .i64 (x6 * x2)
  let x10 : Int := IntKind.wrap .i64 (Int.tdiv x9 1073741824)
  let x11 : Int := IntKind.wrap .i64 (r8 * r4)
  let r12 : Int := angle_up x11 1073741824
  let x13 : Int := IntKind.wrap .i64 (x10 * x2)
  let x14 : Int := IntKind.wrap .i64 (Int.tdiv x13 1073741824)
  let x15 : Int := IntKind.wrap .i64 (r12 * r4)
  let r16 : Int := angle_up x15 1073741824
  let x17 : Int := IntKind.wrap .i64 (x14 * x2)
  let x18 : Int := IntKind.wrap .i64 (Int.tdiv x17 1073741824)
  let x19 : Int := IntKind.wrap .i64 (r16 * r4)
  let r20 : Int := angle_up x19 1073741824
  let x21 : Int := IntKind.wrap .i64 (x18 * x2)
  let x22 : Int := IntKind.wrap .i64 (Int.tdiv x21 1073741824)
  let x23 : Int := IntKind.wrap .i64 (r20 * r4)
  let r24 : Int := angle_up x23 1073741824
  let x25 : Int := IntKind.wrap .i64 (x22 * x2)
  let x26 : Int := IntKind.wrap .i64 (Int.tdiv x25 1073741824)
  let x27 : Int := IntKind.wrap .i64 (r24 * r4)
  let r28 : Int := angle_up x27 1073741824
  let x29 : Int := IntKind.wrap .i64 (x26 * x2)
  let x30 : Int := IntKind.wrap .i64 (Int.tdiv x29 1073741824)
  let x31 : Int := IntKind.wrap .i64 (r28 * r4)
  let r32 : Int := angle_up x31 1073741824
  let x33 : Int := IntKind.wrap .i64 (x30 * x2)
  let x34 : Int := IntKind.wrap .i64 (Int.tdiv x33 1073741824)
  let x35 : Int := IntKind.wrap .i64 (r32 * r4)
  let r36 : Int := angle_up x35 1073741824
  let x37 : Int := IntKind.wrap .i64 (x34 * x2)
  let x38 : Int := IntKind.wrap .i64 (Int.tdiv x37 1073741824)
  let x39 : Int := IntKind.wrap .i64 (r36 * r4)
  let r40 : Int := angle_up x39 1073741824
  .leaf ((0, (x2, (x6, (x10, (x14, (x18, (x22, (x26, (x30, (x34, x38)))))))))), (0, (r4, (r8, (r12, (r16, (r20, (r24, (r28, (r32, (r36, r40)))))))))))
def angle_powersOf (a0 : Int) : ((Int × (Int × (Int × (Int × (Int × (Int × (Int × (Int × (Int × (Int × Int)))))))))) × (Int × (Int × (Int × (Int × (Int × (Int × (Int × (Int × (Int × (Int × Int))))))))))) := (t_angle_powersOf a0).val
theorem run_angle_powersOf : ∀ x, runF (mkC tys eqs [(140, hd_angle_up)] [] noLoops) 200 138 Try.f138 (argsA [.int .i64] x) [] (fun v h => toRes h [.pair (.pair (.int .i64) (.pair (.int .i64) (.pair (.int .i64) (.pair (.int .i64) (.pair (.int .i64) (.pair (.int .i64) (.pair (.int .i64) (.pair (.int .i64) (.pair (.int .i64) (.pair (.int .i64) (.int .i64))))))))))) (.pair (.int .i64) (.pair (.int .i64) (.pair (.int .i64) (.pair (.int .i64) (.pair (.int .i64) (.pair (.int .i64) (.pair (.int .i64) (.pair (.int .i64) (.pair (.int .i64) (.pair (.int .i64) (.int .i64)))))))))))] v) = (t_angle_powersOf x.1).optA (fun r => (r, ())) := by
  intro x; kernel_rfl
theorem fn_angle_powersOf : FnOk Try.prog 138 [.int .i64] [.pair (.pair (.int .i64) (.pair (.int .i64) (.pair (.int .i64) (.pair (.int .i64) (.pair (.int .i64) (.pair (.int .i64) (.pair (.int .i64) (.pair (.int .i64) (.pair (.int .i64) (.pair (.int .i64) (.int .i64))))))))))) (.pair (.int .i64) (.pair (.int .i64) (.pair (.int .i64) (.pair (.int .i64) (.pair (.int .i64) (.pair (.int .i64) (.pair (.int .i64) (.pair (.int .i64) (.pair (.int .i64) (.pair (.int .i64) (.int .i64)))))))))))] (fun x => some ((fun r => (r, ())) (angle_powersOf x.1))) :=
  fn_tot (t := fun (x : Ar [.int .i64]) => t_angle_powersOf x.1) (R := ((Int × (Int × (Int × (Int × (Int × (Int × (Int × (Int × (Int × (Int × Int)))))))))) × (Int × (Int × (Int × (Int × (Int × (Int × (Int × (Int × (Int × (Int × Int)))))))))))) (Ts := [.pair (.pair (.int .i64) (.pair (.int .i64) (.pair (.int .i64) (.pair (.int .i64) (.pair (.int .i64) (.pair (.int .i64) (.pair (.int .i64) (.pair (.int .i64) (.pair (.int .i64) (.pair (.int .i64) (.int .i64))))))))))) (.pair (.int .i64) (.pair (.int .i64) (.pair (.int .i64) (.pair (.int .i64) (.pair (.int .i64) (.pair (.int .i64) (.pair (.int .i64) (.pair (.int .i64) (.pair (.int .i64) (.pair (.int .i64) (.int .i64)))))))))))]) (mk := (fun r => (r, ()))) (mkC_ok tys_ok eqs_ok (fns_cons ok_angle_up (fns_nil _)) (inl_nil _) noLoops_ok mixed) Try.func138 run_angle_powersOf (fun _ => by kernel_rfl)
def hd_angle_powersOf : Hd := dataHd [.int .i64] [.pair (.pair (.int .i64) (.pair (.int .i64) (.pair (.int .i64) (.pair (.int .i64) (.pair (.int .i64) (.pair (.int .i64) (.pair (.int .i64) (.pair (.int .i64) (.pair (.int .i64) (.pair (.int .i64) (.int .i64))))))))))) (.pair (.int .i64) (.pair (.int .i64) (.pair (.int .i64) (.pair (.int .i64) (.pair (.int .i64) (.pair (.int .i64) (.pair (.int .i64) (.pair (.int .i64) (.pair (.int .i64) (.pair (.int .i64) (.int .i64)))))))))))] (fun x => some ((fun r => (r, ())) (angle_powersOf x.1)))
theorem ok_angle_powersOf : HdOk Try.prog 138 hd_angle_powersOf.sem ∧ Enters Try.prog 138 := data_ok fn_angle_powersOf Try.func138 (by kernel_rfl) (by kernel_rfl)

/- armplan/fixed.ShiftDown -/
def t_fixed_ShiftDown (a0 : Int) (a1 : Int) : Tr Int :=
  let x1 : Bool := decide (a1 < 0)
  .br (x1) (
   .leaf a0) (
   let x2 : Int := shrI .i64 a0 a1
   .br (decide (0 ≤ a1)) (
    .leaf x2) .fail)
def fixed_ShiftDown (a0 : Int) (a1 : Int) : Int := (t_fixed_ShiftDown a0 a1).val
def dom_fixed_ShiftDown (a0 : Int) (a1 : Int) : Bool := (t_fixed_ShiftDown a0 a1).dom
theorem run_fixed_ShiftDown : ∀ x, runF (mkC tys eqs [] [] noLoops) 200 127 Try.f127 (argsA [.int .i64, .int .i64] x) [] (fun v h => toRes h [.int .i64] v) = (t_fixed_ShiftDown x.1 x.2.1).optA (fun r => (r, ())) := by
  intro x; kernel_rfl
theorem fn_fixed_ShiftDown : FnOk Try.prog 127 [.int .i64, .int .i64] [.int .i64] (fun x => bif dom_fixed_ShiftDown x.1 x.2.1 then some ((fun r => (r, ())) (fixed_ShiftDown x.1 x.2.1)) else none) :=
  fn_part (t := fun (x : Ar [.int .i64, .int .i64]) => t_fixed_ShiftDown x.1 x.2.1) (R := Int) (Ts := [.int .i64]) (mk := (fun r => (r, ()))) (mkC_ok tys_ok eqs_ok (fns_nil _) (inl_nil _) noLoops_ok mixed) Try.func127 run_fixed_ShiftDown
def hd_fixed_ShiftDown : Hd := guardHd [.int .i64, .int .i64] [.int .i64] (fun x => dom_fixed_ShiftDown x.1 x.2.1) (fun x => (fun r => (r, ())) (fixed_ShiftDown x.1 x.2.1))
theorem ok_fixed_ShiftDown : HdOk Try.prog 127 hd_fixed_ShiftDown.sem ∧ Enters Try.prog 127 := guard_ok fn_fixed_ShiftDown Try.func127 (by kernel_rfl) (by kernel_rfl)

/- armplan/fixed.ShiftUp -/
def t_fixed_ShiftUp (a0 : Int) (a1 : Int) : Tr Int :=
  let r1 : Int := fixed_ShiftDown a0 a1
  .br (dom_fixed_ShiftDown a0 a1) (
   let x2 : Bool := decide (0 ≤ a1)
   .br (x2) (
    let x3 : Int := shlI .i64 r1 a1
    .br (decide (0 ≤ a1)) (
     let x4 : Bool := !decide (x3 = a0)
     .br (x4) (
      let x5 : Int := IntKind.wrap .i64 (r1 + 1)
      .leaf x5) (
      .leaf r1)) .fail) (
    .leaf r1)) .fail
def fixed_ShiftUp (a0 : Int) (a1 : Int) : Int := (t_fixed_ShiftUp a0 a1).val
def dom_fixed_ShiftUp (a0 : Int) (a1 : Int) : Bool := (t_fixed_ShiftUp a0 a1).dom
theorem run_fixed_ShiftUp : ∀ x, runF (mkC tys eqs [(127, hd_fixed_ShiftDown)] [] noLoops) 200 128 Try.f128 (argsA [.int .i64, .int .i64] x) [] (fun v h => toRes h [.int .i64] v) = (t_fixed_ShiftUp x.1 x.2.1).optA (fun r => (r, ())) := by
  intro x; kernel_rfl
theorem fn_fixed_ShiftUp : FnOk Try.prog 128 [.int .i64, .int .i64] [.int .i64] (fun x => bif dom_fixed_ShiftUp x.1 x.2.1 then some ((fun r => (r, ())) (fixed_ShiftUp x.1 x.2.1)) else none) :=
  fn_part (t := fun (x : Ar [.int .i64, .int .i64]) => t_fixed_ShiftUp x.1 x.2.1) (R := Int) (Ts := [.int .i64]) (mk := (fun r => (r, ()))) (mkC_ok tys_ok eqs_ok (fns_cons ok_fixed_ShiftDown (fns_nil _)) (inl_nil _) noLoops_ok mixed) Try.func128 run_fixed_ShiftUp
def hd_fixed_ShiftUp : Hd := guardHd [.int .i64, .int .i64] [.int .i64] (fun x => dom_fixed_ShiftUp x.1 x.2.1) (fun x => (fun r => (r, ())) (fixed_ShiftUp x.1 x.2.1))
theorem ok_fixed_ShiftUp : HdOk Try.prog 128 hd_fixed_ShiftUp.sem ∧ Enters Try.prog 128 := guard_ok fn_fixed_ShiftUp Try.func128 (by kernel_rfl) (by kernel_rfl)

/- armplan/angle.enclosure -/
def t_angle_enclosure (a0 : Int) (a1 : Int) : Tr (Int × Int) :=
  let r1 : Int := fixed_ShiftDown a0 14
  let x2 : Int := if r1 > 0 then r1 else 0
  let r3 : Int := fixed_ShiftUp a1 14
  let x4 : Int := if r3 < 65536 then r3 else 65536
  .leaf (x2, x4)
def angle_enclosure (a0 : Int) (a1 : Int) : (Int × Int) := (t_angle_enclosure a0 a1).val
theorem run_angle_enclosure : ∀ x, runF (mkC tys eqs [(127, hd_fixed_ShiftDown), (128, hd_fixed_ShiftUp)] [] noLoops) 200 141 Try.f141 (argsA [.int .i64, .int .i64] x) [] (fun v h => toRes h [.pair (.int .i64) (.int .i64)] v) = (t_angle_enclosure x.1 x.2.1).optA (fun r => (r, ())) := by
  intro x; kernel_rfl
theorem fn_angle_enclosure : FnOk Try.prog 141 [.int .i64, .int .i64] [.pair (.int .i64) (.int .i64)] (fun x => some ((fun r => (r, ())) (angle_enclosure x.1 x.2.1))) :=
  fn_tot (t := fun (x : Ar [.int .i64, .int .i64]) => t_angle_enclosure x.1 x.2.1) (R := (Int × Int)) (Ts := [.pair (.int .i64) (.int .i64)]) (mk := (fun r => (r, ()))) (mkC_ok tys_ok eqs_ok (fns_cons ok_fixed_ShiftDown (fns_cons ok_fixed_ShiftUp (fns_nil _))) (inl_nil _) noLoops_ok mixed) Try.func141 run_angle_enclosure (fun _ => by kernel_rfl)
def hd_angle_enclosure : Hd := dataHd [.int .i64, .int .i64] [.pair (.int .i64) (.int .i64)] (fun x => some ((fun r => (r, ())) (angle_enclosure x.1 x.2.1)))
theorem ok_angle_enclosure : HdOk Try.prog 141 hd_angle_enclosure.sem ∧ Enters Try.prog 141 := data_ok fn_angle_enclosure Try.func141 (by kernel_rfl) (by kernel_rfl)

/- armplan/angle.sine -/
def t_angle_sine (a0 : Int) : Tr (Int × Int) :=
  let r1 : ((Int × (Int × (Int × (Int × (Int × (Int × (Int × (Int × (Int × (Int × Int)))))))))) × (Int × (Int × (Int × (Int × (Int × (Int × (Int × (Int × (Int × (Int × Int))))))))))) := angle_powersOf a0
  let r2 : Int := angle_up r1.2.2.2.2.1 6
  let x3 : Int := IntKind.wrap .i64 (0 - r2)
  let x4 : Int := IntKind.wrap .i64 (Int.tdiv r1.1.2.2.2.2.2.1 120)
  let r5 : Int := angle_up r1.2.2.2.2.2.2.2.2.1 5040
  let x6 : Int := IntKind.wrap .i64 (0 - r5)
  let x7 : Int := IntKind.wrap .i64 (0 + r1.1.2.1)
  let x8 : Int := IntKind.wrap .i64 (x7 + x3)
  let x9 : Int := IntKind.wrap .i64 (x8 + x4)
  let x10 : Int := IntKind.wrap .i64 (x9 + x6)
  let x11 : Int := IntKind.wrap .i64 (Int.tdiv r1.1.2.2.2.1 6)
  let x12 : Int := IntKind.wrap .i64 (0 - x11)
  let r13 : Int := angle_up r1.2.2.2.2.2.2.1 120
  let x14 : Int := IntKind.wrap .i64 (Int.tdiv r1.1.2.2.2.2.2.2.2.1 5040)
  let x15 : Int := IntKind.wrap .i64 (0 - x14)
  let r16 : Int := angle_up r1.2.2.2.2.2.2.2.2.2.2.1 362880
  let x17 : Int := IntKind.wrap .i64 (0 + r1.2.2.1)
  let x18 : Int := IntKind.wrap .i64 (x17 + x12)
  let x19 : Int := IntKind.wrap .i64 (x18 + r13)
  let x20 : Int := IntKind.wrap .i64 (x19 + x15)
  let x21 : Int := IntKind.wrap .i64 (x20 + r16)
  let r22 : (Int × Int) := angle_enclosure x10 x21
  .leaf r22
def angle_sine (a0 : Int) : (Int × Int) := (t_angle_sine a0).val
theorem run_angle_sine : ∀ x, runF (mkC tys eqs [(138, hd_angle_powersOf), (140, hd_angle_up), (141, hd_angle_enclosure)] [(139, Try.f139)] noLoops) 200 130 Try.f130 (argsA [.int .i64] x) [] (fun v h => toRes h [.pair (.int .i64) (.int .i64)] v) = (t_angle_sine x.1).optA (fun r => (r, ())) := by
  intro x; kernel_rfl
theorem fn_angle_sine : FnOk Try.prog 130 [.int .i64] [.pair (.int .i64) (.int .i64)] (fun x => some ((fun r => (r, ())) (angle_sine x.1))) :=
  fn_tot (t := fun (x : Ar [.int .i64]) => t_angle_sine x.1) (R := (Int × Int)) (Ts := [.pair (.int .i64) (.int .i64)]) (mk := (fun r => (r, ()))) (mkC_ok tys_ok eqs_ok (fns_cons ok_angle_powersOf (fns_cons ok_angle_up (fns_cons ok_angle_enclosure (fns_nil _)))) (inl_cons Try.func139 (by kernel_rfl) (inl_nil _)) noLoops_ok mixed) Try.func130 run_angle_sine (fun _ => by kernel_rfl)
def hd_angle_sine : Hd := dataHd [.int .i64] [.pair (.int .i64) (.int .i64)] (fun x => some ((fun r => (r, ())) (angle_sine x.1)))
theorem ok_angle_sine : HdOk Try.prog 130 hd_angle_sine.sem ∧ Enters Try.prog 130 := data_ok fn_angle_sine Try.func130 (by kernel_rfl) (by kernel_rfl)

/- armplan/angle.cosine -/
def t_angle_cosine (a0 : Int) : Tr (Int × Int) :=
  let r1 : ((Int × (Int × (Int × (Int × (Int × (Int × (Int × (Int × (Int × (Int × Int)))))))))) × (Int × (Int × (Int × (Int × (Int × (Int × (Int × (Int × (Int × (Int × Int))))))))))) := angle_powersOf a0
  let r2 : Int := angle_up r1.2.2.2.1 2
  let x3 : Int := IntKind.wrap .i64 (0 - r2)
  let x4 : Int := IntKind.wrap .i64 (Int.tdiv r1.1.2.2.2.2.1 24)
  let r5 : Int := angle_up r1.2.2.2.2.2.2.2.1 720
  let x6 : Int := IntKind.wrap .i64 (0 - r5)
  let x7 : Int := IntKind.wrap .i64 (Int.tdiv r1.1.2.2.2.2.2.2.2.2.1 40320)
  let r8 : Int := angle_up r1.2.2.2.2.2.2.2.2.2.2.2 3628800
  let x9 : Int := IntKind.wrap .i64 (0 - r8)
  let x10 : Int := IntKind.wrap .i64 (1073741824 + x3)
  let x11 : Int := IntKind.wrap .i64 (x10 + x4)
  let x12 : Int := IntKind.wrap .i64 (x11 + x6)
  let x13 : Int := IntKind.wrap .i64 (x12 + x7)
  let x14 : Int := IntKind.wrap .i64 (x13 + x9)
  let x15 : Int := IntKind.wrap .i64 (Int.tdiv r1.1.2.2.1 2)
  let x16 : Int := IntKind.wrap .i64 (0 - x15)
  let r17 : Int := angle_up r1.2.2.2.2.2.1 24
  let x18 : Int := IntKind.wrap .i64 (Int.tdiv r1.1.2.2.2.2.2.2.1 720)
  let x19 : Int := IntKind.wrap .i64 (0 - x18)
  let r20 : Int := angle_up r1.2.2.2.2.2.2.2.2.2.1 40320
  let x21 : Int := IntKind.wrap .i64 (1073741824 + x16)
  let x22 : Int := IntKind.wrap .i64 (x21 + r17)
  let x23 : Int := IntKind.wrap .i64 (x22 + x19)
  let x24 : Int := IntKind.wrap .i64 (x23 + r20)
  let r25 : (Int × Int) := angle_enclosure x14 x24
  .leaf r25
def angle_cosine (a0 : Int) : (Int × Int) := (t_angle_cosine a0).val
theorem run_angle_cosine : ∀ x, runF (mkC tys eqs [(138, hd_angle_powersOf), (140, hd_angle_up), (141, hd_angle_enclosure)] [(139, Try.f139)] noLoops) 200 131 Try.f131 (argsA [.int .i64] x) [] (fun v h => toRes h [.pair (.int .i64) (.int .i64)] v) = (t_angle_cosine x.1).optA (fun r => (r, ())) := by
  intro x; kernel_rfl
theorem fn_angle_cosine : FnOk Try.prog 131 [.int .i64] [.pair (.int .i64) (.int .i64)] (fun x => some ((fun r => (r, ())) (angle_cosine x.1))) :=
  fn_tot (t := fun (x : Ar [.int .i64]) => t_angle_cosine x.1) (R := (Int × Int)) (Ts := [.pair (.int .i64) (.int .i64)]) (mk := (fun r => (r, ()))) (mkC_ok tys_ok eqs_ok (fns_cons ok_angle_powersOf (fns_cons ok_angle_up (fns_cons ok_angle_enclosure (fns_nil _)))) (inl_cons Try.func139 (by kernel_rfl) (inl_nil _)) noLoops_ok mixed) Try.func131 run_angle_cosine (fun _ => by kernel_rfl)
def hd_angle_cosine : Hd := dataHd [.int .i64] [.pair (.int .i64) (.int .i64)] (fun x => some ((fun r => (r, ())) (angle_cosine x.1)))
theorem ok_angle_cosine : HdOk Try.prog 131 hd_angle_cosine.sem ∧ Enters Try.prog 131 := data_ok fn_angle_cosine Try.func131 (by kernel_rfl) (by kernel_rfl)

/- armplan/angle.rising -/
def t_angle_rising (a0 : Int) : Tr (Int × Int) :=
  let x1 : Bool := decide (a0 ≤ 8192)
  .br (x1) (
   let r2 : (Int × Int) := angle_sine a0
   .leaf r2) (
   let x3 : Int := IntKind.wrap .i64 (16384 - a0)
   let r4 : (Int × Int) := angle_cosine x3
   .leaf r4)
def angle_rising (a0 : Int) : (Int × Int) := (t_angle_rising a0).val
theorem run_angle_rising : ∀ x, runF (mkC tys eqs [(130, hd_angle_sine), (131, hd_angle_cosine)] [] noLoops) 200 118 Try.f118 (argsA [.int .i64] x) [] (fun v h => toRes h [.pair (.int .i64) (.int .i64)] v) = (t_angle_rising x.1).optA (fun r => (r, ())) := by
  intro x; kernel_rfl
theorem fn_angle_rising : FnOk Try.prog 118 [.int .i64] [.pair (.int .i64) (.int .i64)] (fun x => some ((fun r => (r, ())) (angle_rising x.1))) :=
  fn_tot (t := fun (x : Ar [.int .i64]) => t_angle_rising x.1) (R := (Int × Int)) (Ts := [.pair (.int .i64) (.int .i64)]) (mk := (fun r => (r, ()))) (mkC_ok tys_ok eqs_ok (fns_cons ok_angle_sine (fns_cons ok_angle_cosine (fns_nil _))) (inl_nil _) noLoops_ok mixed) Try.func118 run_angle_rising (fun _ => by kernel_rfl)
def hd_angle_rising : Hd := dataHd [.int .i64] [.pair (.int .i64) (.int .i64)] (fun x => some ((fun r => (r, ())) (angle_rising x.1)))
theorem ok_angle_rising : HdOk Try.prog 118 hd_angle_rising.sem ∧ Enters Try.prog 118 := data_ok fn_angle_rising Try.func118 (by kernel_rfl) (by kernel_rfl)

/- armplan/interval.Valid -/
def t_interval_Valid (a0 : (Int × Int)) : Tr Bool :=
  let x1 : Bool := decide ((-2147483648) ≤ a0.1)
  .br (x1) (
   let x2 : Bool := decide (a0.1 ≤ a0.2)
   .br (x2) (
    let x3 : Bool := decide (a0.2 ≤ 2147483648)
    .leaf x3) (
    .leaf false)) (
   .leaf false)
def interval_Valid (a0 : (Int × Int)) : Bool := (t_interval_Valid a0).val
theorem run_interval_Valid : ∀ x, runF (mkC tys eqs [] [] noLoops) 200 57 Try.f57 (argsA [.pair (.int .i64) (.int .i64)] x) [] (fun v h => toRes h [.bool] v) = (t_interval_Valid x.1).optA (fun r => (r, ())) := by
  intro x; kernel_rfl
theorem fn_interval_Valid : FnOk Try.prog 57 [.pair (.int .i64) (.int .i64)] [.bool] (fun x => some ((fun r => (r, ())) (interval_Valid x.1))) :=
  fn_tot (t := fun (x : Ar [.pair (.int .i64) (.int .i64)]) => t_interval_Valid x.1) (R := Bool) (Ts := [.bool]) (mk := (fun r => (r, ()))) (mkC_ok tys_ok eqs_ok (fns_nil _) (inl_nil _) noLoops_ok mixed) Try.func57 run_interval_Valid (fun _ => by kernel_rfl)
def hd_interval_Valid : Hd := dataHd [.pair (.int .i64) (.int .i64)] [.bool] (fun x => some ((fun r => (r, ())) (interval_Valid x.1)))
theorem ok_interval_Valid : HdOk Try.prog 57 hd_interval_Valid.sem ∧ Enters Try.prog 57 := data_ok fn_interval_Valid Try.func57 (by kernel_rfl) (by kernel_rfl)

/- armplan/interval.Neg -/
def t_interval_Neg (a0 : (Int × Int)) : Tr (Int × Int) :=
  let r1 : Bool := interval_Valid a0
  .br ((!r1)) (
   .leaf (0, 0)) (
   let x2 : Int := IntKind.wrap .i64 (0 - a0.2)
   let x3 : Int := IntKind.wrap .i64 (0 - a0.1)
   .leaf (x2, x3))
def interval_Neg (a0 : (Int × Int)) : (Int × Int) := (t_interval_Neg a0).val
theorem run_interval_Neg : ∀ x, runF (mkC tys eqs [(57, hd_interval_Valid)] [] noLoops) 200 61 Try.f61 (argsA [.pair (.int .i64) (.int .i64)] x) [] (fun v h => toRes h [.pair (.int .i64) (.int .i64)] v) = (t_interval_Neg x.1).optA (fun r => (r, ())) := by
  intro x; kernel_rfl
theorem fn_interval_Neg : FnOk Try.prog 61 [.pair (.int .i64) (.int .i64)] [.pair (.int .i64) (.int .i64)] (fun x => some ((fun r => (r, ())) (interval_Neg x.1))) :=
  fn_tot (t := fun (x : Ar [.pair (.int .i64) (.int .i64)]) => t_interval_Neg x.1) (R := (Int × Int)) (Ts := [.pair (.int .i64) (.int .i64)]) (mk := (fun r => (r, ()))) (mkC_ok tys_ok eqs_ok (fns_cons ok_interval_Valid (fns_nil _)) (inl_nil _) noLoops_ok mixed) Try.func61 run_interval_Neg (fun _ => by kernel_rfl)
def hd_interval_Neg : Hd := dataHd [.pair (.int .i64) (.int .i64)] [.pair (.int .i64) (.int .i64)] (fun x => some ((fun r => (r, ())) (interval_Neg x.1)))
theorem ok_interval_Neg : HdOk Try.prog 61 hd_interval_Neg.sem ∧ Enters Try.prog 61 := data_ok fn_interval_Neg Try.func61 (by kernel_rfl) (by kernel_rfl)

/- armplan/angle.Sin -/
def t_angle_Sin (a0 : Int) : Tr (Int × Int) :=
  let r1 : Int := angle_mod a0
  let x2 : Int := Int.tmod r1 16384
  let x3 : Int := IntKind.wrap .i64 (Int.tdiv r1 16384)
  let x4 : Bool := decide (x3 = 0)
  .br (x4) (
   let r5 : (Int × Int) := angle_rising x2
   .leaf r5) (
   let x6 : Bool := decide (x3 = 1)
   .br (x6) (
    let x7 : Int := IntKind.wrap .i64 (16384 - x2)
    let r8 : (Int × Int) := angle_rising x7
    .leaf r8) (
    let x9 : Bool := decide (x3 = 2)
    .br (x9) (
     let r10 : (Int × Int) := angle_rising x2
     let r11 : (Int × Int) := interval_Neg r10
     .leaf r11) (
     let x12 : Int := IntKind.wrap .i64 (16384 - x2)
     let r13 : (Int × Int) := angle_rising x12
     let r14 : (Int × Int) := interval_Neg r13
     .leaf r14)))
def angle_Sin (a0 : Int) : (Int × Int) := (t_angle_Sin a0).val
theorem run_angle_Sin : ∀ x, runF (mkC tys eqs [(61, hd_interval_Neg), (117, hd_angle_mod), (118, hd_angle_rising)] [] noLoops) 200 89 Try.f89 (argsA [.int .i64] x) [] (fun v h => toRes h [.pair (.int .i64) (.int .i64)] v) = (t_angle_Sin x.1).optA (fun r => (r, ())) := by
  intro x; kernel_rfl
theorem fn_angle_Sin : FnOk Try.prog 89 [.int .i64] [.pair (.int .i64) (.int .i64)] (fun x => some ((fun r => (r, ())) (angle_Sin x.1))) :=
  fn_tot (t := fun (x : Ar [.int .i64]) => t_angle_Sin x.1) (R := (Int × Int)) (Ts := [.pair (.int .i64) (.int .i64)]) (mk := (fun r => (r, ()))) (mkC_ok tys_ok eqs_ok (fns_cons ok_interval_Neg (fns_cons ok_angle_mod (fns_cons ok_angle_rising (fns_nil _)))) (inl_nil _) noLoops_ok mixed) Try.func89 run_angle_Sin (fun _ => by kernel_rfl)
def hd_angle_Sin : Hd := dataHd [.int .i64] [.pair (.int .i64) (.int .i64)] (fun x => some ((fun r => (r, ())) (angle_Sin x.1)))
theorem ok_angle_Sin : HdOk Try.prog 89 hd_angle_Sin.sem ∧ Enters Try.prog 89 := data_ok fn_angle_Sin Try.func89 (by kernel_rfl) (by kernel_rfl)

/- armplan/armplanref1.Valid -/
def t_armplanref1_Valid (a0 : (Int × Int)) : Tr Bool :=
  let x1 : Bool := decide ((-2147483648) ≤ a0.1)
  .br (x1) (
   let x2 : Bool := decide (a0.1 ≤ a0.2)
   .br (x2) (
    let x3 : Bool := decide (a0.2 ≤ 2147483648)
    .leaf x3) (
    .leaf false)) (
   .leaf false)
def armplanref1_Valid (a0 : (Int × Int)) : Bool := (t_armplanref1_Valid a0).val
theorem run_armplanref1_Valid : ∀ x, runF (mkC tys eqs [] [] noLoops) 200 63 Try.f63 (argsA [.pair (.int .i64) (.int .i64)] x) [] (fun v h => toRes h [.bool] v) = (t_armplanref1_Valid x.1).optA (fun r => (r, ())) := by
  intro x; kernel_rfl
theorem fn_armplanref1_Valid : FnOk Try.prog 63 [.pair (.int .i64) (.int .i64)] [.bool] (fun x => some ((fun r => (r, ())) (armplanref1_Valid x.1))) :=
  fn_tot (t := fun (x : Ar [.pair (.int .i64) (.int .i64)]) => t_armplanref1_Valid x.1) (R := Bool) (Ts := [.bool]) (mk := (fun r => (r, ()))) (mkC_ok tys_ok eqs_ok (fns_nil _) (inl_nil _) noLoops_ok mixed) Try.func63 run_armplanref1_Valid (fun _ => by kernel_rfl)
def hd_armplanref1_Valid : Hd := dataHd [.pair (.int .i64) (.int .i64)] [.bool] (fun x => some ((fun r => (r, ())) (armplanref1_Valid x.1)))
theorem ok_armplanref1_Valid : HdOk Try.prog 63 hd_armplanref1_Valid.sem ∧ Enters Try.prog 63 := data_ok fn_armplanref1_Valid Try.func63 (by kernel_rfl) (by kernel_rfl)

/- armplan/armplanref1.Neg -/
def t_armplanref1_Neg (a0 : (Int × Int)) : Tr (Int × Int) :=
  let r1 : Bool := armplanref1_Valid a0
  .br ((!r1)) (
   .leaf (0, 0)) (
   let x2 : Int := IntKind.wrap .i64 (0 - a0.2)
   let x3 : Int := IntKind.wrap .i64 (0 - a0.1)
   .leaf (x2, x3))
def armplanref1_Neg (a0 : (Int × Int)) : (Int × Int) := (t_armplanref1_Neg a0).val
theorem run_armplanref1_Neg : ∀ x, runF (mkC tys eqs [(63, hd_armplanref1_Valid)] [] noLoops) 200 99 Try.f99 (argsA [.pair (.int .i64) (.int .i64)] x) [] (fun v h => toRes h [.pair (.int .i64) (.int .i64)] v) = (t_armplanref1_Neg x.1).optA (fun r => (r, ())) := by
  intro x; kernel_rfl
theorem fn_armplanref1_Neg : FnOk Try.prog 99 [.pair (.int .i64) (.int .i64)] [.pair (.int .i64) (.int .i64)] (fun x => some ((fun r => (r, ())) (armplanref1_Neg x.1))) :=
  fn_tot (t := fun (x : Ar [.pair (.int .i64) (.int .i64)]) => t_armplanref1_Neg x.1) (R := (Int × Int)) (Ts := [.pair (.int .i64) (.int .i64)]) (mk := (fun r => (r, ()))) (mkC_ok tys_ok eqs_ok (fns_cons ok_armplanref1_Valid (fns_nil _)) (inl_nil _) noLoops_ok mixed) Try.func99 run_armplanref1_Neg (fun _ => by kernel_rfl)
def hd_armplanref1_Neg : Hd := dataHd [.pair (.int .i64) (.int .i64)] [.pair (.int .i64) (.int .i64)] (fun x => some ((fun r => (r, ())) (armplanref1_Neg x.1)))
theorem ok_armplanref1_Neg : HdOk Try.prog 99 hd_armplanref1_Neg.sem ∧ Enters Try.prog 99 := data_ok fn_armplanref1_Neg Try.func99 (by kernel_rfl) (by kernel_rfl)

/- armplan/armplanref1.Mod -/
def t_armplanref1_Mod (a0 : Int) : Tr Int :=
  let x1 : Int := Int.tmod a0 65536
  let x2 : Int := IntKind.wrap .i64 (x1 + 65536)
  let x3 : Int := Int.tmod x2 65536
  .leaf x3
def armplanref1_Mod (a0 : Int) : Int := (t_armplanref1_Mod a0).val
theorem run_armplanref1_Mod : ∀ x, runF (mkC tys eqs [] [] noLoops) 200 134 Try.f134 (argsA [.int .i64] x) [] (fun v h => toRes h [.int .i64] v) = (t_armplanref1_Mod x.1).optA (fun r => (r, ())) := by
  intro x; kernel_rfl
theorem fn_armplanref1_Mod : FnOk Try.prog 134 [.int .i64] [.int .i64] (fun x => some ((fun r => (r, ())) (armplanref1_Mod x.1))) :=
  fn_tot (t := fun (x : Ar [.int .i64]) => t_armplanref1_Mod x.1) (R := Int) (Ts := [.int .i64]) (mk := (fun r => (r, ()))) (mkC_ok tys_ok eqs_ok (fns_nil _) (inl_nil _) noLoops_ok mixed) Try.func134 run_armplanref1_Mod (fun _ => by kernel_rfl)
def hd_armplanref1_Mod : Hd := dataHd [.int .i64] [.int .i64] (fun x => some ((fun r => (r, ())) (armplanref1_Mod x.1)))
theorem ok_armplanref1_Mod : HdOk Try.prog 134 hd_armplanref1_Mod.sem ∧ Enters Try.prog 134 := data_ok fn_armplanref1_Mod Try.func134 (by kernel_rfl) (by kernel_rfl)

/- armplan/armplanref1.Floor -/
def t_armplanref1_Floor (a0 : Int) (a1 : Int) : Tr Int :=
  let x1 : Int := IntKind.wrap .i64 (Int.tdiv a0 a1)
  .br (!decide (a1 = 0)) (
   let x2 : Int := Int.tmod a0 a1
   .br (!decide (a1 = 0)) (
    let x3 : Bool := decide (x2 < 0)
    .br (x3) (
     let x4 : Int := IntKind.wrap .i64 (x1 - 1)
     .leaf x4) (
     .leaf x1)) .fail) .fail
def armplanref1_Floor (a0 : Int) (a1 : Int) : Int := (t_armplanref1_Floor a0 a1).val
def dom_armplanref1_Floor (a0 : Int) (a1 : Int) : Bool := (t_armplanref1_Floor a0 a1).dom
theorem run_armplanref1_Floor : ∀ x, runF (mkC tys eqs [] [] noLoops) 200 92 Try.f92 (argsA [.int .i64, .int .i64] x) [] (fun v h => toRes h [.int .i64] v) = (t_armplanref1_Floor x.1 x.2.1).optA (fun r => (r, ())) := by
  intro x; kernel_rfl
theorem fn_armplanref1_Floor : FnOk Try.prog 92 [.int .i64, .int .i64] [.int .i64] (fun x => bif dom_armplanref1_Floor x.1 x.2.1 then some ((fun r => (r, ())) (armplanref1_Floor x.1 x.2.1)) else none) :=
  fn_part (t := fun (x : Ar [.int .i64, .int .i64]) => t_armplanref1_Floor x.1 x.2.1) (R := Int) (Ts := [.int .i64]) (mk := (fun r => (r, ()))) (mkC_ok tys_ok eqs_ok (fns_nil _) (inl_nil _) noLoops_ok mixed) Try.func92 run_armplanref1_Floor
def hd_armplanref1_Floor : Hd := guardHd [.int .i64, .int .i64] [.int .i64] (fun x => dom_armplanref1_Floor x.1 x.2.1) (fun x => (fun r => (r, ())) (armplanref1_Floor x.1 x.2.1))
theorem ok_armplanref1_Floor : HdOk Try.prog 92 hd_armplanref1_Floor.sem ∧ Enters Try.prog 92 := guard_ok fn_armplanref1_Floor Try.func92 (by kernel_rfl) (by kernel_rfl)

/- armplan/armplanref1.Ceil -/
def t_armplanref1_Ceil (a0 : Int) (a1 : Int) : Tr Int :=
  let x1 : Int := IntKind.wrap .i64 (Int.tdiv a0 a1)
  .br (!decide (a1 = 0)) (
   let x2 : Int := Int.tmod a0 a1
   .br (!decide (a1 = 0)) (
    let x3 : Bool := decide (0 < x2)
    .br (x3) (
     let x4 : Int := IntKind.wrap .i64 (x1 + 1)
     .leaf x4) (
     .leaf x1)) .fail) .fail
def armplanref1_Ceil (a0 : Int) (a1 : Int) : Int := (t_armplanref1_Ceil a0 a1).val
def dom_armplanref1_Ceil (a0 : Int) (a1 : Int) : Bool := (t_armplanref1_Ceil a0 a1).dom
theorem run_armplanref1_Ceil : ∀ x, runF (mkC tys eqs [] [] noLoops) 200 93 Try.f93 (argsA [.int .i64, .int .i64] x) [] (fun v h => toRes h [.int .i64] v) = (t_armplanref1_Ceil x.1 x.2.1).optA (fun r => (r, ())) := by
  intro x; kernel_rfl
theorem fn_armplanref1_Ceil : FnOk Try.prog 93 [.int .i64, .int .i64] [.int .i64] (fun x => bif dom_armplanref1_Ceil x.1 x.2.1 then some ((fun r => (r, ())) (armplanref1_Ceil x.1 x.2.1)) else none) :=
  fn_part (t := fun (x : Ar [.int .i64, .int .i64]) => t_armplanref1_Ceil x.1 x.2.1) (R := Int) (Ts := [.int .i64]) (mk := (fun r => (r, ()))) (mkC_ok tys_ok eqs_ok (fns_nil _) (inl_nil _) noLoops_ok mixed) Try.func93 run_armplanref1_Ceil
def hd_armplanref1_Ceil : Hd := guardHd [.int .i64, .int .i64] [.int .i64] (fun x => dom_armplanref1_Ceil x.1 x.2.1) (fun x => (fun r => (r, ())) (armplanref1_Ceil x.1 x.2.1))
theorem ok_armplanref1_Ceil : HdOk Try.prog 93 hd_armplanref1_Ceil.sem ∧ Enters Try.prog 93 := guard_ok fn_armplanref1_Ceil Try.func93 (by kernel_rfl) (by kernel_rfl)

/- armplan/armplanref1.powers -/
def t_armplanref1_powers (a0 : Int) : Tr ((Int × (Int × (Int × (Int × (Int × (Int × (Int × (Int × (Int × (Int × Int)))))))))) × (Int × (Int × (Int × (Int × (Int × (Int × (Int × (Int × (Int × (Int × Int))))))))))) :=
  let x1 : Int := IntKind.wrap .i64 (a0 * 6746518852)
  let r2 : Int := armplanref1_Floor x1 65536
  let x3 : Int := IntKind.wrap .i64 (a0 * 6746518853)
  let r4 : Int := armplanref1_Ceil x3 65536
  let x5 : Int := IntKind.wrap .i64 (r2 * r2)
  let r6 : Int := armplanref1_Floor x5 1073741824
  let x7 : Int := IntKind.wrap .i64 (r4 * r4)
  let r8 : Int := armplanref1_Ceil x7 1073741824
  let x9 : Int := IntKind.wrap .i64 (r6 * r2)
  let r10 : Int := armplanref1_Floor x9 1073741824
  let x11 : Int := IntKind.wrap .i64 (r8 * r4)
  let r12 : Int := armplanref1_Ceil x11 1073741824
  let x13 : Int := IntKind.wrap .i64 (r10 * r2)
  let r14 : Int := armplanref1_Floor x13 1073741824
  let x15 : Int := IntKind.wrap .i64 (r12 * r4)
  let r16 : Int := armplanref1_Ceil x15 1073741824
  let x17 : Int := IntKind.wrap .i64 (r14 * r2)
  let r18 : Int := armplanref1_Floor x17 1073741824
  let x19 : Int := IntKind.wrap .i64 (r16 * r4)
  let r20 : Int := armplanref1_Ceil x19 1073741824
  let x21 : Int := IntKind.wrap .i64 (r18 * r2)
  let r22 : Int := armplanref1_Floor x21 1073741824
  let x23 : Int := IntKind.wrap .i64 (r20 * r4)
  let r24 : Int := armplanref1_Ceil x23 1073741824
  let x25 : Int := IntKind.wrap .i64 (r22 * r2)
  let r26 : Int := armplanref1_Floor x25 1073741824
  let x27 : Int := IntKind.wrap .i64 (r24 * r4)
  let r28 : Int := armplanref1_Ceil x27 1073741824
  let x29 : Int := IntKind.wrap .i64 (r26 * r2)
  let r30 : Int := armplanref1_Floor x29 1073741824
  let x31 : Int := IntKind.wrap .i64 (r28 * r4)
  let r32 : Int := armplanref1_Ceil x31 1073741824
  let x33 : Int := IntKind.wrap .i64 (r30 * r2)
  let r34 : Int := armplanref1_Floor x33 1073741824
  let x35 : Int := IntKind.wrap .i64 (r32 * r4)
  let r36 : Int := armplanref1_Ceil x35 1073741824
  let x37 : Int := IntKind.wrap .i64 (r34 * r2)
  let r38 : Int := armplanref1_Floor x37 1073741824
  let x39 : Int := IntKind.wrap .i64 (r36 * r4)
  let r40 : Int := armplanref1_Ceil x39 1073741824
  .leaf ((0, (r2, (r6, (r10, (r14, (r18, (r22, (r26, (r30, (r34, r38)))))))))), (0, (r4, (r8, (r12, (r16, (r20, (r24, (r28, (r32, (r36, r40)))))))))))
def armplanref1_powers (a0 : Int) : ((Int × (Int × (Int × (Int × (Int × (Int × (Int × (Int × (Int × (Int × Int)))))))))) × (Int × (Int × (Int × (Int × (Int × (Int × (Int × (Int × (Int × (Int × Int))))))))))) := (t_armplanref1_powers a0).val
theorem run_armplanref1_powers : ∀ x, runF (mkC tys eqs [(92, hd_armplanref1_Floor), (93, hd_armplanref1_Ceil)] [] noLoops) 200 144 Try.f144 (argsA [.int .i64] x) [] (fun v h => toRes h [.pair (.int .i64) (.pair (.int .i64) (.pair (.int .i64) (.pair (.int .i64) (.pair (.int .i64) (.pair (.int .i64) (.pair (.int .i64) (.pair (.int .i64) (.pair (.int .i64) (.pair (.int .i64) (.int .i64)))))))))), .pair (.int .i64) (.pair (.int .i64) (.pair (.int .i64) (.pair (.int .i64) (.pair (.int .i64) (.pair (.int .i64) (.pair (.int .i64) (.pair (.int .i64) (.pair (.int .i64) (.pair (.int .i64) (.int .i64))))))))))] v) = (t_armplanref1_powers x.1).optA (fun r => (r.1, r.2, ())) := by
  intro x; kernel_rfl
theorem fn_armplanref1_powers : FnOk Try.prog 144 [.int .i64] [.pair (.int .i64) (.pair (.int .i64) (.pair (.int .i64) (.pair (.int .i64) (.pair (.int .i64) (.pair (.int .i64) (.pair (.int .i64) (.pair (.int .i64) (.pair (.int .i64) (.pair (.int .i64) (.int .i64)))))))))), .pair (.int .i64) (.pair (.int .i64) (.pair (.int .i64) (.pair (.int .i64) (.pair (.int .i64) (.pair (.int .i64) (.pair (.int .i64) (.pair (.int .i64) (.pair (.int .i64) (.pair (.int .i64) (.int .i64))))))))))] (fun x => some ((fun r => (r.1, r.2, ())) (armplanref1_powers x.1))) :=
  fn_tot (t := fun (x : Ar [.int .i64]) => t_armplanref1_powers x.1) (R := ((Int × (Int × (Int × (Int × (Int × (Int × (Int × (Int × (Int × (Int × Int)))))))))) × (Int × (Int × (Int × (Int × (Int × (Int × (Int × (Int × (Int × (Int × Int)))))))))))) (Ts := [.pair (.int .i64) (.pair (.int .i64) (.pair (.int .i64) (.pair (.int .i64) (.pair (.int .i64) (.pair (.int .i64) (.pair (.int .i64) (.pair (.int .i64) (.pair (.int .i64) (.pair (.int .i64) (.int .i64)))))))))), .pair (.int .i64) (.pair (.int .i64) (.pair (.int .i64) (.pair (.int .i64) (.pair (.int .i64) (.pair (.int .i64) (.pair (.int .i64) (.pair (.int .i64) (.pair (.int .i64) (.pair (.int .i64) (.int .i64))))))))))]) (mk := (fun r => (r.1, r.2, ()))) (mkC_ok tys_ok eqs_ok (fns_cons ok_armplanref1_Floor (fns_cons ok_armplanref1_Ceil (fns_nil _))) (inl_nil _) noLoops_ok mixed) Try.func144 run_armplanref1_powers (fun _ => by kernel_rfl)
def hd_armplanref1_powers : Hd := dataHd [.int .i64] [.pair (.int .i64) (.pair (.int .i64) (.pair (.int .i64) (.pair (.int .i64) (.pair (.int .i64) (.pair (.int .i64) (.pair (.int .i64) (.pair (.int .i64) (.pair (.int .i64) (.pair (.int .i64) (.int .i64)))))))))), .pair (.int .i64) (.pair (.int .i64) (.pair (.int .i64) (.pair (.int .i64) (.pair (.int .i64) (.pair (.int .i64) (.pair (.int .i64) (.pair (.int .i64) (.pair (.int .i64) (.pair (.int .i64) (.int .i64))))))))))] (fun x => some ((fun r => (r.1, r.2, ())) (armplanref1_powers x.1)))
theorem ok_armplanref1_powers : HdOk Try.prog 144 hd_armplanref1_powers.sem ∧ Enters Try.prog 144 := data_ok fn_armplanref1_powers Try.func144 (by kernel_rfl) (by kernel_rfl)

/- armplan/armplanref1.enclosure -/
def t_armplanref1_enclosure (a0 : Int) (a1 : Int) : Tr (Int × Int) :=
  let r1 : Int := armplanref1_Floor a0 16384
  let x2 : Int := if r1 > 0 then r1 else 0
  let r3 : Int := armplanref1_Ceil a1 16384
  let x4 : Int := if r3 < 65536 then r3 else 65536
  .leaf (x2, x4)
def armplanref1_enclosure (a0 : Int) (a1 : Int) : (Int × Int) := (t_armplanref1_enclosure a0 a1).val
theorem run_armplanref1_enclosure : ∀ x, runF (mkC tys eqs [(92, hd_armplanref1_Floor), (93, hd_armplanref1_Ceil)] [] noLoops) 200 145 Try.f145 (argsA [.int .i64, .int .i64] x) [] (fun v h => toRes h [.pair (.int .i64) (.int .i64)] v) = (t_armplanref1_enclosure x.1 x.2.1).optA (fun r => (r, ())) := by
  intro x; kernel_rfl
theorem fn_armplanref1_enclosure : FnOk Try.prog 145 [.int .i64, .int .i64] [.pair (.int .i64) (.int .i64)] (fun x => some ((fun r => (r, ())) (armplanref1_enclosure x.1 x.2.1))) :=
  fn_tot (t := fun (x : Ar [.int .i64, .int .i64]) => t_armplanref1_enclosure x.1 x.2.1) (R := (Int × Int)) (Ts := [.pair (.int .i64) (.int .i64)]) (mk := (fun r => (r, ()))) (mkC_ok tys_ok eqs_ok (fns_cons ok_armplanref1_Floor (fns_cons ok_armplanref1_Ceil (fns_nil _))) (inl_nil _) noLoops_ok mixed) Try.func145 run_armplanref1_enclosure (fun _ => by kernel_rfl)
def hd_armplanref1_enclosure : Hd := dataHd [.int .i64, .int .i64] [.pair (.int .i64) (.int .i64)] (fun x => some ((fun r => (r, ())) (armplanref1_enclosure x.1 x.2.1)))
theorem ok_armplanref1_enclosure : HdOk Try.prog 145 hd_armplanref1_enclosure.sem ∧ Enters Try.prog 145 := data_ok fn_armplanref1_enclosure Try.func145 (by kernel_rfl) (by kernel_rfl)

/- armplan/armplanref1.sine -/
def t_armplanref1_sine (a0 : Int) : Tr (Int × Int) :=
  let r1 : ((Int × (Int × (Int × (Int × (Int × (Int × (Int × (Int × (Int × (Int × Int)))))))))) × (Int × (Int × (Int × (Int × (Int × (Int × (Int × (Int × (Int × (Int × Int))))))))))) := armplanref1_powers a0
  let r2 : Int := armplanref1_Ceil r1.2.2.2.2.1 6
  let x3 : Int := IntKind.wrap .i64 (r1.1.2.1 - r2)
  let r4 : Int := armplanref1_Floor r1.1.2.2.2.2.2.1 120
  let x5 : Int := IntKind.wrap .i64 (x3 + r4)
  let r6 : Int := armplanref1_Ceil r1.2.2.2.2.2.2.2.2.1 5040
  let x7 : Int := IntKind.wrap .i64 (x5 - r6)
  let r8 : Int := armplanref1_Floor r1.1.2.2.2.1 6
  let x9 : Int := IntKind.wrap .i64 (r1.2.2.1 - r8)
  let r10 : Int := armplanref1_Ceil r1.2.2.2.2.2.2.1 120
  let x11 : Int := IntKind.wrap .i64 (x9 + r10)
  let r12 : Int := armplanref1_Floor r1.1.2.2.2.2.2.2.2.1 5040
  let x13 : Int := IntKind.wrap .i64 (x11 - r12)
  let r14 : Int := armplanref1_Ceil r1.2.2.2.2.2.2.2.2.2.2.1 362880
  let x15 : Int := IntKind.wrap .i64 (x13 + r14)
  let r16 : (Int × Int) := armplanref1_enclosure x7 x15
  .leaf r16
def armplanref1_sine (a0 : Int) : (Int × Int) := (t_armplanref1_sine a0).val
theorem run_armplanref1_sine : ∀ x, runF (mkC tys eqs [(92, hd_armplanref1_Floor), (93, hd_armplanref1_Ceil), (144, hd_armplanref1_powers), (145, hd_armplanref1_enclosure)] [] noLoops) 200 142 Try.f142 (argsA [.int .i64] x) [] (fun v h => toRes h [.pair (.int .i64) (.int .i64)] v) = (t_armplanref1_sine x.1).optA (fun r => (r, ())) := by
  intro x; kernel_rfl
theorem fn_armplanref1_sine : FnOk Try.prog 142 [.int .i64] [.pair (.int .i64) (.int .i64)] (fun x => some ((fun r => (r, ())) (armplanref1_sine x.1))) :=
  fn_tot (t := fun (x : Ar [.int .i64]) => t_armplanref1_sine x.1) (R := (Int × Int)) (Ts := [.pair (.int .i64) (.int .i64)]) (mk := (fun r => (r, ()))) (mkC_ok tys_ok eqs_ok (fns_cons ok_armplanref1_Floor (fns_cons ok_armplanref1_Ceil (fns_cons ok_armplanref1_powers (fns_cons ok_armplanref1_enclosure (fns_nil _))))) (inl_nil _) noLoops_ok mixed) Try.func142 run_armplanref1_sine (fun _ => by kernel_rfl)
def hd_armplanref1_sine : Hd := dataHd [.int .i64] [.pair (.int .i64) (.int .i64)] (fun x => some ((fun r => (r, ())) (armplanref1_sine x.1)))
theorem ok_armplanref1_sine : HdOk Try.prog 142 hd_armplanref1_sine.sem ∧ Enters Try.prog 142 := data_ok fn_armplanref1_sine Try.func142 (by kernel_rfl) (by kernel_rfl)

/- armplan/armplanref1.cosine -/
def t_armplanref1_cosine (a0 : Int) : Tr (Int × Int) :=
  let r1 : ((Int × (Int × (Int × (Int × (Int × (Int × (Int × (Int × (Int × (Int × Int)))))))))) × (Int × (Int × (Int × (Int × (Int × (Int × (Int × (Int × (Int × (Int × Int))))))))))) := armplanref1_powers a0
  let r2 : Int := armplanref1_Ceil r1.2.2.2.1 2
  let x3 : Int := IntKind.wrap .i64 (1073741824 - r2)
  let r4 : Int := armplanref1_Floor r1.1.2.2.2.2.1 24
  let x5 : Int := IntKind.wrap .i64 (x3 + r4)
  let r6 : Int := armplanref1_Ceil r1.2.2.2.2.2.2.2.1 720
  let x7 : Int := IntKind.wrap .i64 (x5 - r6)
  let r8 : Int := armplanref1_Floor r1.1.2.2.2.2.2.2.2.2.1 40320
  let x9 : Int := IntKind.wrap .i64 (x7 + r8)
  let r10 : Int := armplanref1_Ceil r1.2.2.2.2.2.2.2.2.2.2.2 3628800
  let x11 : Int := IntKind.wrap .i64 (x9 - r10)
  let r12 : Int := armplanref1_Floor r1.1.2.2.1 2
  let x13 : Int := IntKind.wrap .i64 (1073741824 - r12)
  let r14 : Int := armplanref1_Ceil r1.2.2.2.2.2.1 24
  let x15 : Int := IntKind.wrap .i64 (x13 + r14)
  let r16 : Int := armplanref1_Floor r1.1.2.2.2.2.2.2.1 720
  let x17 : Int := IntKind.wrap .i64 (x15 - r16)
  let r18 : Int := armplanref1_Ceil r1.2.2.2.2.2.2.2.2.2.1 40320
  let x19 : Int := IntKind.wrap .i64 (x17 + r18)
  let r20 : (Int × Int) := armplanref1_enclosure x11 x19
  .leaf r20
def armplanref1_cosine (a0 : Int) : (Int × Int) := (t_armplanref1_cosine a0).val
theorem run_armplanref1_cosine : ∀ x, runF (mkC tys eqs [(92, hd_armplanref1_Floor), (93, hd_armplanref1_Ceil), (144, hd_armplanref1_powers), (145, hd_armplanref1_enclosure)] [] noLoops) 200 143 Try.f143 (argsA [.int .i64] x) [] (fun v h => toRes h [.pair (.int .i64) (.int .i64)] v) = (t_armplanref1_cosine x.1).optA (fun r => (r, ())) := by
  intro x; kernel_rfl
theorem fn_armplanref1_cosine : FnOk Try.prog 143 [.int .i64] [.pair (.int .i64) (.int .i64)] (fun x => some ((fun r => (r, ())) (armplanref1_cosine x.1))) :=
  fn_tot (t := fun (x : Ar [.int .i64]) => t_armplanref1_cosine x.1) (R := (Int × Int)) (Ts := [.pair (.int .i64) (.int .i64)]) (mk := (fun r => (r, ()))) (mkC_ok tys_ok eqs_ok (fns_cons ok_armplanref1_Floor (fns_cons ok_armplanref1_Ceil (fns_cons ok_armplanref1_powers (fns_cons ok_armplanref1_enclosure (fns_nil _))))) (inl_nil _) noLoops_ok mixed) Try.func143 run_armplanref1_cosine (fun _ => by kernel_rfl)
def hd_armplanref1_cosine : Hd := dataHd [.int .i64] [.pair (.int .i64) (.int .i64)] (fun x => some ((fun r => (r, ())) (armplanref1_cosine x.1)))
theorem ok_armplanref1_cosine : HdOk Try.prog 143 hd_armplanref1_cosine.sem ∧ Enters Try.prog 143 := data_ok fn_armplanref1_cosine Try.func143 (by kernel_rfl) (by kernel_rfl)

/- armplan/armplanref1.Quarter -/
def t_armplanref1_Quarter (a0 : Int) : Tr (Int × Int) :=
  let x1 : Bool := decide (a0 ≤ 8192)
  .br (x1) (
   let r2 : (Int × Int) := armplanref1_sine a0
   .leaf r2) (
   let x3 : Int := IntKind.wrap .i64 (16384 - a0)
   let r4 : (Int × Int) := armplanref1_cosine x3
   .leaf r4)
def armplanref1_Quarter (a0 : Int) : (Int × Int) := (t_armplanref1_Quarter a0).val
theorem run_armplanref1_Quarter : ∀ x, runF (mkC tys eqs [(142, hd_armplanref1_sine), (143, hd_armplanref1_cosine)] [] noLoops) 200 135 Try.f135 (argsA [.int .i64] x) [] (fun v h => toRes h [.pair (.int .i64) (.int .i64)] v) = (t_armplanref1_Quarter x.1).optA (fun r => (r, ())) := by
  intro x; kernel_rfl
theorem fn_armplanref1_Quarter : FnOk Try.prog 135 [.int .i64] [.pair (.int .i64) (.int .i64)] (fun x => some ((fun r => (r, ())) (armplanref1_Quarter x.1))) :=
  fn_tot (t := fun (x : Ar [.int .i64]) => t_armplanref1_Quarter x.1) (R := (Int × Int)) (Ts := [.pair (.int .i64) (.int .i64)]) (mk := (fun r => (r, ()))) (mkC_ok tys_ok eqs_ok (fns_cons ok_armplanref1_sine (fns_cons ok_armplanref1_cosine (fns_nil _))) (inl_nil _) noLoops_ok mixed) Try.func135 run_armplanref1_Quarter (fun _ => by kernel_rfl)
def hd_armplanref1_Quarter : Hd := dataHd [.int .i64] [.pair (.int .i64) (.int .i64)] (fun x => some ((fun r => (r, ())) (armplanref1_Quarter x.1)))
theorem ok_armplanref1_Quarter : HdOk Try.prog 135 hd_armplanref1_Quarter.sem ∧ Enters Try.prog 135 := data_ok fn_armplanref1_Quarter Try.func135 (by kernel_rfl) (by kernel_rfl)

/- armplan/armplanref1.Sin -/
def t_armplanref1_Sin (a0 : Int) : Tr (Int × Int) :=
  let r1 : Int := armplanref1_Mod a0
  let x2 : Int := IntKind.wrap .i64 (Int.tdiv r1 16384)
  let x3 : Int := Int.tmod r1 16384
  let x4 : Bool := decide (x2 = 0)
  .br (x4) (
   let r5 : (Int × Int) := armplanref1_Quarter x3
   .leaf r5) (
   let x6 : Bool := decide (x2 = 1)
   .br (x6) (
    let x7 : Int := IntKind.wrap .i64 (16384 - x3)
    let r8 : (Int × Int) := armplanref1_Quarter x7
    .leaf r8) (
    let x9 : Bool := decide (x2 = 2)
    .br (x9) (
     let r10 : (Int × Int) := armplanref1_Quarter x3
     let r11 : (Int × Int) := armplanref1_Neg r10
     .leaf r11) (
     let x12 : Int := IntKind.wrap .i64 (16384 - x3)
     let r13 : (Int × Int) := armplanref1_Quarter x12
     let r14 : (Int × Int) := armplanref1_Neg r13
     .leaf r14)))
def armplanref1_Sin (a0 : Int) : (Int × Int) := (t_armplanref1_Sin a0).val
theorem run_armplanref1_Sin : ∀ x, runF (mkC tys eqs [(99, hd_armplanref1_Neg), (134, hd_armplanref1_Mod), (135, hd_armplanref1_Quarter)] [] noLoops) 200 121 Try.f121 (argsA [.int .i64] x) [] (fun v h => toRes h [.pair (.int .i64) (.int .i64)] v) = (t_armplanref1_Sin x.1).optA (fun r => (r, ())) := by
  intro x; kernel_rfl
theorem fn_armplanref1_Sin : FnOk Try.prog 121 [.int .i64] [.pair (.int .i64) (.int .i64)] (fun x => some ((fun r => (r, ())) (armplanref1_Sin x.1))) :=
  fn_tot (t := fun (x : Ar [.int .i64]) => t_armplanref1_Sin x.1) (R := (Int × Int)) (Ts := [.pair (.int .i64) (.int .i64)]) (mk := (fun r => (r, ()))) (mkC_ok tys_ok eqs_ok (fns_cons ok_armplanref1_Neg (fns_cons ok_armplanref1_Mod (fns_cons ok_armplanref1_Quarter (fns_nil _)))) (inl_nil _) noLoops_ok mixed) Try.func121 run_armplanref1_Sin (fun _ => by kernel_rfl)
def hd_armplanref1_Sin : Hd := dataHd [.int .i64] [.pair (.int .i64) (.int .i64)] (fun x => some ((fun r => (r, ())) (armplanref1_Sin x.1)))
theorem ok_armplanref1_Sin : HdOk Try.prog 121 hd_armplanref1_Sin.sem ∧ Enters Try.prog 121 := data_ok fn_armplanref1_Sin Try.func121 (by kernel_rfl) (by kernel_rfl)

/- armplan/angle.Cos -/
def t_angle_Cos (a0 : Int) : Tr (Int × Int) :=
  let r1 : Int := angle_mod a0
  let x2 : Int := IntKind.wrap .i64 (r1 + 16384)
  let r3 : (Int × Int) := angle_Sin x2
  .leaf r3
def angle_Cos (a0 : Int) : (Int × Int) := (t_angle_Cos a0).val
theorem run_angle_Cos : ∀ x, runF (mkC tys eqs [(89, hd_angle_Sin), (117, hd_angle_mod)] [] noLoops) 200 88 Try.f88 (argsA [.int .i64] x) [] (fun v h => toRes h [.pair (.int .i64) (.int .i64)] v) = (t_angle_Cos x.1).optA (fun r => (r, ())) := by
  intro x; kernel_rfl
theorem fn_angle_Cos : FnOk Try.prog 88 [.int .i64] [.pair (.int .i64) (.int .i64)] (fun x => some ((fun r => (r, ())) (angle_Cos x.1))) :=
  fn_tot (t := fun (x : Ar [.int .i64]) => t_angle_Cos x.1) (R := (Int × Int)) (Ts := [.pair (.int .i64) (.int .i64)]) (mk := (fun r => (r, ()))) (mkC_ok tys_ok eqs_ok (fns_cons ok_angle_Sin (fns_cons ok_angle_mod (fns_nil _))) (inl_nil _) noLoops_ok mixed) Try.func88 run_angle_Cos (fun _ => by kernel_rfl)
def hd_angle_Cos : Hd := dataHd [.int .i64] [.pair (.int .i64) (.int .i64)] (fun x => some ((fun r => (r, ())) (angle_Cos x.1)))
theorem ok_angle_Cos : HdOk Try.prog 88 hd_angle_Cos.sem ∧ Enters Try.prog 88 := data_ok fn_angle_Cos Try.func88 (by kernel_rfl) (by kernel_rfl)

/- armplan/armplanref1.Cos -/
def t_armplanref1_Cos (a0 : Int) : Tr (Int × Int) :=
  let r1 : Int := armplanref1_Mod a0
  let x2 : Int := IntKind.wrap .i64 (r1 + 16384)
  let r3 : (Int × Int) := armplanref1_Sin x2
  .leaf r3
def armplanref1_Cos (a0 : Int) : (Int × Int) := (t_armplanref1_Cos a0).val
theorem run_armplanref1_Cos : ∀ x, runF (mkC tys eqs [(121, hd_armplanref1_Sin), (134, hd_armplanref1_Mod)] [] noLoops) 200 120 Try.f120 (argsA [.int .i64] x) [] (fun v h => toRes h [.pair (.int .i64) (.int .i64)] v) = (t_armplanref1_Cos x.1).optA (fun r => (r, ())) := by
  intro x; kernel_rfl
theorem fn_armplanref1_Cos : FnOk Try.prog 120 [.int .i64] [.pair (.int .i64) (.int .i64)] (fun x => some ((fun r => (r, ())) (armplanref1_Cos x.1))) :=
  fn_tot (t := fun (x : Ar [.int .i64]) => t_armplanref1_Cos x.1) (R := (Int × Int)) (Ts := [.pair (.int .i64) (.int .i64)]) (mk := (fun r => (r, ()))) (mkC_ok tys_ok eqs_ok (fns_cons ok_armplanref1_Sin (fns_cons ok_armplanref1_Mod (fns_nil _))) (inl_nil _) noLoops_ok mixed) Try.func120 run_armplanref1_Cos (fun _ => by kernel_rfl)
def hd_armplanref1_Cos : Hd := dataHd [.int .i64] [.pair (.int .i64) (.int .i64)] (fun x => some ((fun r => (r, ())) (armplanref1_Cos x.1)))
theorem ok_armplanref1_Cos : HdOk Try.prog 120 hd_armplanref1_Cos.sem ∧ Enters Try.prog 120 := data_ok fn_armplanref1_Cos Try.func120 (by kernel_rfl) (by kernel_rfl)

/- armplan/armplanref1.Clamp -/
def t_armplanref1_Clamp (a0 : Int) : Tr Int :=
  let x1 : Int := if 2147483648 < a0 then 2147483648 else a0
  let x2 : Int := if x1 > (-2147483648) then x1 else (-2147483648)
  .leaf x2
def armplanref1_Clamp (a0 : Int) : Int := (t_armplanref1_Clamp a0).val
theorem run_armplanref1_Clamp : ∀ x, runF (mkC tys eqs [] [] noLoops) 200 62 Try.f62 (argsA [.int .i64] x) [] (fun v h => toRes h [.int .i64] v) = (t_armplanref1_Clamp x.1).optA (fun r => (r, ())) := by
  intro x; kernel_rfl
theorem fn_armplanref1_Clamp : FnOk Try.prog 62 [.int .i64] [.int .i64] (fun x => some ((fun r => (r, ())) (armplanref1_Clamp x.1))) :=
  fn_tot (t := fun (x : Ar [.int .i64]) => t_armplanref1_Clamp x.1) (R := Int) (Ts := [.int .i64]) (mk := (fun r => (r, ()))) (mkC_ok tys_ok eqs_ok (fns_nil _) (inl_nil _) noLoops_ok mixed) Try.func62 run_armplanref1_Clamp (fun _ => by kernel_rfl)
def hd_armplanref1_Clamp : Hd := dataHd [.int .i64] [.int .i64] (fun x => some ((fun r => (r, ())) (armplanref1_Clamp x.1)))
theorem ok_armplanref1_Clamp : HdOk Try.prog 62 hd_armplanref1_Clamp.sem ∧ Enters Try.prog 62 := data_ok fn_armplanref1_Clamp Try.func62 (by kernel_rfl) (by kernel_rfl)

/- armplan/armplanref1.limited -/
def t_armplanref1_limited (a0 : Int) (a1 : Int) : Tr (Int × Int) :=
  let r1 : Int := armplanref1_Clamp a0
  let r2 : Int := armplanref1_Clamp a1
  .leaf (r1, r2)
def armplanref1_limited (a0 : Int) (a1 : Int) : (Int × Int) := (t_armplanref1_limited a0 a1).val
theorem run_armplanref1_limited : ∀ x, runF (mkC tys eqs [(62, hd_armplanref1_Clamp)] [] noLoops) 200 91 Try.f91 (argsA [.int .i64, .int .i64] x) [] (fun v h => toRes h [.pair (.int .i64) (.int .i64)] v) = (t_armplanref1_limited x.1 x.2.1).optA (fun r => (r, ())) := by
  intro x; kernel_rfl
theorem fn_armplanref1_limited : FnOk Try.prog 91 [.int .i64, .int .i64] [.pair (.int .i64) (.int .i64)] (fun x => some ((fun r => (r, ())) (armplanref1_limited x.1 x.2.1))) :=
  fn_tot (t := fun (x : Ar [.int .i64, .int .i64]) => t_armplanref1_limited x.1 x.2.1) (R := (Int × Int)) (Ts := [.pair (.int .i64) (.int .i64)]) (mk := (fun r => (r, ()))) (mkC_ok tys_ok eqs_ok (fns_cons ok_armplanref1_Clamp (fns_nil _)) (inl_nil _) noLoops_ok mixed) Try.func91 run_armplanref1_limited (fun _ => by kernel_rfl)
def hd_armplanref1_limited : Hd := dataHd [.int .i64, .int .i64] [.pair (.int .i64) (.int .i64)] (fun x => some ((fun r => (r, ())) (armplanref1_limited x.1 x.2.1)))
theorem ok_armplanref1_limited : HdOk Try.prog 91 hd_armplanref1_limited.sem ∧ Enters Try.prog 91 := data_ok fn_armplanref1_limited Try.func91 (by kernel_rfl) (by kernel_rfl)

/- armplan/armplanref1.Add -/
def t_armplanref1_Add (a0 : (Int × Int)) (a1 : (Int × Int)) : Tr (Int × Int) :=
  let r1 : Bool := armplanref1_Valid a0
  .br ((!r1)) (
   .leaf (0, 0)) (
   let r2 : Bool := armplanref1_Valid a1
   .br ((!r2)) (
    .leaf (0, 0)) (
    let x3 : Int := IntKind.wrap .i64 (a0.1 + a1.1)
    let x4 : Int := IntKind.wrap .i64 (a0.2 + a1.2)
    let r5 : (Int × Int) := armplanref1_limited x3 x4
    .leaf r5))
def armplanref1_Add (a0 : (Int × Int)) (a1 : (Int × Int)) : (Int × Int) := (t_armplanref1_Add a0 a1).val
theorem run_armplanref1_Add : ∀ x, runF (mkC tys eqs [(63, hd_armplanref1_Valid), (91, hd_armplanref1_limited)] [] noLoops) 200 64 Try.f64 (argsA [.pair (.int .i64) (.int .i64), .pair (.int .i64) (.int .i64)] x) [] (fun v h => toRes h [.pair (.int .i64) (.int .i64)] v) = (t_armplanref1_Add x.1 x.2.1).optA (fun r => (r, ())) := by
  intro x; kernel_rfl
theorem fn_armplanref1_Add : FnOk Try.prog 64 [.pair (.int .i64) (.int .i64), .pair (.int .i64) (.int .i64)] [.pair (.int .i64) (.int .i64)] (fun x => some ((fun r => (r, ())) (armplanref1_Add x.1 x.2.1))) :=
  fn_tot (t := fun (x : Ar [.pair (.int .i64) (.int .i64), .pair (.int .i64) (.int .i64)]) => t_armplanref1_Add x.1 x.2.1) (R := (Int × Int)) (Ts := [.pair (.int .i64) (.int .i64)]) (mk := (fun r => (r, ()))) (mkC_ok tys_ok eqs_ok (fns_cons ok_armplanref1_Valid (fns_cons ok_armplanref1_limited (fns_nil _))) (inl_nil _) noLoops_ok mixed) Try.func64 run_armplanref1_Add (fun _ => by kernel_rfl)
def hd_armplanref1_Add : Hd := dataHd [.pair (.int .i64) (.int .i64), .pair (.int .i64) (.int .i64)] [.pair (.int .i64) (.int .i64)] (fun x => some ((fun r => (r, ())) (armplanref1_Add x.1 x.2.1)))
theorem ok_armplanref1_Add : HdOk Try.prog 64 hd_armplanref1_Add.sem ∧ Enters Try.prog 64 := data_ok fn_armplanref1_Add Try.func64 (by kernel_rfl) (by kernel_rfl)

/- armplan/armplanref1.Mul -/
def t_armplanref1_Mul (a0 : (Int × Int)) (a1 : (Int × Int)) : Tr (Int × Int) :=
  let r1 : Bool := armplanref1_Valid a0
  .br ((!r1)) (
   .leaf (0, 0)) (
   let r2 : Bool := armplanref1_Valid a1
   .br ((!r2)) (
    .leaf (0, 0)) (
    let x3 : Int := IntKind.wrap .i64 (a0.1 * a1.1)
    let x4 : Int := IntKind.wrap .i64 (a0.1 * a1.2)
    let x5 : Int := IntKind.wrap .i64 (a0.2 * a1.1)
    let x6 : Int := IntKind.wrap .i64 (a0.2 * a1.2)
    let x7 : Int := if x4 < x3 then x4 else x3
    let x8 : Int := if x5 < x7 then x5 else x7
    let x9 : Int := if x6 < x8 then x6 else x8
    let r10 : Int := armplanref1_Floor x9 65536
    let x11 : Int := if x4 > x3 then x4 else x3
    let x12 : Int := if x5 > x11 then x5 else x11
    let x13 : Int := if x6 > x12 then x6 else x12
    let r14 : Int := armplanref1_Ceil x13 65536
    let r15 : (Int × Int) := armplanref1_limited r10 r14
    .leaf r15))
def armplanref1_Mul (a0 : (Int × Int)) (a1 : (Int × Int)) : (Int × Int) := (t_armplanref1_Mul a0 a1).val
theorem run_armplanref1_Mul : ∀ x, runF (mkC tys eqs [(63, hd_armplanref1_Valid), (91, hd_armplanref1_limited), (92, hd_armplanref1_Floor), (93, hd_armplanref1_Ceil)] [] noLoops) 200 100 Try.f100 (argsA [.pair (.int .i64) (.int .i64), .pair (.int .i64) (.int .i64)] x) [] (fun v h => toRes h [.pair (.int .i64) (.int .i64)] v) = (t_armplanref1_Mul x.1 x.2.1).optA (fun r => (r, ())) := by
  intro x; kernel_rfl
theorem fn_armplanref1_Mul : FnOk Try.prog 100 [.pair (.int .i64) (.int .i64), .pair (.int .i64) (.int .i64)] [.pair (.int .i64) (.int .i64)] (fun x => some ((fun r => (r, ())) (armplanref1_Mul x.1 x.2.1))) :=
  fn_tot (t := fun (x : Ar [.pair (.int .i64) (.int .i64), .pair (.int .i64) (.int .i64)]) => t_armplanref1_Mul x.1 x.2.1) (R := (Int × Int)) (Ts := [.pair (.int .i64) (.int .i64)]) (mk := (fun r => (r, ()))) (mkC_ok tys_ok eqs_ok (fns_cons ok_armplanref1_Valid (fns_cons ok_armplanref1_limited (fns_cons ok_armplanref1_Floor (fns_cons ok_armplanref1_Ceil (fns_nil _))))) (inl_nil _) noLoops_ok mixed) Try.func100 run_armplanref1_Mul (fun _ => by kernel_rfl)
def hd_armplanref1_Mul : Hd := dataHd [.pair (.int .i64) (.int .i64), .pair (.int .i64) (.int .i64)] [.pair (.int .i64) (.int .i64)] (fun x => some ((fun r => (r, ())) (armplanref1_Mul x.1 x.2.1)))
theorem ok_armplanref1_Mul : HdOk Try.prog 100 hd_armplanref1_Mul.sem ∧ Enters Try.prog 100 := data_ok fn_armplanref1_Mul Try.func100 (by kernel_rfl) (by kernel_rfl)

/- armplan/interval.Width -/
def t_interval_Width (a0 : (Int × Int)) : Tr Int :=
  let r1 : Bool := interval_Valid a0
  .br ((!r1)) (
   .leaf 0) (
   let x2 : Int := IntKind.wrap .i64 (a0.2 - a0.1)
   .leaf x2)
def interval_Width (a0 : (Int × Int)) : Int := (t_interval_Width a0).val
theorem run_interval_Width : ∀ x, runF (mkC tys eqs [(57, hd_interval_Valid)] [] noLoops) 200 114 Try.f114 (argsA [.pair (.int .i64) (.int .i64)] x) [] (fun v h => toRes h [.int .i64] v) = (t_interval_Width x.1).optA (fun r => (r, ())) := by
  intro x; kernel_rfl
theorem fn_interval_Width : FnOk Try.prog 114 [.pair (.int .i64) (.int .i64)] [.int .i64] (fun x => some ((fun r => (r, ())) (interval_Width x.1))) :=
  fn_tot (t := fun (x : Ar [.pair (.int .i64) (.int .i64)]) => t_interval_Width x.1) (R := Int) (Ts := [.int .i64]) (mk := (fun r => (r, ()))) (mkC_ok tys_ok eqs_ok (fns_cons ok_interval_Valid (fns_nil _)) (inl_nil _) noLoops_ok mixed) Try.func114 run_interval_Width (fun _ => by kernel_rfl)
def hd_interval_Width : Hd := dataHd [.pair (.int .i64) (.int .i64)] [.int .i64] (fun x => some ((fun r => (r, ())) (interval_Width x.1)))
theorem ok_interval_Width : HdOk Try.prog 114 hd_interval_Width.sem ∧ Enters Try.prog 114 := data_ok fn_interval_Width Try.func114 (by kernel_rfl) (by kernel_rfl)

/- armplan/interval.both -/
def t_interval_both (a0 : (Int × Int)) (a1 : (Int × Int)) : Tr Bool :=
  let r1 : Bool := interval_Valid a0
  .br (r1) (
   let r2 : Bool := interval_Valid a1
   .leaf r2) (
   .leaf false)
def interval_both (a0 : (Int × Int)) (a1 : (Int × Int)) : Bool := (t_interval_both a0 a1).val
theorem run_interval_both : ∀ x, runF (mkC tys eqs [(57, hd_interval_Valid)] [] noLoops) 200 111 Try.f111 (argsA [.pair (.int .i64) (.int .i64), .pair (.int .i64) (.int .i64)] x) [] (fun v h => toRes h [.bool] v) = (t_interval_both x.1 x.2.1).optA (fun r => (r, ())) := by
  intro x; kernel_rfl
theorem fn_interval_both : FnOk Try.prog 111 [.pair (.int .i64) (.int .i64), .pair (.int .i64) (.int .i64)] [.bool] (fun x => some ((fun r => (r, ())) (interval_both x.1 x.2.1))) :=
  fn_tot (t := fun (x : Ar [.pair (.int .i64) (.int .i64), .pair (.int .i64) (.int .i64)]) => t_interval_both x.1 x.2.1) (R := Bool) (Ts := [.bool]) (mk := (fun r => (r, ()))) (mkC_ok tys_ok eqs_ok (fns_cons ok_interval_Valid (fns_nil _)) (inl_nil _) noLoops_ok mixed) Try.func111 run_interval_both (fun _ => by kernel_rfl)
def hd_interval_both : Hd := dataHd [.pair (.int .i64) (.int .i64), .pair (.int .i64) (.int .i64)] [.bool] (fun x => some ((fun r => (r, ())) (interval_both x.1 x.2.1)))
theorem ok_interval_both : HdOk Try.prog 111 hd_interval_both.sem ∧ Enters Try.prog 111 := data_ok fn_interval_both Try.func111 (by kernel_rfl) (by kernel_rfl)

/- armplan/interval.Hull -/
def t_interval_Hull (a0 : (Int × Int)) (a1 : (Int × Int)) : Tr (Int × Int) :=
  let r1 : Bool := interval_both a0 a1
  .br ((!r1)) (
   .leaf (0, 0)) (
   let x2 : Int := if a1.1 < a0.1 then a1.1 else a0.1
   let x3 : Int := if a1.2 > a0.2 then a1.2 else a0.2
   .leaf (x2, x3))
def interval_Hull (a0 : (Int × Int)) (a1 : (Int × Int)) : (Int × Int) := (t_interval_Hull a0 a1).val
theorem run_interval_Hull : ∀ x, runF (mkC tys eqs [(111, hd_interval_both)] [] noLoops) 200 115 Try.f115 (argsA [.pair (.int .i64) (.int .i64), .pair (.int .i64) (.int .i64)] x) [] (fun v h => toRes h [.pair (.int .i64) (.int .i64)] v) = (t_interval_Hull x.1 x.2.1).optA (fun r => (r, ())) := by
  intro x; kernel_rfl
theorem fn_interval_Hull : FnOk Try.prog 115 [.pair (.int .i64) (.int .i64), .pair (.int .i64) (.int .i64)] [.pair (.int .i64) (.int .i64)] (fun x => some ((fun r => (r, ())) (interval_Hull x.1 x.2.1))) :=
  fn_tot (t := fun (x : Ar [.pair (.int .i64) (.int .i64), .pair (.int .i64) (.int .i64)]) => t_interval_Hull x.1 x.2.1) (R := (Int × Int)) (Ts := [.pair (.int .i64) (.int .i64)]) (mk := (fun r => (r, ()))) (mkC_ok tys_ok eqs_ok (fns_cons ok_interval_both (fns_nil _)) (inl_nil _) noLoops_ok mixed) Try.func115 run_interval_Hull (fun _ => by kernel_rfl)
def hd_interval_Hull : Hd := dataHd [.pair (.int .i64) (.int .i64), .pair (.int .i64) (.int .i64)] [.pair (.int .i64) (.int .i64)] (fun x => some ((fun r => (r, ())) (interval_Hull x.1 x.2.1)))
theorem ok_interval_Hull : HdOk Try.prog 115 hd_interval_Hull.sem ∧ Enters Try.prog 115 := data_ok fn_interval_Hull Try.func115 (by kernel_rfl) (by kernel_rfl)

/- armplan/angle.meets -/
def t_angle_meets (a0 : (Int × Int)) (a1 : Int) : Tr Bool :=
  let x1 : Int := IntKind.wrap .i64 (a1 - a0.1)
  let r2 : Int := angle_mod x1
  let x3 : Int := IntKind.wrap .i64 (a0.1 + r2)
  let x4 : Bool := decide (x3 ≤ a0.2)
  .leaf x4
def angle_meets (a0 : (Int × Int)) (a1 : Int) : Bool := (t_angle_meets a0 a1).val
theorem run_angle_meets : ∀ x, runF (mkC tys eqs [(117, hd_angle_mod)] [] noLoops) 200 116 Try.f116 (argsA [.pair (.int .i64) (.int .i64), .int .i64] x) [] (fun v h => toRes h [.bool] v) = (t_angle_meets x.1 x.2.1).optA (fun r => (r, ())) := by
  intro x; kernel_rfl
theorem fn_angle_meets : FnOk Try.prog 116 [.pair (.int .i64) (.int .i64), .int .i64] [.bool] (fun x => some ((fun r => (r, ())) (angle_meets x.1 x.2.1))) :=
  fn_tot (t := fun (x : Ar [.pair (.int .i64) (.int .i64), .int .i64]) => t_angle_meets x.1 x.2.1) (R := Bool) (Ts := [.bool]) (mk := (fun r => (r, ()))) (mkC_ok tys_ok eqs_ok (fns_cons ok_angle_mod (fns_nil _)) (inl_nil _) noLoops_ok mixed) Try.func116 run_angle_meets (fun _ => by kernel_rfl)
def hd_angle_meets : Hd := dataHd [.pair (.int .i64) (.int .i64), .int .i64] [.bool] (fun x => some ((fun r => (r, ())) (angle_meets x.1 x.2.1)))
theorem ok_angle_meets : HdOk Try.prog 116 hd_angle_meets.sem ∧ Enters Try.prog 116 := data_ok fn_angle_meets Try.func116 (by kernel_rfl) (by kernel_rfl)

/- armplan/angle.SinOver -/
def t_angle_SinOver (a0 : (Int × Int)) : Tr (Int × Int) :=
  let r1 : Bool := interval_Valid a0
  .br ((!r1)) (
   .leaf (0, 0)) (
   let r2 : Int := interval_Width a0
   let x3 : Bool := decide (65536 ≤ r2)
   .br (x3) (
    .leaf ((-65536), 65536)) (
    let r4 : (Int × Int) := angle_Sin a0.1
    let r5 : (Int × Int) := angle_Sin a0.2
    let r6 : (Int × Int) := interval_Hull r4 r5
    let r7 : Bool := angle_meets a0 16384
    .br (r7) (
     let r8 : Bool := angle_meets a0 49152
     .br (r8) (
      .leaf ((-65536), 65536)) (
      .leaf (r6.1, 65536))) (
     let r9 : Bool := angle_meets a0 49152
     .br (r9) (
      .leaf ((-65536), r6.2)) (
      .leaf r6))))
def angle_SinOver (a0 : (Int × Int)) : (Int × Int) := (t_angle_SinOver a0).val
theorem run_angle_SinOver : ∀ x, runF (mkC tys eqs [(57, hd_interval_Valid), (89, hd_angle_Sin), (114, hd_interval_Width), (115, hd_interval_Hull), (116, hd_angle_meets)] [(87, Try.f87)] noLoops) 200 59 Try.f59 (argsA [.pair (.int .i64) (.int .i64)] x) [] (fun v h => toRes h [.pair (.int .i64) (.int .i64)] v) = (t_angle_SinOver x.1).optA (fun r => (r, ())) := by
  intro x; kernel_rfl
theorem fn_angle_SinOver : FnOk Try.prog 59 [.pair (.int .i64) (.int .i64)] [.pair (.int .i64) (.int .i64)] (fun x => some ((fun r => (r, ())) (angle_SinOver x.1))) :=
  fn_tot (t := fun (x : Ar [.pair (.int .i64) (.int .i64)]) => t_angle_SinOver x.1) (R := (Int × Int)) (Ts := [.pair (.int .i64) (.int .i64)]) (mk := (fun r => (r, ()))) (mkC_ok tys_ok eqs_ok (fns_cons ok_interval_Valid (fns_cons ok_angle_Sin (fns_cons ok_interval_Width (fns_cons ok_interval_Hull (fns_cons ok_angle_meets (fns_nil _)))))) (inl_cons Try.func87 (by kernel_rfl) (inl_nil _)) noLoops_ok mixed) Try.func59 run_angle_SinOver (fun _ => by kernel_rfl)
def hd_angle_SinOver : Hd := dataHd [.pair (.int .i64) (.int .i64)] [.pair (.int .i64) (.int .i64)] (fun x => some ((fun r => (r, ())) (angle_SinOver x.1)))
theorem ok_angle_SinOver : HdOk Try.prog 59 hd_angle_SinOver.sem ∧ Enters Try.prog 59 := data_ok fn_angle_SinOver Try.func59 (by kernel_rfl) (by kernel_rfl)

/- armplan/armplanref1.Of -/
def t_armplanref1_Of (a0 : Int) : Tr (Int × Int) :=
  let r1 : Int := armplanref1_Clamp a0
  let r2 : Int := armplanref1_Clamp a0
  .leaf (r1, r2)
def armplanref1_Of (a0 : Int) : (Int × Int) := (t_armplanref1_Of a0).val
theorem run_armplanref1_Of : ∀ x, runF (mkC tys eqs [(62, hd_armplanref1_Clamp)] [] noLoops) 200 21 Try.f21 (argsA [.int .i64] x) [] (fun v h => toRes h [.pair (.int .i64) (.int .i64)] v) = (t_armplanref1_Of x.1).optA (fun r => (r, ())) := by
  intro x; kernel_rfl
theorem fn_armplanref1_Of : FnOk Try.prog 21 [.int .i64] [.pair (.int .i64) (.int .i64)] (fun x => some ((fun r => (r, ())) (armplanref1_Of x.1))) :=
  fn_tot (t := fun (x : Ar [.int .i64]) => t_armplanref1_Of x.1) (R := (Int × Int)) (Ts := [.pair (.int .i64) (.int .i64)]) (mk := (fun r => (r, ()))) (mkC_ok tys_ok eqs_ok (fns_cons ok_armplanref1_Clamp (fns_nil _)) (inl_nil _) noLoops_ok mixed) Try.func21 run_armplanref1_Of (fun _ => by kernel_rfl)
def hd_armplanref1_Of : Hd := dataHd [.int .i64] [.pair (.int .i64) (.int .i64)] (fun x => some ((fun r => (r, ())) (armplanref1_Of x.1)))
theorem ok_armplanref1_Of : HdOk Try.prog 21 hd_armplanref1_Of.sem ∧ Enters Try.prog 21 := data_ok fn_armplanref1_Of Try.func21 (by kernel_rfl) (by kernel_rfl)

/- armplan/armplanref1.Hull -/
def t_armplanref1_Hull (a0 : (Int × Int)) (a1 : (Int × Int)) : Tr (Int × Int) :=
  let r1 : Bool := armplanref1_Valid a0
  .br ((!r1)) (
   .leaf (0, 0)) (
   let r2 : Bool := armplanref1_Valid a1
   .br ((!r2)) (
    .leaf (0, 0)) (
    let x3 : Int := if a1.1 < a0.1 then a1.1 else a0.1
    let x4 : Int := if a1.2 > a0.2 then a1.2 else a0.2
    .leaf (x3, x4)))
def armplanref1_Hull (a0 : (Int × Int)) (a1 : (Int × Int)) : (Int × Int) := (t_armplanref1_Hull a0 a1).val
theorem run_armplanref1_Hull : ∀ x, runF (mkC tys eqs [(63, hd_armplanref1_Valid)] [] noLoops) 200 132 Try.f132 (argsA [.pair (.int .i64) (.int .i64), .pair (.int .i64) (.int .i64)] x) [] (fun v h => toRes h [.pair (.int .i64) (.int .i64)] v) = (t_armplanref1_Hull x.1 x.2.1).optA (fun r => (r, ())) := by
  intro x; kernel_rfl
theorem fn_armplanref1_Hull : FnOk Try.prog 132 [.pair (.int .i64) (.int .i64), .pair (.int .i64) (.int .i64)] [.pair (.int .i64) (.int .i64)] (fun x => some ((fun r => (r, ())) (armplanref1_Hull x.1 x.2.1))) :=
  fn_tot (t := fun (x : Ar [.pair (.int .i64) (.int .i64), .pair (.int .i64) (.int .i64)]) => t_armplanref1_Hull x.1 x.2.1) (R := (Int × Int)) (Ts := [.pair (.int .i64) (.int .i64)]) (mk := (fun r => (r, ()))) (mkC_ok tys_ok eqs_ok (fns_cons ok_armplanref1_Valid (fns_nil _)) (inl_nil _) noLoops_ok mixed) Try.func132 run_armplanref1_Hull (fun _ => by kernel_rfl)
def hd_armplanref1_Hull : Hd := dataHd [.pair (.int .i64) (.int .i64), .pair (.int .i64) (.int .i64)] [.pair (.int .i64) (.int .i64)] (fun x => some ((fun r => (r, ())) (armplanref1_Hull x.1 x.2.1)))
theorem ok_armplanref1_Hull : HdOk Try.prog 132 hd_armplanref1_Hull.sem ∧ Enters Try.prog 132 := data_ok fn_armplanref1_Hull Try.func132 (by kernel_rfl) (by kernel_rfl)

/- armplan/armplanref1.meets -/
def t_armplanref1_meets (a0 : (Int × Int)) (a1 : Int) : Tr Bool :=
  let x1 : Int := IntKind.wrap .i64 (a1 - a0.1)
  let r2 : Int := armplanref1_Mod x1
  let x3 : Int := IntKind.wrap .i64 (a0.1 + r2)
  let x4 : Bool := decide (x3 ≤ a0.2)
  .leaf x4
def armplanref1_meets (a0 : (Int × Int)) (a1 : Int) : Bool := (t_armplanref1_meets a0 a1).val
theorem run_armplanref1_meets : ∀ x, runF (mkC tys eqs [(134, hd_armplanref1_Mod)] [] noLoops) 200 133 Try.f133 (argsA [.pair (.int .i64) (.int .i64), .int .i64] x) [] (fun v h => toRes h [.bool] v) = (t_armplanref1_meets x.1 x.2.1).optA (fun r => (r, ())) := by
  intro x; kernel_rfl
theorem fn_armplanref1_meets : FnOk Try.prog 133 [.pair (.int .i64) (.int .i64), .int .i64] [.bool] (fun x => some ((fun r => (r, ())) (armplanref1_meets x.1 x.2.1))) :=
  fn_tot (t := fun (x : Ar [.pair (.int .i64) (.int .i64), .int .i64]) => t_armplanref1_meets x.1 x.2.1) (R := Bool) (Ts := [.bool]) (mk := (fun r => (r, ()))) (mkC_ok tys_ok eqs_ok (fns_cons ok_armplanref1_Mod (fns_nil _)) (inl_nil _) noLoops_ok mixed) Try.func133 run_armplanref1_meets (fun _ => by kernel_rfl)
def hd_armplanref1_meets : Hd := dataHd [.pair (.int .i64) (.int .i64), .int .i64] [.bool] (fun x => some ((fun r => (r, ())) (armplanref1_meets x.1 x.2.1)))
theorem ok_armplanref1_meets : HdOk Try.prog 133 hd_armplanref1_meets.sem ∧ Enters Try.prog 133 := data_ok fn_armplanref1_meets Try.func133 (by kernel_rfl) (by kernel_rfl)

/- armplan/armplanref1.over -/
def t_armplanref1_over (a0 : (Int × Int)) (a1 : (Int × Int)) (a2 : (Int × Int)) (a3 : Int) (a4 : Int) : Tr (Int × Int) :=
  let r1 : Bool := armplanref1_Valid a0
  .br ((!r1)) (
   .leaf (0, 0)) (
   let x2 : Int := IntKind.wrap .i64 (a0.2 - a0.1)
   let x3 : Bool := decide (65536 ≤ x2)
   .br (x3) (
    .leaf ((-65536), 65536)) (
    let r4 : (Int × Int) := armplanref1_Hull a1 a2
    let r5 : Bool := armplanref1_meets a0 a3
    .br (r5) (
     let r6 : (Int × Int) := armplanref1_Of 65536
     let r7 : (Int × Int) := armplanref1_Hull r4 r6
     let r8 : Bool := armplanref1_meets a0 a4
     .br (r8) (
      let r9 : (Int × Int) := armplanref1_Of (-65536)
      let r10 : (Int × Int) := armplanref1_Hull r7 r9
      .leaf r10) (
      .leaf r7)) (
     let r11 : Bool := armplanref1_meets a0 a4
     .br (r11) (
      let r12 : (Int × Int) := armplanref1_Of (-65536)
      let r13 : (Int × Int) := armplanref1_Hull r4 r12
      .leaf r13) (
      .leaf r4))))
def armplanref1_over (a0 : (Int × Int)) (a1 : (Int × Int)) (a2 : (Int × Int)) (a3 : Int) (a4 : Int) : (Int × Int) := (t_armplanref1_over a0 a1 a2 a3 a4).val
theorem run_armplanref1_over : ∀ x, runF (mkC tys eqs [(21, hd_armplanref1_Of), (63, hd_armplanref1_Valid), (132, hd_armplanref1_Hull), (133, hd_armplanref1_meets)] [] noLoops) 200 119 Try.f119 (argsA [.pair (.int .i64) (.int .i64), .pair (.int .i64) (.int .i64), .pair (.int .i64) (.int .i64), .int .i64, .int .i64] x) [] (fun v h => toRes h [.pair (.int .i64) (.int .i64)] v) = (t_armplanref1_over x.1 x.2.1 x.2.2.1 x.2.2.2.1 x.2.2.2.2.1).optA (fun r => (r, ())) := by
  intro x; kernel_rfl
theorem fn_armplanref1_over : FnOk Try.prog 119 [.pair (.int .i64) (.int .i64), .pair (.int .i64) (.int .i64), .pair (.int .i64) (.int .i64), .int .i64, .int .i64] [.pair (.int .i64) (.int .i64)] (fun x => some ((fun r => (r, ())) (armplanref1_over x.1 x.2.1 x.2.2.1 x.2.2.2.1 x.2.2.2.2.1))) :=
  fn_tot (t := fun (x : Ar [.pair (.int .i64) (.int .i64), .pair (.int .i64) (.int .i64), .pair (.int .i64) (.int .i64), .int .i64, .int .i64]) => t_armplanref1_over x.1 x.2.1 x.2.2.1 x.2.2.2.1 x.2.2.2.2.1) (R := (Int × Int)) (Ts := [.pair (.int .i64) (.int .i64)]) (mk := (fun r => (r, ()))) (mkC_ok tys_ok eqs_ok (fns_cons ok_armplanref1_Of (fns_cons ok_armplanref1_Valid (fns_cons ok_armplanref1_Hull (fns_cons ok_armplanref1_meets (fns_nil _))))) (inl_nil _) noLoops_ok mixed) Try.func119 run_armplanref1_over (fun _ => by kernel_rfl)
def hd_armplanref1_over : Hd := dataHd [.pair (.int .i64) (.int .i64), .pair (.int .i64) (.int .i64), .pair (.int .i64) (.int .i64), .int .i64, .int .i64] [.pair (.int .i64) (.int .i64)] (fun x => some ((fun r => (r, ())) (armplanref1_over x.1 x.2.1 x.2.2.1 x.2.2.2.1 x.2.2.2.2.1)))
theorem ok_armplanref1_over : HdOk Try.prog 119 hd_armplanref1_over.sem ∧ Enters Try.prog 119 := data_ok fn_armplanref1_over Try.func119 (by kernel_rfl) (by kernel_rfl)

/- armplan/armplanref1.SinOver -/
def t_armplanref1_SinOver (a0 : (Int × Int)) : Tr (Int × Int) :=
  let r1 : (Int × Int) := armplanref1_Sin a0.1
  let r2 : (Int × Int) := armplanref1_Sin a0.2
  let r3 : (Int × Int) := armplanref1_over a0 r1 r2 16384 49152
  .leaf r3
def armplanref1_SinOver (a0 : (Int × Int)) : (Int × Int) := (t_armplanref1_SinOver a0).val
theorem run_armplanref1_SinOver : ∀ x, runF (mkC tys eqs [(119, hd_armplanref1_over), (121, hd_armplanref1_Sin)] [] noLoops) 200 98 Try.f98 (argsA [.pair (.int .i64) (.int .i64)] x) [] (fun v h => toRes h [.pair (.int .i64) (.int .i64)] v) = (t_armplanref1_SinOver x.1).optA (fun r => (r, ())) := by
  intro x; kernel_rfl
theorem fn_armplanref1_SinOver : FnOk Try.prog 98 [.pair (.int .i64) (.int .i64)] [.pair (.int .i64) (.int .i64)] (fun x => some ((fun r => (r, ())) (armplanref1_SinOver x.1))) :=
  fn_tot (t := fun (x : Ar [.pair (.int .i64) (.int .i64)]) => t_armplanref1_SinOver x.1) (R := (Int × Int)) (Ts := [.pair (.int .i64) (.int .i64)]) (mk := (fun r => (r, ()))) (mkC_ok tys_ok eqs_ok (fns_cons ok_armplanref1_over (fns_cons ok_armplanref1_Sin (fns_nil _))) (inl_nil _) noLoops_ok mixed) Try.func98 run_armplanref1_SinOver (fun _ => by kernel_rfl)
def hd_armplanref1_SinOver : Hd := dataHd [.pair (.int .i64) (.int .i64)] [.pair (.int .i64) (.int .i64)] (fun x => some ((fun r => (r, ())) (armplanref1_SinOver x.1)))
theorem ok_armplanref1_SinOver : HdOk Try.prog 98 hd_armplanref1_SinOver.sem ∧ Enters Try.prog 98 := data_ok fn_armplanref1_SinOver Try.func98 (by kernel_rfl) (by kernel_rfl)

/- armplan/angle.CosOver -/
def t_angle_CosOver (a0 : (Int × Int)) : Tr (Int × Int) :=
  let r1 : Bool := interval_Valid a0
  .br ((!r1)) (
   .leaf (0, 0)) (
   let r2 : Int := interval_Width a0
   let x3 : Bool := decide (65536 ≤ r2)
   .br (x3) (
    .leaf ((-65536), 65536)) (
    let r4 : (Int × Int) := angle_Cos a0.1
    let r5 : (Int × Int) := angle_Cos a0.2
    let r6 : (Int × Int) := interval_Hull r4 r5
    let r7 : Bool := angle_meets a0 0
    .br (r7) (
     let r8 : Bool := angle_meets a0 32768
     .br (r8) (
      .leaf ((-65536), 65536)) (
      .leaf (r6.1, 65536))) (
     let r9 : Bool := angle_meets a0 32768
     .br (r9) (
      .leaf ((-65536), r6.2)) (
      .leaf r6))))
def angle_CosOver (a0 : (Int × Int)) : (Int × Int) := (t_angle_CosOver a0).val
theorem run_angle_CosOver : ∀ x, runF (mkC tys eqs [(57, hd_interval_Valid), (88, hd_angle_Cos), (114, hd_interval_Width), (115, hd_interval_Hull), (116, hd_angle_meets)] [(87, Try.f87)] noLoops) 200 58 Try.f58 (argsA [.pair (.int .i64) (.int .i64)] x) [] (fun v h => toRes h [.pair (.int .i64) (.int .i64)] v) = (t_angle_CosOver x.1).optA (fun r => (r, ())) := by
  intro x; kernel_rfl
theorem fn_angle_CosOver : FnOk Try.prog 58 [.pair (.int .i64) (.int .i64)] [.pair (.int .i64) (.int .i64)] (fun x => some ((fun r => (r, ())) (angle_CosOver x.1))) :=
  fn_tot (t := fun (x : Ar [.pair (.int .i64) (.int .i64)]) => t_angle_CosOver x.1) (R := (Int × Int)) (Ts := [.pair (.int .i64) (.int .i64)]) (mk := (fun r => (r, ()))) (mkC_ok tys_ok eqs_ok (fns_cons ok_interval_Valid (fns_cons ok_angle_Cos (fns_cons ok_interval_Width (fns_cons ok_interval_Hull (fns_cons ok_angle_meets (fns_nil _)))))) (inl_cons Try.func87 (by kernel_rfl) (inl_nil _)) noLoops_ok mixed) Try.func58 run_angle_CosOver (fun _ => by kernel_rfl)
def hd_angle_CosOver : Hd := dataHd [.pair (.int .i64) (.int .i64)] [.pair (.int .i64) (.int .i64)] (fun x => some ((fun r => (r, ())) (angle_CosOver x.1)))
theorem ok_angle_CosOver : HdOk Try.prog 58 hd_angle_CosOver.sem ∧ Enters Try.prog 58 := data_ok fn_angle_CosOver Try.func58 (by kernel_rfl) (by kernel_rfl)

/- armplan/armplanref1.CosOver -/
def t_armplanref1_CosOver (a0 : (Int × Int)) : Tr (Int × Int) :=
  let r1 : (Int × Int) := armplanref1_Cos a0.1
  let r2 : (Int × Int) := armplanref1_Cos a0.2
  let r3 : (Int × Int) := armplanref1_over a0 r1 r2 0 32768
  .leaf r3
def armplanref1_CosOver (a0 : (Int × Int)) : (Int × Int) := (t_armplanref1_CosOver a0).val
theorem run_armplanref1_CosOver : ∀ x, runF (mkC tys eqs [(119, hd_armplanref1_over), (120, hd_armplanref1_Cos)] [] noLoops) 200 97 Try.f97 (argsA [.pair (.int .i64) (.int .i64)] x) [] (fun v h => toRes h [.pair (.int .i64) (.int .i64)] v) = (t_armplanref1_CosOver x.1).optA (fun r => (r, ())) := by
  intro x; kernel_rfl
theorem fn_armplanref1_CosOver : FnOk Try.prog 97 [.pair (.int .i64) (.int .i64)] [.pair (.int .i64) (.int .i64)] (fun x => some ((fun r => (r, ())) (armplanref1_CosOver x.1))) :=
  fn_tot (t := fun (x : Ar [.pair (.int .i64) (.int .i64)]) => t_armplanref1_CosOver x.1) (R := (Int × Int)) (Ts := [.pair (.int .i64) (.int .i64)]) (mk := (fun r => (r, ()))) (mkC_ok tys_ok eqs_ok (fns_cons ok_armplanref1_over (fns_cons ok_armplanref1_Cos (fns_nil _))) (inl_nil _) noLoops_ok mixed) Try.func97 run_armplanref1_CosOver (fun _ => by kernel_rfl)
def hd_armplanref1_CosOver : Hd := dataHd [.pair (.int .i64) (.int .i64)] [.pair (.int .i64) (.int .i64)] (fun x => some ((fun r => (r, ())) (armplanref1_CosOver x.1)))
theorem ok_armplanref1_CosOver : HdOk Try.prog 97 hd_armplanref1_CosOver.sem ∧ Enters Try.prog 97 := data_ok fn_armplanref1_CosOver Try.func97 (by kernel_rfl) (by kernel_rfl)

end Go.RX

/-
  The contracts of functions.
-/
namespace Go.RX
open Go.Proofs

def btys : List (Nat × TRow) := [(2, ⟨.int .i64, 1, 8, [.int .i64 0], .int .i64⟩),
  (26, ⟨.struct [(0, 1), (1, 1)], 2, 16, [.int .i64 0, .int .i64 0], .pair (.int .i64) (.int .i64)⟩),
  (27, ⟨.arr 3 26, 6, 48, [.int .i64 0, .int .i64 0, .int .i64 0, .int .i64 0, .int .i64 0, .int .i64 0], .pair (.pair (.int .i64) (.int .i64)) (.pair (.pair (.int .i64) (.int .i64)) (.pair (.int .i64) (.int .i64)))⟩),
  (28, ⟨.arr 3 26, 6, 48, [.int .i64 0, .int .i64 0, .int .i64 0, .int .i64 0, .int .i64 0, .int .i64 0], .pair (.pair (.int .i64) (.int .i64)) (.pair (.pair (.int .i64) (.int .i64)) (.pair (.int .i64) (.int .i64)))⟩),
  (32, ⟨.arr 3 2, 3, 24, [.int .i64 0, .int .i64 0, .int .i64 0], .pair (.int .i64) (.pair (.int .i64) (.int .i64))⟩),
  (35, ⟨.arr 3 27, 18, 144, [.int .i64 0, .int .i64 0, .int .i64 0, .int .i64 0, .int .i64 0, .int .i64 0, .int .i64 0, .int .i64 0, .int .i64 0, .int .i64 0, .int .i64 0, .int .i64 0, .int .i64 0, .int .i64 0, .int .i64 0, .int .i64 0, .int .i64 0, .int .i64 0], .pair (.pair (.pair (.int .i64) (.int .i64)) (.pair (.pair (.int .i64) (.int .i64)) (.pair (.int .i64) (.int .i64)))) (.pair (.pair (.pair (.int .i64) (.int .i64)) (.pair (.pair (.int .i64) (.int .i64)) (.pair (.int .i64) (.int .i64)))) (.pair (.pair (.int .i64) (.int .i64)) (.pair (.pair (.int .i64) (.int .i64)) (.pair (.int .i64) (.int .i64)))))⟩),
  (129, ⟨.arr 4 2, 4, 32, [.int .i64 0, .int .i64 0, .int .i64 0, .int .i64 0], .pair (.int .i64) (.pair (.int .i64) (.pair (.int .i64) (.int .i64)))⟩)]
def beqs : List (Nat × (Bool × List TK)) := [(28, (true, [.int .i64, .int .i64, .int .i64, .int .i64, .int .i64, .int .i64]))]
theorem btys_ok : tableOk Try.prog btys = true := by kernel_rfl
theorem beqs_ok : eqsOk Try.prog beqs = true := by kernel_rfl

/- armplan/fixed.Clamp -/
def t_fixed_Clamp (a0 : Int) : Tr Int :=
  let x1 : Int := if (-2147483648) > a0 then (-2147483648) else a0
  let x2 : Int := if 2147483648 < x1 then 2147483648 else x1
  .leaf x2
def fixed_Clamp (a0 : Int) : Int := (t_fixed_Clamp a0).val
theorem run_fixed_Clamp : ∀ x, runF (mkC btys beqs [] [] noLoops) 200 129 Try.f129 (argsA [.int .i64] x) [] (fun v h => toRes h [.int .i64] v) = (t_fixed_Clamp x.1).optA (fun r => (r, ())) := by
  intro x; kernel_rfl
theorem fn_fixed_Clamp : FnOk Try.prog 129 [.int .i64] [.int .i64] (fun x => some ((fun r => (r, ())) (fixed_Clamp x.1))) :=
  fn_tot (t := fun (x : Ar [.int .i64]) => t_fixed_Clamp x.1) (R := Int) (Ts := [.int .i64]) (mk := (fun r => (r, ()))) (mkC_ok btys_ok beqs_ok (fns_nil _) (inl_nil _) noLoops_ok mixed) Try.func129 run_fixed_Clamp (fun _ => by kernel_rfl)
def hd_fixed_Clamp : Hd := dataHd [.int .i64] [.int .i64] (fun x => some ((fun r => (r, ())) (fixed_Clamp x.1)))
theorem ok_fixed_Clamp : HdOk Try.prog 129 hd_fixed_Clamp.sem ∧ Enters Try.prog 129 := data_ok fn_fixed_Clamp Try.func129 (by kernel_rfl) (by kernel_rfl)

/- armplan/interval.limit -/
def t_interval_limit (a0 : Int) (a1 : Int) : Tr (Int × Int) :=
  let r1 : Int := fixed_Clamp a0
  let r2 : Int := fixed_Clamp a1
  .leaf (r1, r2)
def interval_limit (a0 : Int) (a1 : Int) : (Int × Int) := (t_interval_limit a0 a1).val
theorem run_interval_limit : ∀ x, runF (mkC btys beqs [(129, hd_fixed_Clamp)] [] noLoops) 200 113 Try.f113 (argsA [.int .i64, .int .i64] x) [] (fun v h => toRes h [.pair (.int .i64) (.int .i64)] v) = (t_interval_limit x.1 x.2.1).optA (fun r => (r, ())) := by
  intro x; kernel_rfl
theorem fn_interval_limit : FnOk Try.prog 113 [.int .i64, .int .i64] [.pair (.int .i64) (.int .i64)] (fun x => some ((fun r => (r, ())) (interval_limit x.1 x.2.1))) :=
  fn_tot (t := fun (x : Ar [.int .i64, .int .i64]) => t_interval_limit x.1 x.2.1) (R := (Int × Int)) (Ts := [.pair (.int .i64) (.int .i64)]) (mk := (fun r => (r, ()))) (mkC_ok btys_ok beqs_ok (fns_cons ok_fixed_Clamp (fns_nil _)) (inl_nil _) noLoops_ok mixed) Try.func113 run_interval_limit (fun _ => by kernel_rfl)
def hd_interval_limit : Hd := dataHd [.int .i64, .int .i64] [.pair (.int .i64) (.int .i64)] (fun x => some ((fun r => (r, ())) (interval_limit x.1 x.2.1)))
theorem ok_interval_limit : HdOk Try.prog 113 hd_interval_limit.sem ∧ Enters Try.prog 113 := data_ok fn_interval_limit Try.func113 (by kernel_rfl) (by kernel_rfl)

/- armplan/interval.Of -/
def t_interval_Of (a0 : Int) : Tr (Int × Int) :=
  let r1 : (Int × Int) := interval_limit a0 a0
  .leaf r1
def interval_Of (a0 : Int) : (Int × Int) := (t_interval_Of a0).val
theorem run_interval_Of : ∀ x, runF (mkC btys beqs [(113, hd_interval_limit)] [] noLoops) 200 90 Try.f90 (argsA [.int .i64] x) [] (fun v h => toRes h [.pair (.int .i64) (.int .i64)] v) = (t_interval_Of x.1).optA (fun r => (r, ())) := by
  intro x; kernel_rfl
theorem fn_interval_Of : FnOk Try.prog 90 [.int .i64] [.pair (.int .i64) (.int .i64)] (fun x => some ((fun r => (r, ())) (interval_Of x.1))) :=
  fn_tot (t := fun (x : Ar [.int .i64]) => t_interval_Of x.1) (R := (Int × Int)) (Ts := [.pair (.int .i64) (.int .i64)]) (mk := (fun r => (r, ()))) (mkC_ok btys_ok beqs_ok (fns_cons ok_interval_limit (fns_nil _)) (inl_nil _) noLoops_ok mixed) Try.func90 run_interval_Of (fun _ => by kernel_rfl)
def hd_interval_Of : Hd := dataHd [.int .i64] [.pair (.int .i64) (.int .i64)] (fun x => some ((fun r => (r, ())) (interval_Of x.1)))
theorem ok_interval_Of : HdOk Try.prog 90 hd_interval_Of.sem ∧ Enters Try.prog 90 := data_ok fn_interval_Of Try.func90 (by kernel_rfl) (by kernel_rfl)

/- armplan/matrix.one -/
def t_matrix_one : Tr (Int × Int) :=
  let r1 : (Int × Int) := interval_Of 65536
  .leaf r1
def matrix_one : (Int × Int) := t_matrix_one.val
theorem run_matrix_one : ∀ x, runF (mkC btys beqs [(90, hd_interval_Of)] [] noLoops) 200 60 Try.f60 (argsA [] x) [] (fun v h => toRes h [.pair (.int .i64) (.int .i64)] v) = (t_matrix_one ).optA (fun r => (r, ())) := by
  intro x; kernel_rfl
theorem fn_matrix_one : FnOk Try.prog 60 [] [.pair (.int .i64) (.int .i64)] (fun _ => some ((fun r => (r, ())) matrix_one)) :=
  fn_tot (t := fun (_ : Ar []) => t_matrix_one ) (R := (Int × Int)) (Ts := [.pair (.int .i64) (.int .i64)]) (mk := (fun r => (r, ()))) (mkC_ok btys_ok beqs_ok (fns_cons ok_interval_Of (fns_nil _)) (inl_nil _) noLoops_ok mixed) Try.func60 run_matrix_one (fun _ => by kernel_rfl)
def hd_matrix_one : Hd := dataHd [] [.pair (.int .i64) (.int .i64)] (fun _ => some ((fun r => (r, ())) matrix_one))
theorem ok_matrix_one : HdOk Try.prog 60 hd_matrix_one.sem ∧ Enters Try.prog 60 := data_ok fn_matrix_one Try.func60 (by kernel_rfl) (by kernel_rfl)

/- armplan/matrix.Turn -/
def t_matrix_Turn_0 (a1 : (Int × Int)) : Tr (((Int × Int) × ((Int × Int) × (Int × Int))) × (((Int × Int) × ((Int × Int) × (Int × Int))) × ((Int × Int) × ((Int × Int) × (Int × Int))))) :=
  let r1 : Bool := interval_Valid a1
  .br ((!r1)) (
   .leaf (((0, 0), ((0, 0), (0, 0))), (((0, 0), ((0, 0), (0, 0))), ((0, 0), ((0, 0), (0, 0)))))) (
   let r2 : (Int × Int) := angle_CosOver a1
   let r3 : (Int × Int) := angle_SinOver a1
   let r4 : (Int × Int) := matrix_one
   let r5 : (Int × Int) := interval_Neg r3
   .leaf ((r4, ((0, 0), (0, 0))), (((0, 0), (r2, r5)), ((0, 0), (r3, r2)))))
theorem run_matrix_Turn_0 : ∀ y : Ar [.pair (.int .i64) (.int .i64)], runF (mkC btys beqs [(57, hd_interval_Valid), (58, hd_angle_CosOver), (59, hd_angle_SinOver), (60, hd_matrix_one), (61, hd_interval_Neg)] [] noLoops) 200 19 Try.f19 (argsA [.int .i64, .pair (.int .i64) (.int .i64)] (0, y)) [] (fun v h => toRes h [.pair (.pair (.pair (.int .i64) (.int .i64)) (.pair (.pair (.int .i64) (.int .i64)) (.pair (.int .i64) (.int .i64)))) (.pair (.pair (.pair (.int .i64) (.int .i64)) (.pair (.pair (.int .i64) (.int .i64)) (.pair (.int .i64) (.int .i64)))) (.pair (.pair (.int .i64) (.int .i64)) (.pair (.pair (.int .i64) (.int .i64)) (.pair (.int .i64) (.int .i64)))))] v) = (t_matrix_Turn_0 y.1).optA (fun r => (r, ())) := by
  intro y; kernel_rfl
theorem fn_matrix_Turn_0 : FnOk Try.prog 19 [.int .i64, .pair (.int .i64) (.int .i64)] [.pair (.pair (.pair (.int .i64) (.int .i64)) (.pair (.pair (.int .i64) (.int .i64)) (.pair (.int .i64) (.int .i64)))) (.pair (.pair (.pair (.int .i64) (.int .i64)) (.pair (.pair (.int .i64) (.int .i64)) (.pair (.int .i64) (.int .i64)))) (.pair (.pair (.int .i64) (.int .i64)) (.pair (.pair (.int .i64) (.int .i64)) (.pair (.int .i64) (.int .i64)))))] (fun x => if x.1 = 0 then some ((fun r => (r, ())) (t_matrix_Turn_0 x.2.1).val) else none) :=
  fn_lit (R := (((Int × Int) × ((Int × Int) × (Int × Int))) × (((Int × Int) × ((Int × Int) × (Int × Int))) × ((Int × Int) × ((Int × Int) × (Int × Int)))))) (Ts := [.pair (.pair (.pair (.int .i64) (.int .i64)) (.pair (.pair (.int .i64) (.int .i64)) (.pair (.int .i64) (.int .i64)))) (.pair (.pair (.pair (.int .i64) (.int .i64)) (.pair (.pair (.int .i64) (.int .i64)) (.pair (.int .i64) (.int .i64)))) (.pair (.pair (.int .i64) (.int .i64)) (.pair (.pair (.int .i64) (.int .i64)) (.pair (.int .i64) (.int .i64)))))]) (mk := (fun r => (r, ()))) (t := fun (y : Ar [.pair (.int .i64) (.int .i64)]) => t_matrix_Turn_0 y.1) (mkC_ok btys_ok beqs_ok (fns_cons ok_interval_Valid (fns_cons ok_angle_CosOver (fns_cons ok_angle_SinOver (fns_cons ok_matrix_one (fns_cons ok_interval_Neg (fns_nil _)))))) (inl_nil _) noLoops_ok mixed) Try.func19 0 run_matrix_Turn_0 (fun _ => by kernel_rfl)
def t_matrix_Turn_1 (a1 : (Int × Int)) : Tr (((Int × Int) × ((Int × Int) × (Int × Int))) × (((Int × Int) × ((Int × Int) × (Int × Int))) × ((Int × Int) × ((Int × Int) × (Int × Int))))) :=
  let r1 : Bool := interval_Valid a1
  .br ((!r1)) (
   .leaf (((0, 0), ((0, 0), (0, 0))), (((0, 0), ((0, 0), (0, 0))), ((0, 0), ((0, 0), (0, 0)))))) (
   let r2 : (Int × Int) := angle_CosOver a1
   let r3 : (Int × Int) := angle_SinOver a1
   let r4 : (Int × Int) := matrix_one
   let r5 : (Int × Int) := interval_Neg r3
   .leaf ((r2, ((0, 0), r3)), (((0, 0), (r4, (0, 0))), (r5, ((0, 0), r2)))))
theorem run_matrix_Turn_1 : ∀ y : Ar [.pair (.int .i64) (.int .i64)], runF (mkC btys beqs [(57, hd_interval_Valid), (58, hd_angle_CosOver), (59, hd_angle_SinOver), (60, hd_matrix_one), (61, hd_interval_Neg)] [] noLoops) 200 19 Try.f19 (argsA [.int .i64, .pair (.int .i64) (.int .i64)] (1, y)) [] (fun v h => toRes h [.pair (.pair (.pair (.int .i64) (.int .i64)) (.pair (.pair (.int .i64) (.int .i64)) (.pair (.int .i64) (.int .i64)))) (.pair (.pair (.pair (.int .i64) (.int .i64)) (.pair (.pair (.int .i64) (.int .i64)) (.pair (.int .i64) (.int .i64)))) (.pair (.pair (.int .i64) (.int .i64)) (.pair (.pair (.int .i64) (.int .i64)) (.pair (.int .i64) (.int .i64)))))] v) = (t_matrix_Turn_1 y.1).optA (fun r => (r, ())) := by
  intro y; kernel_rfl
theorem fn_matrix_Turn_1 : FnOk Try.prog 19 [.int .i64, .pair (.int .i64) (.int .i64)] [.pair (.pair (.pair (.int .i64) (.int .i64)) (.pair (.pair (.int .i64) (.int .i64)) (.pair (.int .i64) (.int .i64)))) (.pair (.pair (.pair (.int .i64) (.int .i64)) (.pair (.pair (.int .i64) (.int .i64)) (.pair (.int .i64) (.int .i64)))) (.pair (.pair (.int .i64) (.int .i64)) (.pair (.pair (.int .i64) (.int .i64)) (.pair (.int .i64) (.int .i64)))))] (fun x => if x.1 = 1 then some ((fun r => (r, ())) (t_matrix_Turn_1 x.2.1).val) else none) :=
  fn_lit (R := (((Int × Int) × ((Int × Int) × (Int × Int))) × (((Int × Int) × ((Int × Int) × (Int × Int))) × ((Int × Int) × ((Int × Int) × (Int × Int)))))) (Ts := [.pair (.pair (.pair (.int .i64) (.int .i64)) (.pair (.pair (.int .i64) (.int .i64)) (.pair (.int .i64) (.int .i64)))) (.pair (.pair (.pair (.int .i64) (.int .i64)) (.pair (.pair (.int .i64) (.int .i64)) (.pair (.int .i64) (.int .i64)))) (.pair (.pair (.int .i64) (.int .i64)) (.pair (.pair (.int .i64) (.int .i64)) (.pair (.int .i64) (.int .i64)))))]) (mk := (fun r => (r, ()))) (t := fun (y : Ar [.pair (.int .i64) (.int .i64)]) => t_matrix_Turn_1 y.1) (mkC_ok btys_ok beqs_ok (fns_cons ok_interval_Valid (fns_cons ok_angle_CosOver (fns_cons ok_angle_SinOver (fns_cons ok_matrix_one (fns_cons ok_interval_Neg (fns_nil _)))))) (inl_nil _) noLoops_ok mixed) Try.func19 1 run_matrix_Turn_1 (fun _ => by kernel_rfl)
def t_matrix_Turn_2 (a1 : (Int × Int)) : Tr (((Int × Int) × ((Int × Int) × (Int × Int))) × (((Int × Int) × ((Int × Int) × (Int × Int))) × ((Int × Int) × ((Int × Int) × (Int × Int))))) :=
  let r1 : Bool := interval_Valid a1
  .br ((!r1)) (
   .leaf (((0, 0), ((0, 0), (0, 0))), (((0, 0), ((0, 0), (0, 0))), ((0, 0), ((0, 0), (0, 0)))))) (
   let r2 : (Int × Int) := angle_CosOver a1
   let r3 : (Int × Int) := angle_SinOver a1
   let r4 : (Int × Int) := matrix_one
   let r5 : (Int × Int) := interval_Neg r3
   .leaf ((r2, (r5, (0, 0))), ((r3, (r2, (0, 0))), ((0, 0), ((0, 0), r4)))))
theorem run_matrix_Turn_2 : ∀ y : Ar [.pair (.int .i64) (.int .i64)], runF (mkC btys beqs [(57, hd_interval_Valid), (58, hd_angle_CosOver), (59, hd_angle_SinOver), (60, hd_matrix_one), (61, hd_interval_Neg)] [] noLoops) 200 19 Try.f19 (argsA [.int .i64, .pair (.int .i64) (.int .i64)] (2, y)) [] (fun v h => toRes h [.pair (.pair (.pair (.int .i64) (.int .i64)) (.pair (.pair (.int .i64) (.int .i64)) (.pair (.int .i64) (.int .i64)))) (.pair (.pair (.pair (.int .i64) (.int .i64)) (.pair (.pair (.int .i64) (.int .i64)) (.pair (.int .i64) (.int .i64)))) (.pair (.pair (.int .i64) (.int .i64)) (.pair (.pair (.int .i64) (.int .i64)) (.pair (.int .i64) (.int .i64)))))] v) = (t_matrix_Turn_2 y.1).optA (fun r => (r, ())) := by
  intro y; kernel_rfl
theorem fn_matrix_Turn_2 : FnOk Try.prog 19 [.int .i64, .pair (.int .i64) (.int .i64)] [.pair (.pair (.pair (.int .i64) (.int .i64)) (.pair (.pair (.int .i64) (.int .i64)) (.pair (.int .i64) (.int .i64)))) (.pair (.pair (.pair (.int .i64) (.int .i64)) (.pair (.pair (.int .i64) (.int .i64)) (.pair (.int .i64) (.int .i64)))) (.pair (.pair (.int .i64) (.int .i64)) (.pair (.pair (.int .i64) (.int .i64)) (.pair (.int .i64) (.int .i64)))))] (fun x => if x.1 = 2 then some ((fun r => (r, ())) (t_matrix_Turn_2 x.2.1).val) else none) :=
  fn_lit (R := (((Int × Int) × ((Int × Int) × (Int × Int))) × (((Int × Int) × ((Int × Int) × (Int × Int))) × ((Int × Int) × ((Int × Int) × (Int × Int)))))) (Ts := [.pair (.pair (.pair (.int .i64) (.int .i64)) (.pair (.pair (.int .i64) (.int .i64)) (.pair (.int .i64) (.int .i64)))) (.pair (.pair (.pair (.int .i64) (.int .i64)) (.pair (.pair (.int .i64) (.int .i64)) (.pair (.int .i64) (.int .i64)))) (.pair (.pair (.int .i64) (.int .i64)) (.pair (.pair (.int .i64) (.int .i64)) (.pair (.int .i64) (.int .i64)))))]) (mk := (fun r => (r, ()))) (t := fun (y : Ar [.pair (.int .i64) (.int .i64)]) => t_matrix_Turn_2 y.1) (mkC_ok btys_ok beqs_ok (fns_cons ok_interval_Valid (fns_cons ok_angle_CosOver (fns_cons ok_angle_SinOver (fns_cons ok_matrix_one (fns_cons ok_interval_Neg (fns_nil _)))))) (inl_nil _) noLoops_ok mixed) Try.func19 2 run_matrix_Turn_2 (fun _ => by kernel_rfl)
def t_matrix_Turn_x (a0 : Int) (a1 : (Int × Int)) : Tr (((Int × Int) × ((Int × Int) × (Int × Int))) × (((Int × Int) × ((Int × Int) × (Int × Int))) × ((Int × Int) × ((Int × Int) × (Int × Int))))) :=
  let x1 : Bool := decide (a0 < 0)
  .br (x1) (
   .leaf (((0, 0), ((0, 0), (0, 0))), (((0, 0), ((0, 0), (0, 0))), ((0, 0), ((0, 0), (0, 0)))))) (
   let x2 : Bool := decide (2 < a0)
   .br (x2) (
    .leaf (((0, 0), ((0, 0), (0, 0))), (((0, 0), ((0, 0), (0, 0))), ((0, 0), ((0, 0), (0, 0)))))) (
    let r3 : Bool := interval_Valid a1
    .br ((!r3)) (
     .leaf (((0, 0), ((0, 0), (0, 0))), (((0, 0), ((0, 0), (0, 0))), ((0, 0), ((0, 0), (0, 0)))))) (
     let r4 : (Int × Int) := angle_CosOver a1
     let r5 : (Int × Int) := angle_SinOver a1
     let x6 : Int := IntKind.wrap .i64 (a0 + 1)
     let x7 : Int := Int.tmod x6 3
     let x8 : Int := IntKind.wrap .i64 (a0 + 2)
     let x9 : Int := Int.tmod x8 3
     .fail)))
theorem run_matrix_Turn_x : ∀ x, runF (mkC btys beqs [(57, hd_interval_Valid), (58, hd_angle_CosOver), (59, hd_angle_SinOver)] [] noLoops) 6 19 Try.f19 (argsA [.int .i64, .pair (.int .i64) (.int .i64)] x) [] (fun v h => toRes h [.pair (.pair (.pair (.int .i64) (.int .i64)) (.pair (.pair (.int .i64) (.int .i64)) (.pair (.int .i64) (.int .i64)))) (.pair (.pair (.pair (.int .i64) (.int .i64)) (.pair (.pair (.int .i64) (.int .i64)) (.pair (.int .i64) (.int .i64)))) (.pair (.pair (.int .i64) (.int .i64)) (.pair (.pair (.int .i64) (.int .i64)) (.pair (.int .i64) (.int .i64)))))] v) = (t_matrix_Turn_x x.1 x.2.1).optA (fun r => (r, ())) := by
  intro x; kernel_rfl
theorem fn_matrix_Turn_x : FnOk Try.prog 19 [.int .i64, .pair (.int .i64) (.int .i64)] [.pair (.pair (.pair (.int .i64) (.int .i64)) (.pair (.pair (.int .i64) (.int .i64)) (.pair (.int .i64) (.int .i64)))) (.pair (.pair (.pair (.int .i64) (.int .i64)) (.pair (.pair (.int .i64) (.int .i64)) (.pair (.int .i64) (.int .i64)))) (.pair (.pair (.int .i64) (.int .i64)) (.pair (.pair (.int .i64) (.int .i64)) (.pair (.int .i64) (.int .i64)))))] (fun x => bif (t_matrix_Turn_x x.1 x.2.1).dom then some ((fun r => (r, ())) (t_matrix_Turn_x x.1 x.2.1).val) else none) :=
  fn_part (t := fun (x : Ar [.int .i64, .pair (.int .i64) (.int .i64)]) => t_matrix_Turn_x x.1 x.2.1) (R := (((Int × Int) × ((Int × Int) × (Int × Int))) × (((Int × Int) × ((Int × Int) × (Int × Int))) × ((Int × Int) × ((Int × Int) × (Int × Int)))))) (Ts := [.pair (.pair (.pair (.int .i64) (.int .i64)) (.pair (.pair (.int .i64) (.int .i64)) (.pair (.int .i64) (.int .i64)))) (.pair (.pair (.pair (.int .i64) (.int .i64)) (.pair (.pair (.int .i64) (.int .i64)) (.pair (.int .i64) (.int .i64)))) (.pair (.pair (.int .i64) (.int .i64)) (.pair (.pair (.int .i64) (.int .i64)) (.pair (.int .i64) (.int .i64)))))]) (mk := (fun r => (r, ()))) (mkC_ok btys_ok beqs_ok (fns_cons ok_interval_Valid (fns_cons ok_angle_CosOver (fns_cons ok_angle_SinOver (fns_nil _)))) (inl_nil _) noLoops_ok mixed) Try.func19 run_matrix_Turn_x
def matrix_Turn (a0 : Int) (a1 : (Int × Int)) : (((Int × Int) × ((Int × Int) × (Int × Int))) × (((Int × Int) × ((Int × Int) × (Int × Int))) × ((Int × Int) × ((Int × Int) × (Int × Int))))) := if a0 = 0 then (t_matrix_Turn_0 a1).val else if a0 = 1 then (t_matrix_Turn_1 a1).val else if a0 = 2 then (t_matrix_Turn_2 a1).val else (t_matrix_Turn_x a0 a1).val
theorem fn_matrix_Turn : FnOk Try.prog 19 [.int .i64, .pair (.int .i64) (.int .i64)] [.pair (.pair (.pair (.int .i64) (.int .i64)) (.pair (.pair (.int .i64) (.int .i64)) (.pair (.int .i64) (.int .i64)))) (.pair (.pair (.pair (.int .i64) (.int .i64)) (.pair (.pair (.int .i64) (.int .i64)) (.pair (.int .i64) (.int .i64)))) (.pair (.pair (.int .i64) (.int .i64)) (.pair (.pair (.int .i64) (.int .i64)) (.pair (.int .i64) (.int .i64)))))] (fun x => some ((fun r => (r, ())) (matrix_Turn x.1 x.2.1))) := by
  have hlt : ∀ z : Int, 2 < z → ¬ z < 0 := fun z h => by omega
  have hle : ∀ z : Int, ¬ z = 0 → ¬ z = 1 → ¬ z = 2 → z < 0 ∨ 2 < z := fun z h1 h2 h3 => by omega
  refine fn_or fn_matrix_Turn_0 (fn_or fn_matrix_Turn_1 (fn_or fn_matrix_Turn_2 fn_matrix_Turn_x (F := fun x : Ar [.int .i64, .pair (.int .i64) (.int .i64)] => if x.1 = 2 then some ((fun r => (r, ())) (t_matrix_Turn_2 x.2.1).val) else (if x.1 < 0 ∨ 2 < x.1 then some ((fun r => (r, ())) (t_matrix_Turn_x x.1 x.2.1).val) else none)) ?_)
    (F := fun x : Ar [.int .i64, .pair (.int .i64) (.int .i64)] => if x.1 = 1 then some ((fun r => (r, ())) (t_matrix_Turn_1 x.2.1).val) else if x.1 = 2 then some ((fun r => (r, ())) (t_matrix_Turn_2 x.2.1).val) else (if x.1 < 0 ∨ 2 < x.1 then some ((fun r => (r, ())) (t_matrix_Turn_x x.1 x.2.1).val) else none)) ?_) ?_
  · intro x r h
    dsimp only at h ⊢
    by_cases e2 : x.1 = 2
    · rw [if_pos e2] at h ⊢; exact .inl h
    · rw [if_neg e2] at h
      by_cases e3 : x.1 < 0 ∨ 2 < x.1
      · rw [if_pos e3] at h
        have hd : (t_matrix_Turn_x x.1 x.2.1).dom = true := by
          unfold t_matrix_Turn_x
          rcases e3 with e3 | e3
          · simp [Tr.dom, e3]
          · simp [Tr.dom, e3, hlt _ e3]
        rw [hd]; exact .inr h
      · rw [if_neg e3] at h; simp at h
  · intro x r h
    dsimp only at h ⊢
    by_cases e1 : x.1 = 1
    · rw [if_pos e1] at h ⊢; exact .inl h
    · rw [if_neg e1] at h; exact .inr h
  · intro x r h
    dsimp only at h ⊢
    unfold matrix_Turn at h
    by_cases e0 : x.1 = 0
    · rw [if_pos e0] at h ⊢; exact .inl h
    · rw [if_neg e0] at h
      refine .inr ?_
      by_cases e1 : x.1 = 1
      · rw [if_pos e1] at h ⊢; exact h
      · rw [if_neg e1] at h ⊢
        by_cases e2 : x.1 = 2
        · rw [if_pos e2] at h ⊢; exact h
        · rw [if_neg e2] at h ⊢
          rw [if_pos (hle _ e0 e1 e2)]; exact h
def hd_matrix_Turn : Hd := dataHd [.int .i64, .pair (.int .i64) (.int .i64)] [.pair (.pair (.pair (.int .i64) (.int .i64)) (.pair (.pair (.int .i64) (.int .i64)) (.pair (.int .i64) (.int .i64)))) (.pair (.pair (.pair (.int .i64) (.int .i64)) (.pair (.pair (.int .i64) (.int .i64)) (.pair (.int .i64) (.int .i64)))) (.pair (.pair (.int .i64) (.int .i64)) (.pair (.pair (.int .i64) (.int .i64)) (.pair (.int .i64) (.int .i64)))))] (fun x => some ((fun r => (r, ())) (matrix_Turn x.1 x.2.1)))
theorem ok_matrix_Turn : HdOk Try.prog 19 hd_matrix_Turn.sem ∧ Enters Try.prog 19 := data_ok fn_matrix_Turn Try.func19 (by kernel_rfl) (by kernel_rfl)

/- armplan/armplanref1.Point -/
def t_armplanref1_Point (a0 : (Int × (Int × Int))) : Tr ((Int × Int) × ((Int × Int) × (Int × Int))) :=
  let r1 : (Int × Int) := armplanref1_Of a0.1
  let r2 : (Int × Int) := armplanref1_Of a0.2.1
  let r3 : (Int × Int) := armplanref1_Of a0.2.2
  .leaf (r1, (r2, r3))
def armplanref1_Point (a0 : (Int × (Int × Int))) : ((Int × Int) × ((Int × Int) × (Int × Int))) := (t_armplanref1_Point a0).val
theorem run_armplanref1_Point : ∀ x, runF (mkC btys beqs [(21, hd_armplanref1_Of)] [] noLoops) 200 16 Try.f16 (argsA [.pair (.int .i64) (.pair (.int .i64) (.int .i64))] x) [] (fun v h => toRes h [.pair (.pair (.int .i64) (.int .i64)) (.pair (.pair (.int .i64) (.int .i64)) (.pair (.int .i64) (.int .i64)))] v) = (t_armplanref1_Point x.1).optA (fun r => (r, ())) := by
  intro x; kernel_rfl
theorem fn_armplanref1_Point : FnOk Try.prog 16 [.pair (.int .i64) (.pair (.int .i64) (.int .i64))] [.pair (.pair (.int .i64) (.int .i64)) (.pair (.pair (.int .i64) (.int .i64)) (.pair (.int .i64) (.int .i64)))] (fun x => some ((fun r => (r, ())) (armplanref1_Point x.1))) :=
  fn_tot (t := fun (x : Ar [.pair (.int .i64) (.pair (.int .i64) (.int .i64))]) => t_armplanref1_Point x.1) (R := ((Int × Int) × ((Int × Int) × (Int × Int)))) (Ts := [.pair (.pair (.int .i64) (.int .i64)) (.pair (.pair (.int .i64) (.int .i64)) (.pair (.int .i64) (.int .i64)))]) (mk := (fun r => (r, ()))) (mkC_ok btys_ok beqs_ok (fns_cons ok_armplanref1_Of (fns_nil _)) (inl_nil _) noLoops_ok mixed) Try.func16 run_armplanref1_Point (fun _ => by kernel_rfl)
def hd_armplanref1_Point : Hd := dataHd [.pair (.int .i64) (.pair (.int .i64) (.int .i64))] [.pair (.pair (.int .i64) (.int .i64)) (.pair (.pair (.int .i64) (.int .i64)) (.pair (.int .i64) (.int .i64)))] (fun x => some ((fun r => (r, ())) (armplanref1_Point x.1)))
theorem ok_armplanref1_Point : HdOk Try.prog 16 hd_armplanref1_Point.sem ∧ Enters Try.prog 16 := data_ok fn_armplanref1_Point Try.func16 (by kernel_rfl) (by kernel_rfl)

/- armplan/interval.Add -/
def t_interval_Add (a0 : (Int × Int)) (a1 : (Int × Int)) : Tr (Int × Int) :=
  let r1 : Bool := interval_both a0 a1
  .br ((!r1)) (
   .leaf (0, 0)) (
   let x2 : Int := IntKind.wrap .i64 (a0.1 + a1.1)
   let x3 : Int := IntKind.wrap .i64 (a0.2 + a1.2)
   let r4 : (Int × Int) := interval_limit x2 x3
   .leaf r4)
def interval_Add (a0 : (Int × Int)) (a1 : (Int × Int)) : (Int × Int) := (t_interval_Add a0 a1).val
theorem run_interval_Add : ∀ x, runF (mkC btys beqs [(111, hd_interval_both), (113, hd_interval_limit)] [] noLoops) 200 86 Try.f86 (argsA [.pair (.int .i64) (.int .i64), .pair (.int .i64) (.int .i64)] x) [] (fun v h => toRes h [.pair (.int .i64) (.int .i64)] v) = (t_interval_Add x.1 x.2.1).optA (fun r => (r, ())) := by
  intro x; kernel_rfl
theorem fn_interval_Add : FnOk Try.prog 86 [.pair (.int .i64) (.int .i64), .pair (.int .i64) (.int .i64)] [.pair (.int .i64) (.int .i64)] (fun x => some ((fun r => (r, ())) (interval_Add x.1 x.2.1))) :=
  fn_tot (t := fun (x : Ar [.pair (.int .i64) (.int .i64), .pair (.int .i64) (.int .i64)]) => t_interval_Add x.1 x.2.1) (R := (Int × Int)) (Ts := [.pair (.int .i64) (.int .i64)]) (mk := (fun r => (r, ()))) (mkC_ok btys_ok beqs_ok (fns_cons ok_interval_both (fns_cons ok_interval_limit (fns_nil _))) (inl_nil _) noLoops_ok mixed) Try.func86 run_interval_Add (fun _ => by kernel_rfl)
def hd_interval_Add : Hd := dataHd [.pair (.int .i64) (.int .i64), .pair (.int .i64) (.int .i64)] [.pair (.int .i64) (.int .i64)] (fun x => some ((fun r => (r, ())) (interval_Add x.1 x.2.1)))
theorem ok_interval_Add : HdOk Try.prog 86 hd_interval_Add.sem ∧ Enters Try.prog 86 := data_ok fn_interval_Add Try.func86 (by kernel_rfl) (by kernel_rfl)

/- armplan/interval.outward -/
def t_interval_outward (a0 : Int) (a1 : Int) : Tr (Int × Int) :=
  let r1 : Int := fixed_ShiftDown a0 16
  let r2 : Int := fixed_ShiftUp a1 16
  let r3 : (Int × Int) := interval_limit r1 r2
  .leaf r3
def interval_outward (a0 : Int) (a1 : Int) : (Int × Int) := (t_interval_outward a0 a1).val
theorem run_interval_outward : ∀ x, runF (mkC btys beqs [(113, hd_interval_limit), (127, hd_fixed_ShiftDown), (128, hd_fixed_ShiftUp)] [] noLoops) 200 112 Try.f112 (argsA [.int .i64, .int .i64] x) [] (fun v h => toRes h [.pair (.int .i64) (.int .i64)] v) = (t_interval_outward x.1 x.2.1).optA (fun r => (r, ())) := by
  intro x; kernel_rfl
theorem fn_interval_outward : FnOk Try.prog 112 [.int .i64, .int .i64] [.pair (.int .i64) (.int .i64)] (fun x => some ((fun r => (r, ())) (interval_outward x.1 x.2.1))) :=
  fn_tot (t := fun (x : Ar [.int .i64, .int .i64]) => t_interval_outward x.1 x.2.1) (R := (Int × Int)) (Ts := [.pair (.int .i64) (.int .i64)]) (mk := (fun r => (r, ()))) (mkC_ok btys_ok beqs_ok (fns_cons ok_interval_limit (fns_cons ok_fixed_ShiftDown (fns_cons ok_fixed_ShiftUp (fns_nil _)))) (inl_nil _) noLoops_ok mixed) Try.func112 run_interval_outward (fun _ => by kernel_rfl)
def hd_interval_outward : Hd := dataHd [.int .i64, .int .i64] [.pair (.int .i64) (.int .i64)] (fun x => some ((fun r => (r, ())) (interval_outward x.1 x.2.1)))
theorem ok_interval_outward : HdOk Try.prog 112 hd_interval_outward.sem ∧ Enters Try.prog 112 := data_ok fn_interval_outward Try.func112 (by kernel_rfl) (by kernel_rfl)

/- armplan/interval.Mul -/
def t_interval_Mul (a0 : (Int × Int)) (a1 : (Int × Int)) : Tr (Int × Int) :=
  let r1 : Bool := interval_both a0 a1
  .br ((!r1)) (
   .leaf (0, 0)) (
   let x2 : Int := IntKind.wrap .i64 (a0.1 * a1.1)
   let x3 : Int := IntKind.wrap .i64 (a0.1 * a1.2)
   let x4 : Int := IntKind.wrap .i64 (a0.2 * a1.1)
   let x5 : Int := IntKind.wrap .i64 (a0.2 * a1.2)
   let x6 : Int := if x2 < x2 then x2 else x2
   let x7 : Int := if x2 > x2 then x2 else x2
   let x8 : Int := if x3 < x6 then x3 else x6
   let x9 : Int := if x3 > x7 then x3 else x7
   let x10 : Int := if x4 < x8 then x4 else x8
   let x11 : Int := if x4 > x9 then x4 else x9
   let x12 : Int := if x5 < x10 then x5 else x10
   let x13 : Int := if x5 > x11 then x5 else x11
   let r14 : (Int × Int) := interval_outward x12 x13
   .leaf r14)
def interval_Mul (a0 : (Int × Int)) (a1 : (Int × Int)) : (Int × Int) := (t_interval_Mul a0 a1).val
theorem run_interval_Mul : ∀ x, runF (mkC btys beqs [(111, hd_interval_both), (112, hd_interval_outward)] [] noLoops) 200 85 Try.f85 (argsA [.pair (.int .i64) (.int .i64), .pair (.int .i64) (.int .i64)] x) [] (fun v h => toRes h [.pair (.int .i64) (.int .i64)] v) = (t_interval_Mul x.1 x.2.1).optA (fun r => (r, ())) := by
  intro x; kernel_rfl
theorem fn_interval_Mul : FnOk Try.prog 85 [.pair (.int .i64) (.int .i64), .pair (.int .i64) (.int .i64)] [.pair (.int .i64) (.int .i64)] (fun x => some ((fun r => (r, ())) (interval_Mul x.1 x.2.1))) :=
  fn_tot (t := fun (x : Ar [.pair (.int .i64) (.int .i64), .pair (.int .i64) (.int .i64)]) => t_interval_Mul x.1 x.2.1) (R := (Int × Int)) (Ts := [.pair (.int .i64) (.int .i64)]) (mk := (fun r => (r, ()))) (mkC_ok btys_ok beqs_ok (fns_cons ok_interval_both (fns_cons ok_interval_outward (fns_nil _))) (inl_nil _) noLoops_ok mixed) Try.func85 run_interval_Mul (fun _ => by kernel_rfl)
def hd_interval_Mul : Hd := dataHd [.pair (.int .i64) (.int .i64), .pair (.int .i64) (.int .i64)] [.pair (.int .i64) (.int .i64)] (fun x => some ((fun r => (r, ())) (interval_Mul x.1 x.2.1)))
theorem ok_interval_Mul : HdOk Try.prog 85 hd_interval_Mul.sem ∧ Enters Try.prog 85 := data_ok fn_interval_Mul Try.func85 (by kernel_rfl) (by kernel_rfl)

/- armplan/matrix.sum -/
def t_matrix_sum (a0 : ((Int × Int) × ((Int × Int) × (Int × Int)))) (a1 : ((Int × Int) × ((Int × Int) × (Int × Int)))) : Tr (Int × Int) :=
  let r1 : (Int × Int) := interval_Mul a0.1 a1.1
  let r2 : (Int × Int) := interval_Mul a0.2.1 a1.2.1
  let r3 : (Int × Int) := interval_Add r1 r2
  let r4 : (Int × Int) := interval_Mul a0.2.2 a1.2.2
  let r5 : (Int × Int) := interval_Add r3 r4
  .leaf r5
def matrix_sum (a0 : ((Int × Int) × ((Int × Int) × (Int × Int)))) (a1 : ((Int × Int) × ((Int × Int) × (Int × Int)))) : (Int × Int) := (t_matrix_sum a0 a1).val
theorem run_matrix_sum : ∀ x, runF (mkC btys beqs [(85, hd_interval_Mul), (86, hd_interval_Add)] [] noLoops) 200 56 Try.f56 (argsA [.pair (.pair (.int .i64) (.int .i64)) (.pair (.pair (.int .i64) (.int .i64)) (.pair (.int .i64) (.int .i64))), .pair (.pair (.int .i64) (.int .i64)) (.pair (.pair (.int .i64) (.int .i64)) (.pair (.int .i64) (.int .i64)))] x) [] (fun v h => toRes h [.pair (.int .i64) (.int .i64)] v) = (t_matrix_sum x.1 x.2.1).optA (fun r => (r, ())) := by
  intro x; kernel_rfl
theorem fn_matrix_sum : FnOk Try.prog 56 [.pair (.pair (.int .i64) (.int .i64)) (.pair (.pair (.int .i64) (.int .i64)) (.pair (.int .i64) (.int .i64))), .pair (.pair (.int .i64) (.int .i64)) (.pair (.pair (.int .i64) (.int .i64)) (.pair (.int .i64) (.int .i64)))] [.pair (.int .i64) (.int .i64)] (fun x => some ((fun r => (r, ())) (matrix_sum x.1 x.2.1))) :=
  fn_tot (t := fun (x : Ar [.pair (.pair (.int .i64) (.int .i64)) (.pair (.pair (.int .i64) (.int .i64)) (.pair (.int .i64) (.int .i64))), .pair (.pair (.int .i64) (.int .i64)) (.pair (.pair (.int .i64) (.int .i64)) (.pair (.int .i64) (.int .i64)))]) => t_matrix_sum x.1 x.2.1) (R := (Int × Int)) (Ts := [.pair (.int .i64) (.int .i64)]) (mk := (fun r => (r, ()))) (mkC_ok btys_ok beqs_ok (fns_cons ok_interval_Mul (fns_cons ok_interval_Add (fns_nil _))) (inl_nil _) noLoops_ok mixed) Try.func56 run_matrix_sum (fun _ => by kernel_rfl)
def hd_matrix_sum : Hd := dataHd [.pair (.pair (.int .i64) (.int .i64)) (.pair (.pair (.int .i64) (.int .i64)) (.pair (.int .i64) (.int .i64))), .pair (.pair (.int .i64) (.int .i64)) (.pair (.pair (.int .i64) (.int .i64)) (.pair (.int .i64) (.int .i64)))] [.pair (.int .i64) (.int .i64)] (fun x => some ((fun r => (r, ())) (matrix_sum x.1 x.2.1)))
theorem ok_matrix_sum : HdOk Try.prog 56 hd_matrix_sum.sem ∧ Enters Try.prog 56 := data_ok fn_matrix_sum Try.func56 (by kernel_rfl) (by kernel_rfl)

/- armplan/matrix.Apply -/
def t_matrix_Apply (a0 : (((Int × Int) × ((Int × Int) × (Int × Int))) × (((Int × Int) × ((Int × Int) × (Int × Int))) × ((Int × Int) × ((Int × Int) × (Int × Int)))))) (a1 : ((Int × Int) × ((Int × Int) × (Int × Int)))) : Tr ((Int × Int) × ((Int × Int) × (Int × Int))) :=
  let r1 : (Int × Int) := matrix_sum a0.1 a1
  let r2 : (Int × Int) := matrix_sum a0.2.1 a1
  let r3 : (Int × Int) := matrix_sum a0.2.2 a1
  .leaf (r1, (r2, r3))
def matrix_Apply (a0 : (((Int × Int) × ((Int × Int) × (Int × Int))) × (((Int × Int) × ((Int × Int) × (Int × Int))) × ((Int × Int) × ((Int × Int) × (Int × Int)))))) (a1 : ((Int × Int) × ((Int × Int) × (Int × Int)))) : ((Int × Int) × ((Int × Int) × (Int × Int))) := (t_matrix_Apply a0 a1).val
theorem run_matrix_Apply : ∀ x, runF (mkC btys beqs [(56, hd_matrix_sum)] [] noLoops) 200 18 Try.f18 (argsA [.pair (.pair (.pair (.int .i64) (.int .i64)) (.pair (.pair (.int .i64) (.int .i64)) (.pair (.int .i64) (.int .i64)))) (.pair (.pair (.pair (.int .i64) (.int .i64)) (.pair (.pair (.int .i64) (.int .i64)) (.pair (.int .i64) (.int .i64)))) (.pair (.pair (.int .i64) (.int .i64)) (.pair (.pair (.int .i64) (.int .i64)) (.pair (.int .i64) (.int .i64))))), .pair (.pair (.int .i64) (.int .i64)) (.pair (.pair (.int .i64) (.int .i64)) (.pair (.int .i64) (.int .i64)))] x) [] (fun v h => toRes h [.pair (.pair (.int .i64) (.int .i64)) (.pair (.pair (.int .i64) (.int .i64)) (.pair (.int .i64) (.int .i64)))] v) = (t_matrix_Apply x.1 x.2.1).optA (fun r => (r, ())) := by
  intro x; kernel_rfl
theorem fn_matrix_Apply : FnOk Try.prog 18 [.pair (.pair (.pair (.int .i64) (.int .i64)) (.pair (.pair (.int .i64) (.int .i64)) (.pair (.int .i64) (.int .i64)))) (.pair (.pair (.pair (.int .i64) (.int .i64)) (.pair (.pair (.int .i64) (.int .i64)) (.pair (.int .i64) (.int .i64)))) (.pair (.pair (.int .i64) (.int .i64)) (.pair (.pair (.int .i64) (.int .i64)) (.pair (.int .i64) (.int .i64))))), .pair (.pair (.int .i64) (.int .i64)) (.pair (.pair (.int .i64) (.int .i64)) (.pair (.int .i64) (.int .i64)))] [.pair (.pair (.int .i64) (.int .i64)) (.pair (.pair (.int .i64) (.int .i64)) (.pair (.int .i64) (.int .i64)))] (fun x => some ((fun r => (r, ())) (matrix_Apply x.1 x.2.1))) :=
  fn_tot (t := fun (x : Ar [.pair (.pair (.pair (.int .i64) (.int .i64)) (.pair (.pair (.int .i64) (.int .i64)) (.pair (.int .i64) (.int .i64)))) (.pair (.pair (.pair (.int .i64) (.int .i64)) (.pair (.pair (.int .i64) (.int .i64)) (.pair (.int .i64) (.int .i64)))) (.pair (.pair (.int .i64) (.int .i64)) (.pair (.pair (.int .i64) (.int .i64)) (.pair (.int .i64) (.int .i64))))), .pair (.pair (.int .i64) (.int .i64)) (.pair (.pair (.int .i64) (.int .i64)) (.pair (.int .i64) (.int .i64)))]) => t_matrix_Apply x.1 x.2.1) (R := ((Int × Int) × ((Int × Int) × (Int × Int)))) (Ts := [.pair (.pair (.int .i64) (.int .i64)) (.pair (.pair (.int .i64) (.int .i64)) (.pair (.int .i64) (.int .i64)))]) (mk := (fun r => (r, ()))) (mkC_ok btys_ok beqs_ok (fns_cons ok_matrix_sum (fns_nil _)) (inl_nil _) noLoops_ok mixed) Try.func18 run_matrix_Apply (fun _ => by kernel_rfl)
def hd_matrix_Apply : Hd := dataHd [.pair (.pair (.pair (.int .i64) (.int .i64)) (.pair (.pair (.int .i64) (.int .i64)) (.pair (.int .i64) (.int .i64)))) (.pair (.pair (.pair (.int .i64) (.int .i64)) (.pair (.pair (.int .i64) (.int .i64)) (.pair (.int .i64) (.int .i64)))) (.pair (.pair (.int .i64) (.int .i64)) (.pair (.pair (.int .i64) (.int .i64)) (.pair (.int .i64) (.int .i64))))), .pair (.pair (.int .i64) (.int .i64)) (.pair (.pair (.int .i64) (.int .i64)) (.pair (.int .i64) (.int .i64)))] [.pair (.pair (.int .i64) (.int .i64)) (.pair (.pair (.int .i64) (.int .i64)) (.pair (.int .i64) (.int .i64)))] (fun x => some ((fun r => (r, ())) (matrix_Apply x.1 x.2.1)))
theorem ok_matrix_Apply : HdOk Try.prog 18 hd_matrix_Apply.sem ∧ Enters Try.prog 18 := data_ok fn_matrix_Apply Try.func18 (by kernel_rfl) (by kernel_rfl)

/- armplan/matrix.Point -/
def t_matrix_Point (a0 : (Int × (Int × Int))) : Tr ((Int × Int) × ((Int × Int) × (Int × Int))) :=
  let r1 : (Int × Int) := interval_Of a0.1
  let r2 : (Int × Int) := interval_Of a0.2.1
  let r3 : (Int × Int) := interval_Of a0.2.2
  .leaf (r1, (r2, r3))
def matrix_Point (a0 : (Int × (Int × Int))) : ((Int × Int) × ((Int × Int) × (Int × Int))) := (t_matrix_Point a0).val
theorem run_matrix_Point : ∀ x, runF (mkC btys beqs [(90, hd_interval_Of)] [] noLoops) 200 66 Try.f66 (argsA [.pair (.int .i64) (.pair (.int .i64) (.int .i64))] x) [] (fun v h => toRes h [.pair (.pair (.int .i64) (.int .i64)) (.pair (.pair (.int .i64) (.int .i64)) (.pair (.int .i64) (.int .i64)))] v) = (t_matrix_Point x.1).optA (fun r => (r, ())) := by
  intro x; kernel_rfl
theorem fn_matrix_Point : FnOk Try.prog 66 [.pair (.int .i64) (.pair (.int .i64) (.int .i64))] [.pair (.pair (.int .i64) (.int .i64)) (.pair (.pair (.int .i64) (.int .i64)) (.pair (.int .i64) (.int .i64)))] (fun x => some ((fun r => (r, ())) (matrix_Point x.1))) :=
  fn_tot (t := fun (x : Ar [.pair (.int .i64) (.pair (.int .i64) (.int .i64))]) => t_matrix_Point x.1) (R := ((Int × Int) × ((Int × Int) × (Int × Int)))) (Ts := [.pair (.pair (.int .i64) (.int .i64)) (.pair (.pair (.int .i64) (.int .i64)) (.pair (.int .i64) (.int .i64)))]) (mk := (fun r => (r, ()))) (mkC_ok btys_ok beqs_ok (fns_cons ok_interval_Of (fns_nil _)) (inl_nil _) noLoops_ok mixed) Try.func66 run_matrix_Point (fun _ => by kernel_rfl)
def hd_matrix_Point : Hd := dataHd [.pair (.int .i64) (.pair (.int .i64) (.int .i64))] [.pair (.pair (.int .i64) (.int .i64)) (.pair (.pair (.int .i64) (.int .i64)) (.pair (.int .i64) (.int .i64)))] (fun x => some ((fun r => (r, ())) (matrix_Point x.1)))
theorem ok_matrix_Point : HdOk Try.prog 66 hd_matrix_Point.sem ∧ Enters Try.prog 66 := data_ok fn_matrix_Point Try.func66 (by kernel_rfl) (by kernel_rfl)

/- armplan/armplanref1.Turn -/
def t_armplanref1_Turn (a0 : Int) (a1 : (Int × Int)) : Tr (((Int × Int) × ((Int × Int) × (Int × Int))) × (((Int × Int) × ((Int × Int) × (Int × Int))) × ((Int × Int) × ((Int × Int) × (Int × Int))))) :=
  let r1 : Bool := armplanref1_Valid a1
  .br ((!r1)) (
   .leaf (((0, 0), ((0, 0), (0, 0))), (((0, 0), ((0, 0), (0, 0))), ((0, 0), ((0, 0), (0, 0)))))) (
   let r2 : (Int × Int) := armplanref1_Of 65536
   let r3 : (Int × Int) := armplanref1_CosOver a1
   let r4 : (Int × Int) := armplanref1_SinOver a1
   let r5 : (Int × Int) := armplanref1_Neg r4
   let x6 : Bool := decide (a0 = 0)
   .br (x6) (
    .leaf ((r2, ((0, 0), (0, 0))), (((0, 0), (r3, r5)), ((0, 0), (r4, r3))))) (
    let x7 : Bool := decide (a0 = 1)
    .br (x7) (
     .leaf ((r3, ((0, 0), r4)), (((0, 0), (r2, (0, 0))), (r5, ((0, 0), r3))))) (
     let x8 : Bool := decide (a0 = 2)
     .br (x8) (
      .leaf ((r3, (r5, (0, 0))), ((r4, (r3, (0, 0))), ((0, 0), ((0, 0), r2))))) (
      .leaf (((0, 0), ((0, 0), (0, 0))), (((0, 0), ((0, 0), (0, 0))), ((0, 0), ((0, 0), (0, 0)))))))))
def armplanref1_Turn (a0 : Int) (a1 : (Int × Int)) : (((Int × Int) × ((Int × Int) × (Int × Int))) × (((Int × Int) × ((Int × Int) × (Int × Int))) × ((Int × Int) × ((Int × Int) × (Int × Int))))) := (t_armplanref1_Turn a0 a1).val
theorem run_armplanref1_Turn : ∀ x, runF (mkC btys beqs [(21, hd_armplanref1_Of), (63, hd_armplanref1_Valid), (97, hd_armplanref1_CosOver), (98, hd_armplanref1_SinOver), (99, hd_armplanref1_Neg)] [] noLoops) 200 71 Try.f71 (argsA [.int .i64, .pair (.int .i64) (.int .i64)] x) [] (fun v h => toRes h [.pair (.pair (.pair (.int .i64) (.int .i64)) (.pair (.pair (.int .i64) (.int .i64)) (.pair (.int .i64) (.int .i64)))) (.pair (.pair (.pair (.int .i64) (.int .i64)) (.pair (.pair (.int .i64) (.int .i64)) (.pair (.int .i64) (.int .i64)))) (.pair (.pair (.int .i64) (.int .i64)) (.pair (.pair (.int .i64) (.int .i64)) (.pair (.int .i64) (.int .i64)))))] v) = (t_armplanref1_Turn x.1 x.2.1).optA (fun r => (r, ())) := by
  intro x; kernel_rfl
theorem fn_armplanref1_Turn : FnOk Try.prog 71 [.int .i64, .pair (.int .i64) (.int .i64)] [.pair (.pair (.pair (.int .i64) (.int .i64)) (.pair (.pair (.int .i64) (.int .i64)) (.pair (.int .i64) (.int .i64)))) (.pair (.pair (.pair (.int .i64) (.int .i64)) (.pair (.pair (.int .i64) (.int .i64)) (.pair (.int .i64) (.int .i64)))) (.pair (.pair (.int .i64) (.int .i64)) (.pair (.pair (.int .i64) (.int .i64)) (.pair (.int .i64) (.int .i64)))))] (fun x => some ((fun r => (r, ())) (armplanref1_Turn x.1 x.2.1))) :=
  fn_tot (t := fun (x : Ar [.int .i64, .pair (.int .i64) (.int .i64)]) => t_armplanref1_Turn x.1 x.2.1) (R := (((Int × Int) × ((Int × Int) × (Int × Int))) × (((Int × Int) × ((Int × Int) × (Int × Int))) × ((Int × Int) × ((Int × Int) × (Int × Int)))))) (Ts := [.pair (.pair (.pair (.int .i64) (.int .i64)) (.pair (.pair (.int .i64) (.int .i64)) (.pair (.int .i64) (.int .i64)))) (.pair (.pair (.pair (.int .i64) (.int .i64)) (.pair (.pair (.int .i64) (.int .i64)) (.pair (.int .i64) (.int .i64)))) (.pair (.pair (.int .i64) (.int .i64)) (.pair (.pair (.int .i64) (.int .i64)) (.pair (.int .i64) (.int .i64)))))]) (mk := (fun r => (r, ()))) (mkC_ok btys_ok beqs_ok (fns_cons ok_armplanref1_Of (fns_cons ok_armplanref1_Valid (fns_cons ok_armplanref1_CosOver (fns_cons ok_armplanref1_SinOver (fns_cons ok_armplanref1_Neg (fns_nil _)))))) (inl_nil _) noLoops_ok mixed) Try.func71 run_armplanref1_Turn (fun _ => by kernel_rfl)
def hd_armplanref1_Turn : Hd := dataHd [.int .i64, .pair (.int .i64) (.int .i64)] [.pair (.pair (.pair (.int .i64) (.int .i64)) (.pair (.pair (.int .i64) (.int .i64)) (.pair (.int .i64) (.int .i64)))) (.pair (.pair (.pair (.int .i64) (.int .i64)) (.pair (.pair (.int .i64) (.int .i64)) (.pair (.int .i64) (.int .i64)))) (.pair (.pair (.int .i64) (.int .i64)) (.pair (.pair (.int .i64) (.int .i64)) (.pair (.int .i64) (.int .i64)))))] (fun x => some ((fun r => (r, ())) (armplanref1_Turn x.1 x.2.1)))
theorem ok_armplanref1_Turn : HdOk Try.prog 71 hd_armplanref1_Turn.sem ∧ Enters Try.prog 71 := data_ok fn_armplanref1_Turn Try.func71 (by kernel_rfl) (by kernel_rfl)

end Go.RX

/-
  The contracts of functions.
-/
namespace Go.RX
open Go.Proofs

def ctys : List (Nat × TRow) := [(2, ⟨.int .i64, 1, 8, [.int .i64 0], .int .i64⟩),
  (3, ⟨.int .i64, 1, 8, [.int .i64 0], .int .i64⟩),
  (22, ⟨.slice 3, 1, 24, [.slice none 0 0], .list (.int .i64)⟩),
  (26, ⟨.struct [(0, 1), (1, 1)], 2, 16, [.int .i64 0, .int .i64 0], .pair (.int .i64) (.int .i64)⟩),
  (27, ⟨.arr 3 26, 6, 48, [.int .i64 0, .int .i64 0, .int .i64 0, .int .i64 0, .int .i64 0, .int .i64 0], .pair (.pair (.int .i64) (.int .i64)) (.pair (.pair (.int .i64) (.int .i64)) (.pair (.int .i64) (.int .i64)))⟩),
  (28, ⟨.arr 3 26, 6, 48, [.int .i64 0, .int .i64 0, .int .i64 0, .int .i64 0, .int .i64 0, .int .i64 0], .pair (.pair (.int .i64) (.int .i64)) (.pair (.pair (.int .i64) (.int .i64)) (.pair (.int .i64) (.int .i64)))⟩),
  (32, ⟨.arr 3 2, 3, 24, [.int .i64 0, .int .i64 0, .int .i64 0], .pair (.int .i64) (.pair (.int .i64) (.int .i64))⟩),
  (35, ⟨.arr 3 27, 18, 144, [.int .i64 0, .int .i64 0, .int .i64 0, .int .i64 0, .int .i64 0, .int .i64 0, .int .i64 0, .int .i64 0, .int .i64 0, .int .i64 0, .int .i64 0, .int .i64 0, .int .i64 0, .int .i64 0, .int .i64 0, .int .i64 0, .int .i64 0, .int .i64 0], .pair (.pair (.pair (.int .i64) (.int .i64)) (.pair (.pair (.int .i64) (.int .i64)) (.pair (.int .i64) (.int .i64)))) (.pair (.pair (.pair (.int .i64) (.int .i64)) (.pair (.pair (.int .i64) (.int .i64)) (.pair (.int .i64) (.int .i64)))) (.pair (.pair (.int .i64) (.int .i64)) (.pair (.pair (.int .i64) (.int .i64)) (.pair (.int .i64) (.int .i64)))))⟩),
  (91, ⟨.struct [(0, 1), (1, 1)], 2, 32, [.slice none 0 0, .int .i64 0], .pair (.list (.int .i64)) (.int .i64)⟩),
  (110, ⟨.int .u64, 1, 8, [.int .u64 0], .int .u64⟩)]
def ceqs : List (Nat × (Bool × List TK)) := []
theorem ctys_ok : tableOk Try.prog ctys = true := by kernel_rfl
theorem ceqs_ok : eqsOk Try.prog ceqs = true := by kernel_rfl

/- (*armplan/armplanmake.Source).Next -/
def t_armplanmake_Source_Next (a0 : (List (Int) × Int)) (a1 : Int) : Tr (Int × (List (Int) × Int)) :=
  let x1 : Bool := decide (((a0.1.length : Nat) : Int) ≤ a0.2)
  .br (x1) (
   .leaf (0, a0)) (
   let x2 : Int := IntKind.wrap .i64 (a0.2 + 1)
   let x3 : Int := IntKind.wrap .i64 (x2 - 1)
   .br (decide (0 ≤ x3) && decide (x3 < ((a0.1.length : Nat) : Int))) (
    let r4 : Int := armplanmake_Round (List.getD a0.1 x3.toNat (Ty.dflt (.int .i64))) a1
    .br (dom_armplanmake_Round (List.getD a0.1 x3.toNat (Ty.dflt (.int .i64))) a1) (
     .leaf (r4, (a0.1, x2))) .fail) .fail)
def armplanmake_Source_Next (a0 : (List (Int) × Int)) (a1 : Int) : (Int × (List (Int) × Int)) := (t_armplanmake_Source_Next a0 a1).val
def dom_armplanmake_Source_Next (a0 : (List (Int) × Int)) (a1 : Int) : Bool := (t_armplanmake_Source_Next a0 a1).dom
theorem run_armplanmake_Source_Next : ∀ x, runF (mkC ctys ceqs [(36, hd_armplanmake_Round)] [] noLoops) 200 20 Try.f20 (mkT id [⟨[0], true, false, [.d (.pair (.list (.int .i64)) (.int .i64))]⟩, ⟨[1], false, false, [.d (.int .i64)]⟩] x 0 (List.replicate 2 .top)) (mkH id [⟨[0], true, false, [.d (.pair (.list (.int .i64)) (.int .i64))]⟩, ⟨[1], false, false, [.d (.int .i64)]⟩] x 0) (endS [.int .i64] [⟨[], true, false, [.d (.pair (.list (.int .i64)) (.int .i64))]⟩]) = (t_armplanmake_Source_Next x.1.1 x.2.1.1).optA (fun (r : (Int × (List (Int) × Int))) => ((r.1, ()), ((r.2, ()), ()))) := by
  intro x; kernel_rfl
def hd_armplanmake_Source_Next : Hd := hdS 2 [⟨[0], true, false, [.d (.pair (.list (.int .i64)) (.int .i64))]⟩, ⟨[1], false, false, [.d (.int .i64)]⟩] [⟨[], true, false, [.d (.pair (.list (.int .i64)) (.int .i64))]⟩] [.int .i64] (fun x => dom_armplanmake_Source_Next x.1.1 x.2.1.1) (fun x => (fun (r : (Int × (List (Int) × Int))) => ((r.1, ()), ((r.2, ()), ()))) (armplanmake_Source_Next x.1.1 x.2.1.1)) (by kernel_rfl)
theorem fn_armplanmake_Source_Next : FnS Try.prog 20 2 [⟨[0], true, false, [.d (.pair (.list (.int .i64)) (.int .i64))]⟩, ⟨[1], false, false, [.d (.int .i64)]⟩] [⟨[], true, false, [.d (.pair (.list (.int .i64)) (.int .i64))]⟩] [.int .i64] (fun x => bif (fun x => dom_armplanmake_Source_Next x.1.1 x.2.1.1) x then some ((fun x => (fun (r : (Int × (List (Int) × Int))) => ((r.1, ()), ((r.2, ()), ()))) (armplanmake_Source_Next x.1.1 x.2.1.1)) x) else none) :=
  fnS_tree (np := 2) (ss := [⟨[0], true, false, [.d (.pair (.list (.int .i64)) (.int .i64))]⟩, ⟨[1], false, false, [.d (.int .i64)]⟩]) (ss1 := [⟨[], true, false, [.d (.pair (.list (.int .i64)) (.int .i64))]⟩]) (Ts := [.int .i64]) (R := (Int × (List (Int) × Int))) (dom := fun x => dom_armplanmake_Source_Next x.1.1 x.2.1.1) (t := fun (x : Sl [⟨[0], true, false, [.d (.pair (.list (.int .i64)) (.int .i64))]⟩, ⟨[1], false, false, [.d (.int .i64)]⟩]) => t_armplanmake_Source_Next x.1.1 x.2.1.1) (mk := (fun (r : (Int × (List (Int) × Int))) => ((r.1, ()), ((r.2, ()), ())))) (mkC_ok ctys_ok ceqs_ok (fns_cons ok_armplanmake_Round (fns_nil _)) (inl_nil _) noLoops_ok mixed) Try.func20 (by kernel_rfl) run_armplanmake_Source_Next (fun _ => .inr rfl)
theorem ok_armplanmake_Source_Next : HdOk Try.prog 20 hd_armplanmake_Source_Next.sem ∧ Enters Try.prog 20 := ⟨hdS_ok (by kernel_rfl) fn_armplanmake_Source_Next, _, Try.func20, by kernel_rfl, by kernel_rfl⟩

/- (*armplan/armplanmake.Source).Signed -/
def t_armplanmake_Source_Signed (a0 : (List (Int) × Int)) (a1 : Int) : Tr (Int × (List (Int) × Int)) :=
  let x1 : Int := IntKind.wrap .i64 (2 * a1)
  let x2 : Int := IntKind.wrap .i64 (x1 + 1)
  let r3 : (Int × (List (Int) × Int)) := armplanmake_Source_Next a0 x2
  .br (dom_armplanmake_Source_Next a0 x2) (
   let x4 : Int := IntKind.wrap .i64 (r3.1 - a1)
   .leaf (x4, r3.2)) .fail
def armplanmake_Source_Signed (a0 : (List (Int) × Int)) (a1 : Int) : (Int × (List (Int) × Int)) := (t_armplanmake_Source_Signed a0 a1).val
def dom_armplanmake_Source_Signed (a0 : (List (Int) × Int)) (a1 : Int) : Bool := (t_armplanmake_Source_Signed a0 a1).dom
theorem run_armplanmake_Source_Signed : ∀ x, runF (mkC ctys ceqs [(20, hd_armplanmake_Source_Next)] [] noLoops) 200 17 Try.f17 (mkT id [⟨[0], true, false, [.d (.pair (.list (.int .i64)) (.int .i64))]⟩, ⟨[1], false, false, [.d (.int .i64)]⟩] x 0 (List.replicate 2 .top)) (mkH id [⟨[0], true, false, [.d (.pair (.list (.int .i64)) (.int .i64))]⟩, ⟨[1], false, false, [.d (.int .i64)]⟩] x 0) (endS [.int .i64] [⟨[], true, false, [.d (.pair (.list (.int .i64)) (.int .i64))]⟩]) = (t_armplanmake_Source_Signed x.1.1 x.2.1.1).optA (fun (r : (Int × (List (Int) × Int))) => ((r.1, ()), ((r.2, ()), ()))) := by
  intro x; kernel_rfl
def hd_armplanmake_Source_Signed : Hd := hdS 2 [⟨[0], true, false, [.d (.pair (.list (.int .i64)) (.int .i64))]⟩, ⟨[1], false, false, [.d (.int .i64)]⟩] [⟨[], true, false, [.d (.pair (.list (.int .i64)) (.int .i64))]⟩] [.int .i64] (fun x => dom_armplanmake_Source_Signed x.1.1 x.2.1.1) (fun x => (fun (r : (Int × (List (Int) × Int))) => ((r.1, ()), ((r.2, ()), ()))) (armplanmake_Source_Signed x.1.1 x.2.1.1)) (by kernel_rfl)
theorem fn_armplanmake_Source_Signed : FnS Try.prog 17 2 [⟨[0], true, false, [.d (.pair (.list (.int .i64)) (.int .i64))]⟩, ⟨[1], false, false, [.d (.int .i64)]⟩] [⟨[], true, false, [.d (.pair (.list (.int .i64)) (.int .i64))]⟩] [.int .i64] (fun x => bif (fun x => dom_armplanmake_Source_Signed x.1.1 x.2.1.1) x then some ((fun x => (fun (r : (Int × (List (Int) × Int))) => ((r.1, ()), ((r.2, ()), ()))) (armplanmake_Source_Signed x.1.1 x.2.1.1)) x) else none) :=
  fnS_tree (np := 2) (ss := [⟨[0], true, false, [.d (.pair (.list (.int .i64)) (.int .i64))]⟩, ⟨[1], false, false, [.d (.int .i64)]⟩]) (ss1 := [⟨[], true, false, [.d (.pair (.list (.int .i64)) (.int .i64))]⟩]) (Ts := [.int .i64]) (R := (Int × (List (Int) × Int))) (dom := fun x => dom_armplanmake_Source_Signed x.1.1 x.2.1.1) (t := fun (x : Sl [⟨[0], true, false, [.d (.pair (.list (.int .i64)) (.int .i64))]⟩, ⟨[1], false, false, [.d (.int .i64)]⟩]) => t_armplanmake_Source_Signed x.1.1 x.2.1.1) (mk := (fun (r : (Int × (List (Int) × Int))) => ((r.1, ()), ((r.2, ()), ())))) (mkC_ok ctys_ok ceqs_ok (fns_cons ok_armplanmake_Source_Next (fns_nil _)) (inl_nil _) noLoops_ok mixed) Try.func17 (by kernel_rfl) run_armplanmake_Source_Signed (fun _ => .inr rfl)
theorem ok_armplanmake_Source_Signed : HdOk Try.prog 17 hd_armplanmake_Source_Signed.sem ∧ Enters Try.prog 17 := ⟨hdS_ok (by kernel_rfl) fn_armplanmake_Source_Signed, _, Try.func17, by kernel_rfl, by kernel_rfl⟩

/- armplan/matrix.Add -/
def t_matrix_Add (a0 : ((Int × Int) × ((Int × Int) × (Int × Int)))) (a1 : ((Int × Int) × ((Int × Int) × (Int × Int)))) : Tr ((Int × Int) × ((Int × Int) × (Int × Int))) :=
  let r1 : (Int × Int) := interval_Add a0.1 a1.1
  let r2 : (Int × Int) := interval_Add a0.2.1 a1.2.1
  let r3 : (Int × Int) := interval_Add a0.2.2 a1.2.2
  .leaf (r1, (r2, r3))
def matrix_Add (a0 : ((Int × Int) × ((Int × Int) × (Int × Int)))) (a1 : ((Int × Int) × ((Int × Int) × (Int × Int)))) : ((Int × Int) × ((Int × Int) × (Int × Int))) := (t_matrix_Add a0 a1).val
theorem run_matrix_Add : ∀ x, runF (mkC ctys ceqs [(86, hd_interval_Add)] [] noLoops) 200 96 Try.f96 (argsA [.pair (.pair (.int .i64) (.int .i64)) (.pair (.pair (.int .i64) (.int .i64)) (.pair (.int .i64) (.int .i64))), .pair (.pair (.int .i64) (.int .i64)) (.pair (.pair (.int .i64) (.int .i64)) (.pair (.int .i64) (.int .i64)))] x) [] (fun v h => toRes h [.pair (.pair (.int .i64) (.int .i64)) (.pair (.pair (.int .i64) (.int .i64)) (.pair (.int .i64) (.int .i64)))] v) = (t_matrix_Add x.1 x.2.1).optA (fun r => (r, ())) := by
  intro x; kernel_rfl
theorem fn_matrix_Add : FnOk Try.prog 96 [.pair (.pair (.int .i64) (.int .i64)) (.pair (.pair (.int .i64) (.int .i64)) (.pair (.int .i64) (.int .i64))), .pair (.pair (.int .i64) (.int .i64)) (.pair (.pair (.int .i64) (.int .i64)) (.pair (.int .i64) (.int .i64)))] [.pair (.pair (.int .i64) (.int .i64)) (.pair (.pair (.int .i64) (.int .i64)) (.pair (.int .i64) (.int .i64)))] (fun x => some ((fun r => (r, ())) (matrix_Add x.1 x.2.1))) :=
  fn_tot (t := fun (x : Ar [.pair (.pair (.int .i64) (.int .i64)) (.pair (.pair (.int .i64) (.int .i64)) (.pair (.int .i64) (.int .i64))), .pair (.pair (.int .i64) (.int .i64)) (.pair (.pair (.int .i64) (.int .i64)) (.pair (.int .i64) (.int .i64)))]) => t_matrix_Add x.1 x.2.1) (R := ((Int × Int) × ((Int × Int) × (Int × Int)))) (Ts := [.pair (.pair (.int .i64) (.int .i64)) (.pair (.pair (.int .i64) (.int .i64)) (.pair (.int .i64) (.int .i64)))]) (mk := (fun r => (r, ()))) (mkC_ok ctys_ok ceqs_ok (fns_cons ok_interval_Add (fns_nil _)) (inl_nil _) noLoops_ok mixed) Try.func96 run_matrix_Add (fun _ => by kernel_rfl)
def hd_matrix_Add : Hd := dataHd [.pair (.pair (.int .i64) (.int .i64)) (.pair (.pair (.int .i64) (.int .i64)) (.pair (.int .i64) (.int .i64))), .pair (.pair (.int .i64) (.int .i64)) (.pair (.pair (.int .i64) (.int .i64)) (.pair (.int .i64) (.int .i64)))] [.pair (.pair (.int .i64) (.int .i64)) (.pair (.pair (.int .i64) (.int .i64)) (.pair (.int .i64) (.int .i64)))] (fun x => some ((fun r => (r, ())) (matrix_Add x.1 x.2.1)))
theorem ok_matrix_Add : HdOk Try.prog 96 hd_matrix_Add.sem ∧ Enters Try.prog 96 := data_ok fn_matrix_Add Try.func96 (by kernel_rfl) (by kernel_rfl)

/- armplan/armplanref1.AddVec -/
def t_armplanref1_AddVec (a0 : ((Int × Int) × ((Int × Int) × (Int × Int)))) (a1 : ((Int × Int) × ((Int × Int) × (Int × Int)))) : Tr ((Int × Int) × ((Int × Int) × (Int × Int))) :=
  let r1 : (Int × Int) := armplanref1_Add a0.1 a1.1
  let r2 : (Int × Int) := armplanref1_Add a0.2.1 a1.2.1
  let r3 : (Int × Int) := armplanref1_Add a0.2.2 a1.2.2
  .leaf (r1, (r2, r3))
def armplanref1_AddVec (a0 : ((Int × Int) × ((Int × Int) × (Int × Int)))) (a1 : ((Int × Int) × ((Int × Int) × (Int × Int)))) : ((Int × Int) × ((Int × Int) × (Int × Int))) := (t_armplanref1_AddVec a0 a1).val
theorem run_armplanref1_AddVec : ∀ x, runF (mkC ctys ceqs [(64, hd_armplanref1_Add)] [] noLoops) 200 35 Try.f35 (argsA [.pair (.pair (.int .i64) (.int .i64)) (.pair (.pair (.int .i64) (.int .i64)) (.pair (.int .i64) (.int .i64))), .pair (.pair (.int .i64) (.int .i64)) (.pair (.pair (.int .i64) (.int .i64)) (.pair (.int .i64) (.int .i64)))] x) [] (fun v h => toRes h [.pair (.pair (.int .i64) (.int .i64)) (.pair (.pair (.int .i64) (.int .i64)) (.pair (.int .i64) (.int .i64)))] v) = (t_armplanref1_AddVec x.1 x.2.1).optA (fun r => (r, ())) := by
  intro x; kernel_rfl
theorem fn_armplanref1_AddVec : FnOk Try.prog 35 [.pair (.pair (.int .i64) (.int .i64)) (.pair (.pair (.int .i64) (.int .i64)) (.pair (.int .i64) (.int .i64))), .pair (.pair (.int .i64) (.int .i64)) (.pair (.pair (.int .i64) (.int .i64)) (.pair (.int .i64) (.int .i64)))] [.pair (.pair (.int .i64) (.int .i64)) (.pair (.pair (.int .i64) (.int .i64)) (.pair (.int .i64) (.int .i64)))] (fun x => some ((fun r => (r, ())) (armplanref1_AddVec x.1 x.2.1))) :=
  fn_tot (t := fun (x : Ar [.pair (.pair (.int .i64) (.int .i64)) (.pair (.pair (.int .i64) (.int .i64)) (.pair (.int .i64) (.int .i64))), .pair (.pair (.int .i64) (.int .i64)) (.pair (.pair (.int .i64) (.int .i64)) (.pair (.int .i64) (.int .i64)))]) => t_armplanref1_AddVec x.1 x.2.1) (R := ((Int × Int) × ((Int × Int) × (Int × Int)))) (Ts := [.pair (.pair (.int .i64) (.int .i64)) (.pair (.pair (.int .i64) (.int .i64)) (.pair (.int .i64) (.int .i64)))]) (mk := (fun r => (r, ()))) (mkC_ok ctys_ok ceqs_ok (fns_cons ok_armplanref1_Add (fns_nil _)) (inl_nil _) noLoops_ok mixed) Try.func35 run_armplanref1_AddVec (fun _ => by kernel_rfl)
def hd_armplanref1_AddVec : Hd := dataHd [.pair (.pair (.int .i64) (.int .i64)) (.pair (.pair (.int .i64) (.int .i64)) (.pair (.int .i64) (.int .i64))), .pair (.pair (.int .i64) (.int .i64)) (.pair (.pair (.int .i64) (.int .i64)) (.pair (.int .i64) (.int .i64)))] [.pair (.pair (.int .i64) (.int .i64)) (.pair (.pair (.int .i64) (.int .i64)) (.pair (.int .i64) (.int .i64)))] (fun x => some ((fun r => (r, ())) (armplanref1_AddVec x.1 x.2.1)))
theorem ok_armplanref1_AddVec : HdOk Try.prog 35 hd_armplanref1_AddVec.sem ∧ Enters Try.prog 35 := data_ok fn_armplanref1_AddVec Try.func35 (by kernel_rfl) (by kernel_rfl)

/- armplan/armplanref1.ApplyMat -/
def t_armplanref1_ApplyMat (a0 : (((Int × Int) × ((Int × Int) × (Int × Int))) × (((Int × Int) × ((Int × Int) × (Int × Int))) × ((Int × Int) × ((Int × Int) × (Int × Int)))))) (a1 : ((Int × Int) × ((Int × Int) × (Int × Int)))) : Tr ((Int × Int) × ((Int × Int) × (Int × Int))) :=
  let r1 : (Int × Int) := armplanref1_Mul a0.1.1 a1.1
  let r2 : (Int × Int) := armplanref1_Mul a0.1.2.1 a1.2.1
  let r3 : (Int × Int) := armplanref1_Add r1 r2
  let r4 : (Int × Int) := armplanref1_Mul a0.1.2.2 a1.2.2
  let r5 : (Int × Int) := armplanref1_Add r3 r4
  let r6 : (Int × Int) := armplanref1_Mul a0.2.1.1 a1.1
  let r7 : (Int × Int) := armplanref1_Mul a0.2.1.2.1 a1.2.1
  let r8 : (Int × Int) := armplanref1_Add r6 r7
  let r9 : (Int × Int) := armplanref1_Mul a0.2.1.2.2 a1.2.2
  let r10 : (Int × Int) := armplanref1_Add r8 r9
  let r11 : (Int × Int) := armplanref1_Mul a0.2.2.1 a1.1
  let r12 : (Int × Int) := armplanref1_Mul a0.2.2.2.1 a1.2.1
  let r13 : (Int × Int) := armplanref1_Add r11 r12
  let r14 : (Int × Int) := armplanref1_Mul a0.2.2.2.2 a1.2.2
  let r15 : (Int × Int) := armplanref1_Add r13 r14
  .leaf (r5, (r10, r15))
def armplanref1_ApplyMat (a0 : (((Int × Int) × ((Int × Int) × (Int × Int))) × (((Int × Int) × ((Int × Int) × (Int × Int))) × ((Int × Int) × ((Int × Int) × (Int × Int)))))) (a1 : ((Int × Int) × ((Int × Int) × (Int × Int)))) : ((Int × Int) × ((Int × Int) × (Int × Int))) := (t_armplanref1_ApplyMat a0 a1).val
theorem run_armplanref1_ApplyMat : ∀ x, runF (mkC ctys ceqs [(64, hd_armplanref1_Add), (100, hd_armplanref1_Mul)] [] noLoops) 200 73 Try.f73 (argsA [.pair (.pair (.pair (.int .i64) (.int .i64)) (.pair (.pair (.int .i64) (.int .i64)) (.pair (.int .i64) (.int .i64)))) (.pair (.pair (.pair (.int .i64) (.int .i64)) (.pair (.pair (.int .i64) (.int .i64)) (.pair (.int .i64) (.int .i64)))) (.pair (.pair (.int .i64) (.int .i64)) (.pair (.pair (.int .i64) (.int .i64)) (.pair (.int .i64) (.int .i64))))), .pair (.pair (.int .i64) (.int .i64)) (.pair (.pair (.int .i64) (.int .i64)) (.pair (.int .i64) (.int .i64)))] x) [] (fun v h => toRes h [.pair (.pair (.int .i64) (.int .i64)) (.pair (.pair (.int .i64) (.int .i64)) (.pair (.int .i64) (.int .i64)))] v) = (t_armplanref1_ApplyMat x.1 x.2.1).optA (fun r => (r, ())) := by
  intro x; kernel_rfl
theorem fn_armplanref1_ApplyMat : FnOk Try.prog 73 [.pair (.pair (.pair (.int .i64) (.int .i64)) (.pair (.pair (.int .i64) (.int .i64)) (.pair (.int .i64) (.int .i64)))) (.pair (.pair (.pair (.int .i64) (.int .i64)) (.pair (.pair (.int .i64) (.int .i64)) (.pair (.int .i64) (.int .i64)))) (.pair (.pair (.int .i64) (.int .i64)) (.pair (.pair (.int .i64) (.int .i64)) (.pair (.int .i64) (.int .i64))))), .pair (.pair (.int .i64) (.int .i64)) (.pair (.pair (.int .i64) (.int .i64)) (.pair (.int .i64) (.int .i64)))] [.pair (.pair (.int .i64) (.int .i64)) (.pair (.pair (.int .i64) (.int .i64)) (.pair (.int .i64) (.int .i64)))] (fun x => some ((fun r => (r, ())) (armplanref1_ApplyMat x.1 x.2.1))) :=
  fn_tot (t := fun (x : Ar [.pair (.pair (.pair (.int .i64) (.int .i64)) (.pair (.pair (.int .i64) (.int .i64)) (.pair (.int .i64) (.int .i64)))) (.pair (.pair (.pair (.int .i64) (.int .i64)) (.pair (.pair (.int .i64) (.int .i64)) (.pair (.int .i64) (.int .i64)))) (.pair (.pair (.int .i64) (.int .i64)) (.pair (.pair (.int .i64) (.int .i64)) (.pair (.int .i64) (.int .i64))))), .pair (.pair (.int .i64) (.int .i64)) (.pair (.pair (.int .i64) (.int .i64)) (.pair (.int .i64) (.int .i64)))]) => t_armplanref1_ApplyMat x.1 x.2.1) (R := ((Int × Int) × ((Int × Int) × (Int × Int)))) (Ts := [.pair (.pair (.int .i64) (.int .i64)) (.pair (.pair (.int .i64) (.int .i64)) (.pair (.int .i64) (.int .i64)))]) (mk := (fun r => (r, ()))) (mkC_ok ctys_ok ceqs_ok (fns_cons ok_armplanref1_Add (fns_cons ok_armplanref1_Mul (fns_nil _))) (inl_nil _) noLoops_ok mixed) Try.func73 run_armplanref1_ApplyMat (fun _ => by kernel_rfl)
def hd_armplanref1_ApplyMat : Hd := dataHd [.pair (.pair (.pair (.int .i64) (.int .i64)) (.pair (.pair (.int .i64) (.int .i64)) (.pair (.int .i64) (.int .i64)))) (.pair (.pair (.pair (.int .i64) (.int .i64)) (.pair (.pair (.int .i64) (.int .i64)) (.pair (.int .i64) (.int .i64)))) (.pair (.pair (.int .i64) (.int .i64)) (.pair (.pair (.int .i64) (.int .i64)) (.pair (.int .i64) (.int .i64))))), .pair (.pair (.int .i64) (.int .i64)) (.pair (.pair (.int .i64) (.int .i64)) (.pair (.int .i64) (.int .i64)))] [.pair (.pair (.int .i64) (.int .i64)) (.pair (.pair (.int .i64) (.int .i64)) (.pair (.int .i64) (.int .i64)))] (fun x => some ((fun r => (r, ())) (armplanref1_ApplyMat x.1 x.2.1)))
theorem ok_armplanref1_ApplyMat : HdOk Try.prog 73 hd_armplanref1_ApplyMat.sem ∧ Enters Try.prog 73 := data_ok fn_armplanref1_ApplyMat Try.func73 (by kernel_rfl) (by kernel_rfl)

/- armplan/matrix.Transpose -/
def t_matrix_Transpose (a0 : (((Int × Int) × ((Int × Int) × (Int × Int))) × (((Int × Int) × ((Int × Int) × (Int × Int))) × ((Int × Int) × ((Int × Int) × (Int × Int)))))) : Tr (((Int × Int) × ((Int × Int) × (Int × Int))) × (((Int × Int) × ((Int × Int) × (Int × Int))) × ((Int × Int) × ((Int × Int) × (Int × Int))))) :=
  .leaf ((a0.1.1, (a0.2.1.1, a0.2.2.1)), ((a0.1.2.1, (a0.2.1.2.1, a0.2.2.2.1)), (a0.1.2.2, (a0.2.1.2.2, a0.2.2.2.2))))
def matrix_Transpose (a0 : (((Int × Int) × ((Int × Int) × (Int × Int))) × (((Int × Int) × ((Int × Int) × (Int × Int))) × ((Int × Int) × ((Int × Int) × (Int × Int)))))) : (((Int × Int) × ((Int × Int) × (Int × Int))) × (((Int × Int) × ((Int × Int) × (Int × Int))) × ((Int × Int) × ((Int × Int) × (Int × Int))))) := (t_matrix_Transpose a0).val
theorem run_matrix_Transpose : ∀ x, runF (mkC ctys ceqs [] [] noLoops) 200 28 Try.f28 (argsA [.pair (.pair (.pair (.int .i64) (.int .i64)) (.pair (.pair (.int .i64) (.int .i64)) (.pair (.int .i64) (.int .i64)))) (.pair (.pair (.pair (.int .i64) (.int .i64)) (.pair (.pair (.int .i64) (.int .i64)) (.pair (.int .i64) (.int .i64)))) (.pair (.pair (.int .i64) (.int .i64)) (.pair (.pair (.int .i64) (.int .i64)) (.pair (.int .i64) (.int .i64)))))] x) [] (fun v h => toRes h [.pair (.pair (.pair (.int .i64) (.int .i64)) (.pair (.pair (.int .i64) (.int .i64)) (.pair (.int .i64) (.int .i64)))) (.pair (.pair (.pair (.int .i64) (.int .i64)) (.pair (.pair (.int .i64) (.int .i64)) (.pair (.int .i64) (.int .i64)))) (.pair (.pair (.int .i64) (.int .i64)) (.pair (.pair (.int .i64) (.int .i64)) (.pair (.int .i64) (.int .i64)))))] v) = (t_matrix_Transpose x.1).optA (fun r => (r, ())) := by
  intro x; kernel_rfl
theorem fn_matrix_Transpose : FnOk Try.prog 28 [.pair (.pair (.pair (.int .i64) (.int .i64)) (.pair (.pair (.int .i64) (.int .i64)) (.pair (.int .i64) (.int .i64)))) (.pair (.pair (.pair (.int .i64) (.int .i64)) (.pair (.pair (.int .i64) (.int .i64)) (.pair (.int .i64) (.int .i64)))) (.pair (.pair (.int .i64) (.int .i64)) (.pair (.pair (.int .i64) (.int .i64)) (.pair (.int .i64) (.int .i64)))))] [.pair (.pair (.pair (.int .i64) (.int .i64)) (.pair (.pair (.int .i64) (.int .i64)) (.pair (.int .i64) (.int .i64)))) (.pair (.pair (.pair (.int .i64) (.int .i64)) (.pair (.pair (.int .i64) (.int .i64)) (.pair (.int .i64) (.int .i64)))) (.pair (.pair (.int .i64) (.int .i64)) (.pair (.pair (.int .i64) (.int .i64)) (.pair (.int .i64) (.int .i64)))))] (fun x => some ((fun r => (r, ())) (matrix_Transpose x.1))) :=
  fn_tot (t := fun (x : Ar [.pair (.pair (.pair (.int .i64) (.int .i64)) (.pair (.pair (.int .i64) (.int .i64)) (.pair (.int .i64) (.int .i64)))) (.pair (.pair (.pair (.int .i64) (.int .i64)) (.pair (.pair (.int .i64) (.int .i64)) (.pair (.int .i64) (.int .i64)))) (.pair (.pair (.int .i64) (.int .i64)) (.pair (.pair (.int .i64) (.int .i64)) (.pair (.int .i64) (.int .i64)))))]) => t_matrix_Transpose x.1) (R := (((Int × Int) × ((Int × Int) × (Int × Int))) × (((Int × Int) × ((Int × Int) × (Int × Int))) × ((Int × Int) × ((Int × Int) × (Int × Int)))))) (Ts := [.pair (.pair (.pair (.int .i64) (.int .i64)) (.pair (.pair (.int .i64) (.int .i64)) (.pair (.int .i64) (.int .i64)))) (.pair (.pair (.pair (.int .i64) (.int .i64)) (.pair (.pair (.int .i64) (.int .i64)) (.pair (.int .i64) (.int .i64)))) (.pair (.pair (.int .i64) (.int .i64)) (.pair (.pair (.int .i64) (.int .i64)) (.pair (.int .i64) (.int .i64)))))]) (mk := (fun r => (r, ()))) (mkC_ok ctys_ok ceqs_ok (fns_nil _) (inl_nil _) noLoops_ok mixed) Try.func28 run_matrix_Transpose (fun _ => by kernel_rfl)
def hd_matrix_Transpose : Hd := dataHd [.pair (.pair (.pair (.int .i64) (.int .i64)) (.pair (.pair (.int .i64) (.int .i64)) (.pair (.int .i64) (.int .i64)))) (.pair (.pair (.pair (.int .i64) (.int .i64)) (.pair (.pair (.int .i64) (.int .i64)) (.pair (.int .i64) (.int .i64)))) (.pair (.pair (.int .i64) (.int .i64)) (.pair (.pair (.int .i64) (.int .i64)) (.pair (.int .i64) (.int .i64)))))] [.pair (.pair (.pair (.int .i64) (.int .i64)) (.pair (.pair (.int .i64) (.int .i64)) (.pair (.int .i64) (.int .i64)))) (.pair (.pair (.pair (.int .i64) (.int .i64)) (.pair (.pair (.int .i64) (.int .i64)) (.pair (.int .i64) (.int .i64)))) (.pair (.pair (.int .i64) (.int .i64)) (.pair (.pair (.int .i64) (.int .i64)) (.pair (.int .i64) (.int .i64)))))] (fun x => some ((fun r => (r, ())) (matrix_Transpose x.1)))
theorem ok_matrix_Transpose : HdOk Try.prog 28 hd_matrix_Transpose.sem ∧ Enters Try.prog 28 := data_ok fn_matrix_Transpose Try.func28 (by kernel_rfl) (by kernel_rfl)

/- armplan/matrix.limit -/
def t_matrix_limit (a0 : (Int × Int)) : Tr (Int × Int) :=
  let x1 : Int := if (-65536) > a0.1 then (-65536) else a0.1
  let x2 : Int := if 65536 < x1 then 65536 else x1
  let x3 : Int := if (-65536) > a0.2 then (-65536) else a0.2
  let x4 : Int := if 65536 < x3 then 65536 else x3
  .leaf (x2, x4)
def matrix_limit (a0 : (Int × Int)) : (Int × Int) := (t_matrix_limit a0).val
theorem run_matrix_limit : ∀ x, runF (mkC ctys ceqs [] [] noLoops) 200 68 Try.f68 (argsA [.pair (.int .i64) (.int .i64)] x) [] (fun v h => toRes h [.pair (.int .i64) (.int .i64)] v) = (t_matrix_limit x.1).optA (fun r => (r, ())) := by
  intro x; kernel_rfl
theorem fn_matrix_limit : FnOk Try.prog 68 [.pair (.int .i64) (.int .i64)] [.pair (.int .i64) (.int .i64)] (fun x => some ((fun r => (r, ())) (matrix_limit x.1))) :=
  fn_tot (t := fun (x : Ar [.pair (.int .i64) (.int .i64)]) => t_matrix_limit x.1) (R := (Int × Int)) (Ts := [.pair (.int .i64) (.int .i64)]) (mk := (fun r => (r, ()))) (mkC_ok ctys_ok ceqs_ok (fns_nil _) (inl_nil _) noLoops_ok mixed) Try.func68 run_matrix_limit (fun _ => by kernel_rfl)
def hd_matrix_limit : Hd := dataHd [.pair (.int .i64) (.int .i64)] [.pair (.int .i64) (.int .i64)] (fun x => some ((fun r => (r, ())) (matrix_limit x.1)))
theorem ok_matrix_limit : HdOk Try.prog 68 hd_matrix_limit.sem ∧ Enters Try.prog 68 := data_ok fn_matrix_limit Try.func68 (by kernel_rfl) (by kernel_rfl)

/- armplan/matrix.Compose -/
def t_matrix_Compose (a0 : (((Int × Int) × ((Int × Int) × (Int × Int))) × (((Int × Int) × ((Int × Int) × (Int × Int))) × ((Int × Int) × ((Int × Int) × (Int × Int)))))) (a1 : (((Int × Int) × ((Int × Int) × (Int × Int))) × (((Int × Int) × ((Int × Int) × (Int × Int))) × ((Int × Int) × ((Int × Int) × (Int × Int)))))) : Tr (((Int × Int) × ((Int × Int) × (Int × Int))) × (((Int × Int) × ((Int × Int) × (Int × Int))) × ((Int × Int) × ((Int × Int) × (Int × Int))))) :=
  let r1 : (((Int × Int) × ((Int × Int) × (Int × Int))) × (((Int × Int) × ((Int × Int) × (Int × Int))) × ((Int × Int) × ((Int × Int) × (Int × Int))))) := matrix_Transpose a1
  let r2 : (Int × Int) := matrix_sum a0.1 r1.1
  let r3 : (Int × Int) := matrix_limit r2
  let r4 : (Int × Int) := matrix_sum a0.1 r1.2.1
  let r5 : (Int × Int) := matrix_limit r4
  let r6 : (Int × Int) := matrix_sum a0.1 r1.2.2
  let r7 : (Int × Int) := matrix_limit r6
  let r8 : (Int × Int) := matrix_sum a0.2.1 r1.1
  let r9 : (Int × Int) := matrix_limit r8
  let r10 : (Int × Int) := matrix_sum a0.2.1 r1.2.1
  let r11 : (Int × Int) := matrix_limit r10
  let r12 : (Int × Int) := matrix_sum a0.2.1 r1.2.2
  let r13 : (Int × Int) := matrix_limit r12
  let r14 : (Int × Int) := matrix_sum a0.2.2 r1.1
  let r15 : (Int × Int) := matrix_limit r14
  let r16 : (Int × Int) := matrix_sum a0.2.2 r1.2.1
  let r17 : (Int × Int) := matrix_limit r16
  let r18 : (Int × Int) := matrix_sum a0.2.2 r1.2.2
  let r19 : (Int × Int) := matrix_limit r18
  .leaf ((r3, (r5, r7)), ((r9, (r11, r13)), (r15, (r17, r19))))
def matrix_Compose (a0 : (((Int × Int) × ((Int × Int) × (Int × Int))) × (((Int × Int) × ((Int × Int) × (Int × Int))) × ((Int × Int) × ((Int × Int) × (Int × Int)))))) (a1 : (((Int × Int) × ((Int × Int) × (Int × Int))) × (((Int × Int) × ((Int × Int) × (Int × Int))) × ((Int × Int) × ((Int × Int) × (Int × Int)))))) : (((Int × Int) × ((Int × Int) × (Int × Int))) × (((Int × Int) × ((Int × Int) × (Int × Int))) × ((Int × Int) × ((Int × Int) × (Int × Int))))) := (t_matrix_Compose a0 a1).val
theorem run_matrix_Compose : ∀ x, runF (mkC ctys ceqs [(28, hd_matrix_Transpose), (56, hd_matrix_sum), (68, hd_matrix_limit)] [] noLoops) 200 25 Try.f25 (argsA [.pair (.pair (.pair (.int .i64) (.int .i64)) (.pair (.pair (.int .i64) (.int .i64)) (.pair (.int .i64) (.int .i64)))) (.pair (.pair (.pair (.int .i64) (.int .i64)) (.pair (.pair (.int .i64) (.int .i64)) (.pair (.int .i64) (.int .i64)))) (.pair (.pair (.int .i64) (.int .i64)) (.pair (.pair (.int .i64) (.int .i64)) (.pair (.int .i64) (.int .i64))))), .pair (.pair (.pair (.int .i64) (.int .i64)) (.pair (.pair (.int .i64) (.int .i64)) (.pair (.int .i64) (.int .i64)))) (.pair (.pair (.pair (.int .i64) (.int .i64)) (.pair (.pair (.int .i64) (.int .i64)) (.pair (.int .i64) (.int .i64)))) (.pair (.pair (.int .i64) (.int .i64)) (.pair (.pair (.int .i64) (.int .i64)) (.pair (.int .i64) (.int .i64)))))] x) [] (fun v h => toRes h [.pair (.pair (.pair (.int .i64) (.int .i64)) (.pair (.pair (.int .i64) (.int .i64)) (.pair (.int .i64) (.int .i64)))) (.pair (.pair (.pair (.int .i64) (.int .i64)) (.pair (.pair (.int .i64) (.int .i64)) (.pair (.int .i64) (.int .i64)))) (.pair (.pair (.int .i64) (.int .i64)) (.pair (.pair (.int .i64) (.int .i64)) (.pair (.int .i64) (.int .i64)))))] v) = (t_matrix_Compose x.1 x.2.1).optA (fun r => (r, ())) := by
  intro x; kernel_rfl
theorem fn_matrix_Compose : FnOk Try.prog 25 [.pair (.pair (.pair (.int .i64) (.int .i64)) (.pair (.pair (.int .i64) (.int .i64)) (.pair (.int .i64) (.int .i64)))) (.pair (.pair (.pair (.int .i64) (.int .i64)) (.pair (.pair (.int .i64) (.int .i64)) (.pair (.int .i64) (.int .i64)))) (.pair (.pair (.int .i64) (.int .i64)) (.pair (.pair (.int .i64) (.int .i64)) (.pair (.int .i64) (.int .i64))))), .pair (.pair (.pair (.int .i64) (.int .i64)) (.pair (.pair (.int .i64) (.int .i64)) (.pair (.int .i64) (.int .i64)))) (.pair (.pair (.pair (.int .i64) (.int .i64)) (.pair (.pair (.int .i64) (.int .i64)) (.pair (.int .i64) (.int .i64)))) (.pair (.pair (.int .i64) (.int .i64)) (.pair (.pair (.int .i64) (.int .i64)) (.pair (.int .i64) (.int .i64)))))] [.pair (.pair (.pair (.int .i64) (.int .i64)) (.pair (.pair (.int .i64) (.int .i64)) (.pair (.int .i64) (.int .i64)))) (.pair (.pair (.pair (.int .i64) (.int .i64)) (.pair (.pair (.int .i64) (.int .i64)) (.pair (.int .i64) (.int .i64)))) (.pair (.pair (.int .i64) (.int .i64)) (.pair (.pair (.int .i64) (.int .i64)) (.pair (.int .i64) (.int .i64)))))] (fun x => some ((fun r => (r, ())) (matrix_Compose x.1 x.2.1))) :=
  fn_tot (t := fun (x : Ar [.pair (.pair (.pair (.int .i64) (.int .i64)) (.pair (.pair (.int .i64) (.int .i64)) (.pair (.int .i64) (.int .i64)))) (.pair (.pair (.pair (.int .i64) (.int .i64)) (.pair (.pair (.int .i64) (.int .i64)) (.pair (.int .i64) (.int .i64)))) (.pair (.pair (.int .i64) (.int .i64)) (.pair (.pair (.int .i64) (.int .i64)) (.pair (.int .i64) (.int .i64))))), .pair (.pair (.pair (.int .i64) (.int .i64)) (.pair (.pair (.int .i64) (.int .i64)) (.pair (.int .i64) (.int .i64)))) (.pair (.pair (.pair (.int .i64) (.int .i64)) (.pair (.pair (.int .i64) (.int .i64)) (.pair (.int .i64) (.int .i64)))) (.pair (.pair (.int .i64) (.int .i64)) (.pair (.pair (.int .i64) (.int .i64)) (.pair (.int .i64) (.int .i64)))))]) => t_matrix_Compose x.1 x.2.1) (R := (((Int × Int) × ((Int × Int) × (Int × Int))) × (((Int × Int) × ((Int × Int) × (Int × Int))) × ((Int × Int) × ((Int × Int) × (Int × Int)))))) (Ts := [.pair (.pair (.pair (.int .i64) (.int .i64)) (.pair (.pair (.int .i64) (.int .i64)) (.pair (.int .i64) (.int .i64)))) (.pair (.pair (.pair (.int .i64) (.int .i64)) (.pair (.pair (.int .i64) (.int .i64)) (.pair (.int .i64) (.int .i64)))) (.pair (.pair (.int .i64) (.int .i64)) (.pair (.pair (.int .i64) (.int .i64)) (.pair (.int .i64) (.int .i64)))))]) (mk := (fun r => (r, ()))) (mkC_ok ctys_ok ceqs_ok (fns_cons ok_matrix_Transpose (fns_cons ok_matrix_sum (fns_cons ok_matrix_limit (fns_nil _)))) (inl_nil _) noLoops_ok mixed) Try.func25 run_matrix_Compose (fun _ => by kernel_rfl)
def hd_matrix_Compose : Hd := dataHd [.pair (.pair (.pair (.int .i64) (.int .i64)) (.pair (.pair (.int .i64) (.int .i64)) (.pair (.int .i64) (.int .i64)))) (.pair (.pair (.pair (.int .i64) (.int .i64)) (.pair (.pair (.int .i64) (.int .i64)) (.pair (.int .i64) (.int .i64)))) (.pair (.pair (.int .i64) (.int .i64)) (.pair (.pair (.int .i64) (.int .i64)) (.pair (.int .i64) (.int .i64))))), .pair (.pair (.pair (.int .i64) (.int .i64)) (.pair (.pair (.int .i64) (.int .i64)) (.pair (.int .i64) (.int .i64)))) (.pair (.pair (.pair (.int .i64) (.int .i64)) (.pair (.pair (.int .i64) (.int .i64)) (.pair (.int .i64) (.int .i64)))) (.pair (.pair (.int .i64) (.int .i64)) (.pair (.pair (.int .i64) (.int .i64)) (.pair (.int .i64) (.int .i64)))))] [.pair (.pair (.pair (.int .i64) (.int .i64)) (.pair (.pair (.int .i64) (.int .i64)) (.pair (.int .i64) (.int .i64)))) (.pair (.pair (.pair (.int .i64) (.int .i64)) (.pair (.pair (.int .i64) (.int .i64)) (.pair (.int .i64) (.int .i64)))) (.pair (.pair (.int .i64) (.int .i64)) (.pair (.pair (.int .i64) (.int .i64)) (.pair (.int .i64) (.int .i64)))))] (fun x => some ((fun r => (r, ())) (matrix_Compose x.1 x.2.1)))
theorem ok_matrix_Compose : HdOk Try.prog 25 hd_matrix_Compose.sem ∧ Enters Try.prog 25 := data_ok fn_matrix_Compose Try.func25 (by kernel_rfl) (by kernel_rfl)

/- armplan/armplanref1.Unit -/
def t_armplanref1_Unit : Tr (((Int × Int) × ((Int × Int) × (Int × Int))) × (((Int × Int) × ((Int × Int) × (Int × Int))) × ((Int × Int) × ((Int × Int) × (Int × Int))))) :=
  let r1 : (Int × Int) := armplanref1_Of 65536
  .leaf ((r1, ((0, 0), (0, 0))), (((0, 0), (r1, (0, 0))), ((0, 0), ((0, 0), r1))))
def armplanref1_Unit : (((Int × Int) × ((Int × Int) × (Int × Int))) × (((Int × Int) × ((Int × Int) × (Int × Int))) × ((Int × Int) × ((Int × Int) × (Int × Int))))) := t_armplanref1_Unit.val
theorem run_armplanref1_Unit : ∀ x, runF (mkC ctys ceqs [(21, hd_armplanref1_Of)] [] noLoops) 200 27 Try.f27 (argsA [] x) [] (fun v h => toRes h [.pair (.pair (.pair (.int .i64) (.int .i64)) (.pair (.pair (.int .i64) (.int .i64)) (.pair (.int .i64) (.int .i64)))) (.pair (.pair (.pair (.int .i64) (.int .i64)) (.pair (.pair (.int .i64) (.int .i64)) (.pair (.int .i64) (.int .i64)))) (.pair (.pair (.int .i64) (.int .i64)) (.pair (.pair (.int .i64) (.int .i64)) (.pair (.int .i64) (.int .i64)))))] v) = (t_armplanref1_Unit ).optA (fun r => (r, ())) := by
  intro x; kernel_rfl
theorem fn_armplanref1_Unit : FnOk Try.prog 27 [] [.pair (.pair (.pair (.int .i64) (.int .i64)) (.pair (.pair (.int .i64) (.int .i64)) (.pair (.int .i64) (.int .i64)))) (.pair (.pair (.pair (.int .i64) (.int .i64)) (.pair (.pair (.int .i64) (.int .i64)) (.pair (.int .i64) (.int .i64)))) (.pair (.pair (.int .i64) (.int .i64)) (.pair (.pair (.int .i64) (.int .i64)) (.pair (.int .i64) (.int .i64)))))] (fun _ => some ((fun r => (r, ())) armplanref1_Unit)) :=
  fn_tot (t := fun (_ : Ar []) => t_armplanref1_Unit ) (R := (((Int × Int) × ((Int × Int) × (Int × Int))) × (((Int × Int) × ((Int × Int) × (Int × Int))) × ((Int × Int) × ((Int × Int) × (Int × Int)))))) (Ts := [.pair (.pair (.pair (.int .i64) (.int .i64)) (.pair (.pair (.int .i64) (.int .i64)) (.pair (.int .i64) (.int .i64)))) (.pair (.pair (.pair (.int .i64) (.int .i64)) (.pair (.pair (.int .i64) (.int .i64)) (.pair (.int .i64) (.int .i64)))) (.pair (.pair (.int .i64) (.int .i64)) (.pair (.pair (.int .i64) (.int .i64)) (.pair (.int .i64) (.int .i64)))))]) (mk := (fun r => (r, ()))) (mkC_ok ctys_ok ceqs_ok (fns_cons ok_armplanref1_Of (fns_nil _)) (inl_nil _) noLoops_ok mixed) Try.func27 run_armplanref1_Unit (fun _ => by kernel_rfl)
def hd_armplanref1_Unit : Hd := dataHd [] [.pair (.pair (.pair (.int .i64) (.int .i64)) (.pair (.pair (.int .i64) (.int .i64)) (.pair (.int .i64) (.int .i64)))) (.pair (.pair (.pair (.int .i64) (.int .i64)) (.pair (.pair (.int .i64) (.int .i64)) (.pair (.int .i64) (.int .i64)))) (.pair (.pair (.int .i64) (.int .i64)) (.pair (.pair (.int .i64) (.int .i64)) (.pair (.int .i64) (.int .i64)))))] (fun _ => some ((fun r => (r, ())) armplanref1_Unit))
theorem ok_armplanref1_Unit : HdOk Try.prog 27 hd_armplanref1_Unit.sem ∧ Enters Try.prog 27 := data_ok fn_armplanref1_Unit Try.func27 (by kernel_rfl) (by kernel_rfl)

/- armplan/matrix.Identity -/
def t_matrix_Identity : Tr (((Int × Int) × ((Int × Int) × (Int × Int))) × (((Int × Int) × ((Int × Int) × (Int × Int))) × ((Int × Int) × ((Int × Int) × (Int × Int))))) :=
  let r1 : (Int × Int) := matrix_one
  let r2 : (Int × Int) := matrix_one
  let r3 : (Int × Int) := matrix_one
  .leaf ((r1, ((0, 0), (0, 0))), (((0, 0), (r2, (0, 0))), ((0, 0), ((0, 0), r3))))
def matrix_Identity : (((Int × Int) × ((Int × Int) × (Int × Int))) × (((Int × Int) × ((Int × Int) × (Int × Int))) × ((Int × Int) × ((Int × Int) × (Int × Int))))) := t_matrix_Identity.val
theorem run_matrix_Identity : ∀ x, runF (mkC ctys ceqs [(60, hd_matrix_one)] [] noLoops) 200 70 Try.f70 (argsA [] x) [] (fun v h => toRes h [.pair (.pair (.pair (.int .i64) (.int .i64)) (.pair (.pair (.int .i64) (.int .i64)) (.pair (.int .i64) (.int .i64)))) (.pair (.pair (.pair (.int .i64) (.int .i64)) (.pair (.pair (.int .i64) (.int .i64)) (.pair (.int .i64) (.int .i64)))) (.pair (.pair (.int .i64) (.int .i64)) (.pair (.pair (.int .i64) (.int .i64)) (.pair (.int .i64) (.int .i64)))))] v) = (t_matrix_Identity ).optA (fun r => (r, ())) := by
  intro x; kernel_rfl
theorem fn_matrix_Identity : FnOk Try.prog 70 [] [.pair (.pair (.pair (.int .i64) (.int .i64)) (.pair (.pair (.int .i64) (.int .i64)) (.pair (.int .i64) (.int .i64)))) (.pair (.pair (.pair (.int .i64) (.int .i64)) (.pair (.pair (.int .i64) (.int .i64)) (.pair (.int .i64) (.int .i64)))) (.pair (.pair (.int .i64) (.int .i64)) (.pair (.pair (.int .i64) (.int .i64)) (.pair (.int .i64) (.int .i64)))))] (fun _ => some ((fun r => (r, ())) matrix_Identity)) :=
  fn_tot (t := fun (_ : Ar []) => t_matrix_Identity ) (R := (((Int × Int) × ((Int × Int) × (Int × Int))) × (((Int × Int) × ((Int × Int) × (Int × Int))) × ((Int × Int) × ((Int × Int) × (Int × Int)))))) (Ts := [.pair (.pair (.pair (.int .i64) (.int .i64)) (.pair (.pair (.int .i64) (.int .i64)) (.pair (.int .i64) (.int .i64)))) (.pair (.pair (.pair (.int .i64) (.int .i64)) (.pair (.pair (.int .i64) (.int .i64)) (.pair (.int .i64) (.int .i64)))) (.pair (.pair (.int .i64) (.int .i64)) (.pair (.pair (.int .i64) (.int .i64)) (.pair (.int .i64) (.int .i64)))))]) (mk := (fun r => (r, ()))) (mkC_ok ctys_ok ceqs_ok (fns_cons ok_matrix_one (fns_nil _)) (inl_nil _) noLoops_ok mixed) Try.func70 run_matrix_Identity (fun _ => by kernel_rfl)
def hd_matrix_Identity : Hd := dataHd [] [.pair (.pair (.pair (.int .i64) (.int .i64)) (.pair (.pair (.int .i64) (.int .i64)) (.pair (.int .i64) (.int .i64)))) (.pair (.pair (.pair (.int .i64) (.int .i64)) (.pair (.pair (.int .i64) (.int .i64)) (.pair (.int .i64) (.int .i64)))) (.pair (.pair (.int .i64) (.int .i64)) (.pair (.pair (.int .i64) (.int .i64)) (.pair (.int .i64) (.int .i64)))))] (fun _ => some ((fun r => (r, ())) matrix_Identity))
theorem ok_matrix_Identity : HdOk Try.prog 70 hd_matrix_Identity.sem ∧ Enters Try.prog 70 := data_ok fn_matrix_Identity Try.func70 (by kernel_rfl) (by kernel_rfl)

/- armplan/armplanref1.ComposeMat -/
def t_armplanref1_ComposeMat (a0 : (((Int × Int) × ((Int × Int) × (Int × Int))) × (((Int × Int) × ((Int × Int) × (Int × Int))) × ((Int × Int) × ((Int × Int) × (Int × Int)))))) (a1 : (((Int × Int) × ((Int × Int) × (Int × Int))) × (((Int × Int) × ((Int × Int) × (Int × Int))) × ((Int × Int) × ((Int × Int) × (Int × Int)))))) : Tr (((Int × Int) × ((Int × Int) × (Int × Int))) × (((Int × Int) × ((Int × Int) × (Int × Int))) × ((Int × Int) × ((Int × Int) × (Int × Int))))) :=
  let r1 : (Int × Int) := armplanref1_Mul a0.1.1 a1.1.1
  let r2 : (Int × Int) := armplanref1_Mul a0.1.2.1 a1.2.1.1
  let r3 : (Int × Int) := armplanref1_Add r1 r2
  let r4 : (Int × Int) := armplanref1_Mul a0.1.2.2 a1.2.2.1
  let r5 : (Int × Int) := armplanref1_Add r3 r4
  let x6 : Int := if 65536 < r5.1 then 65536 else r5.1
  let x7 : Int := if x6 > (-65536) then x6 else (-65536)
  let x8 : Int := if 65536 < r5.2 then 65536 else r5.2
  let x9 : Int := if x8 > (-65536) then x8 else (-65536)
  let r10 : (Int × Int) := armplanref1_Mul a0.1.1 a1.1.2.1
  let r11 : (Int × Int) := armplanref1_Mul a0.1.2.1 a1.2.1.2.1
  let r12 : (Int × Int) := armplanref1_Add r10 r11
  let r13 : (Int × Int) := armplanref1_Mul a0.1.2.2 a1.2.2.2.1
  let r14 : (Int × Int) := armplanref1_Add r12 r13
  let x15 : Int := if 65536 < r14.1 then 65536 else r14.1
  let x16 : Int := if x15 > (-65536) then x15 else (-65536)
  let x17 : Int := if 65536 < r14.2 then 65536 else r14.2
  let x18 : Int := if x17 > (-65536) then x17 else (-65536)
  let r19 : (Int × Int) := armplanref1_Mul a0.1.1 a1.1.2.2
  let r20 : (Int × Int) := armplanref1_Mul a0.1.2.1 a1.2.1.2.2
  let r21 : (Int × Int) := armplanref1_Add r19 r20
  let r22 : (Int × Int) := armplanref1_Mul a0.1.2.2 a1.2.2.2.2
  let r23 : (Int × Int) := armplanref1_Add r21 r22
  let x24 : Int := if 65536 < r23.1 then 65536 else r23.1
  let x25 : Int := if x24 > (-65536) then x24 else (-65536)
  let x26 : Int := if 65536 < r23.2 then 65536 else r23.2
  let x27 : Int := if x26 > (-65536) then x26 else (-65536)
  let r28 : (Int × Int) := armplanref1_Mul a0.2.1.1 a1.1.1
  let r29 : (Int × Int) := armplanref1_Mul a0.2.1.2.1 a1.2.1.1
  let r30 : (Int × Int) := armplanref1_Add r28 r29
  let r31 : (Int × Int) := armplanref1_Mul a0.2.1.2.2 a1.2.2.1
  let r32 : (Int × Int) := armplanref1_Add r30 r31
  let x33 : Int := if 65536 < r32.1 then 65536 else r32.1
  let x34 : Int := if x33 > (-65536) then x33 else (-65536)
  let x35 : Int := if 65536 < r32.2 then 65536 else r32.2
  let x36 : Int := if x35 > (-65536) then x35 else (-65536)
  let r37 : (Int × Int) := armplanref1_Mul a0.2.1.1 a1.1.2.1
  let r38 : (Int × Int) := armplanref1_Mul a0.2.1.2.1 a1.2.1.2.1
  let r39 : (Int × Int) := armplanref1_Add r37 r38
  let r40 : (Int × Int) := armplanref1_Mul a0.2.1.2.2 a1.2.2.2.1
  let r41 : (Int × Int) := armplanref1_Add r39 r40
  let x42 : Int := if 65536 < r41.1 then 65536 else r41.1
  let x43 : Int := if x42 > (-65536) then x42 else (-65536)
  let x44 : Int := if 65536 < r41.2 then 65536 else r41.2
  let x45 : Int := if x44 > (-65536) then x44 else (-65536)
  let r46 : (Int × Int) := armplanref1_Mul a0.2.1.1 a1.1.2.2
  let r47 : (Int × Int) := armplanref1_Mul a0.2.1.2.1 a1.2.1.2.2
  let r48 : (Int × Int) := armplanref1_Add r46 r47
  let r49 : (Int × Int) := armplanref1_Mul a0.2.1.2.2 a1.2.2.2.2
  let r50 : (Int × Int) := armplanref1_Add r48 r49
  let x51 : Int := if 65536 < r50.1 then 65536 else r50.1
  let x52 : Int := if x51 > (-65536) then x51 else (-65536)
  let x53 : Int := if 65536 < r50.2 then 65536 else r50.2
  let x54 : Int := if x53 > (-65536) then x53 else (-65536)
  let r55 : (Int × Int) := armplanref1_Mul a0.2.2.1 a1.1.1
  let r56 : (Int × Int) := armplanref1_Mul a0.2.2.2.1 a1.2.1.1
  let r57 : (Int × Int) := armplanref1_Add r55 r56
  let r58 : (Int × Int) := armplanref1_Mul a0.2.2.2.2 a1.2.2.1
  let r59 : (Int × Int) := armplanref1_Add r57 r58
  let x60 : Int := if 65536 < r59.1 then 65536 else r59.1
  let x61 : Int := if x60 > (-65536) then x60 else (-65536)
  let x62 : Int := if 65536 < r59.2 then 65536 else r59.2
  let x63 : Int := if x62 > (-65536) then x62 else (-65536)
  let r64 : (Int × Int) := armplanref1_Mul a0.2.2.1 a1.1.2.1
  let r65 : (Int × Int) := armplanref1_Mul a0.2.2.2.1 a1.2.1.2.1
  let r66 : (Int × Int) := armplanref1_Add r64 r65
  let r67 : (Int × Int) := armplanref1_Mul a0.2.2.2.2 a1.2.2.2.1
  let r68 : (Int × Int) := armplanref1_Add r66 r67
  let x69 : Int := if 65536 < r68.1 then 65536 else r68.1
  let x70 : Int := if x69 > (-65536) then x69 else (-65536)
  let x71 : Int := if 65536 < r68.2 then 65536 else r68.2
  let x72 : Int := if x71 > (-65536) then x71 else (-65536)
  let r73 : (Int × Int) := armplanref1_Mul a0.2.2.1 a1.1.2.2
  let r74 : (Int × Int) := armplanref1_Mul a0.2.2.2.1 a1.2.1.2.2
  let r75 : (Int × Int) := armplanref1_Add r73 r74
  let r76 : (Int × Int) := armplanref1_Mul a0.2.2.2.2 a1.2.2.2.2
  let r77 : (Int × Int) := armplanref1_Add r75 r76
  let x78 : Int := if 65536 < r77.1 then 65536 else r77.1
  let x79 : Int := if x78 > (-65536) then x78 else (-65536)
  let x80 : Int := if 65536 < r77.2 then 65536 else r77.2
  let x81 : Int := if x80 > (-65536) then x80 else (-65536)
  .leaf (((x7, x9), ((x16, x18), (x25, x27))), (((x34, x36), ((x43, x45), (x52, x54))), ((x61, x63), ((x70, x72), (x79, x81)))))
def armplanref1_ComposeMat (a0 : (((Int × Int) × ((Int × Int) × (Int × Int))) × (((Int × Int) × ((Int × Int) × (Int × Int))) × ((Int × Int) × ((Int × Int) × (Int × Int)))))) (a1 : (((Int × Int) × ((Int × Int) × (Int × Int))) × (((Int × Int) × ((Int × Int) × (Int × Int))) × ((Int × Int) × ((Int × Int) × (Int × Int)))))) : (((Int × Int) × ((Int × Int) × (Int × Int))) × (((Int × Int) × ((Int × Int) × (Int × Int))) × ((Int × Int) × ((Int × Int) × (Int × Int))))) := (t_armplanref1_ComposeMat a0 a1).val
theorem run_armplanref1_ComposeMat : ∀ x, runF (mkC ctys ceqs [(64, hd_armplanref1_Add), (100, hd_armplanref1_Mul)] [] noLoops) 200 72 Try.f72 (argsA [.pair (.pair (.pair (.int .i64) (.int .i64)) (.pair (.pair (.int .i64) (.int .i64)) (.pair (.int .i64) (.int .i64)))) (.pair (.pair (.pair (.int .i64) (.int .i64)) (.pair (.pair (.int .i64) (.int .i64)) (.pair (.int .i64) (.int .i64)))) (.pair (.pair (.int .i64) (.int .i64)) (.pair (.pair (.int .i64) (.int .i64)) (.pair (.int .i64) (.int .i64))))), .pair (.pair (.pair (.int .i64) (.int .i64)) (.pair (.pair (.int .i64) (.int .i64)) (.pair (.int .i64) (.int .i64)))) (.pair (.pair (.pair (.int .i64) (.int .i64)) (.pair (.pair (.int .i64) (.int .i64)) (.pair (.int .i64) (.int .i64)))) (.pair (.pair (.int .i64) (.int .i64)) (.pair (.pair (.int .i64) (.int .i64)) (.pair (.int .i64) (.int .i64)))))] x) [] (fun v h => toRes h [.pair (.pair (.pair (.int .i64) (.int .i64)) (.pair (.pair (.int .i64) (.int .i64)) (.pair (.int .i64) (.int .i64)))) (.pair (.pair (.pair (.int .i64) (.int .i64)) (.pair (.pair (.int .i64) (.int .i64)) (.pair (.int .i64) (.int .i64)))) (.pair (.pair (.int .i64) (.int .i64)) (.pair (.pair (.int .i64) (.int .i64)) (.pair (.int .i64) (.int .i64)))))] v) = (t_armplanref1_ComposeMat x.1 x.2.1).optA (fun r => (r, ())) := by
  intro x; kernel_rfl
theorem fn_armplanref1_ComposeMat : FnOk Try.prog 72 [.pair (.pair (.pair (.int .i64) (.int .i64)) (.pair (.pair (.int .i64) (.int .i64)) (.pair (.int .i64) (.int .i64)))) (.pair (.pair (.pair (.int .i64) (.int .i64)) (.pair (.pair (.int .i64) (.int .i64)) (.pair (.int .i64) (.int .i64)))) (.pair (.pair (.int .i64) (.int .i64)) (.pair (.pair (.int .i64) (.int .i64)) (.pair (.int .i64) (.int .i64))))), .pair (.pair (.pair (.int .i64) (.int .i64)) (.pair (.pair (.int .i64) (.int .i64)) (.pair (.int .i64) (.int .i64)))) (.pair (.pair (.pair (.int .i64) (.int .i64)) (.pair (.pair (.int .i64) (.int .i64)) (.pair (.int .i64) (.int .i64)))) (.pair (.pair (.int .i64) (.int .i64)) (.pair (.pair (.int .i64) (.int .i64)) (.pair (.int .i64) (.int .i64)))))] [.pair (.pair (.pair (.int .i64) (.int .i64)) (.pair (.pair (.int .i64) (.int .i64)) (.pair (.int .i64) (.int .i64)))) (.pair (.pair (.pair (.int .i64) (.int .i64)) (.pair (.pair (.int .i64) (.int .i64)) (.pair (.int .i64) (.int .i64)))) (.pair (.pair (.int .i64) (.int .i64)) (.pair (.pair (.int .i64) (.int .i64)) (.pair (.int .i64) (.int .i64)))))] (fun x => some ((fun r => (r, ())) (armplanref1_ComposeMat x.1 x.2.1))) :=
  fn_tot (t := fun (x : Ar [.pair (.pair (.pair (.int .i64) (.int .i64)) (.pair (.pair (.int .i64) (.int .i64)) (.pair (.int .i64) (.int .i64)))) (.pair (.pair (.pair (.int .i64) (.int .i64)) (.pair (.pair (.int .i64) (.int .i64)) (.pair (.int .i64) (.int .i64)))) (.pair (.pair (.int .i64) (.int .i64)) (.pair (.pair (.int .i64) (.int .i64)) (.pair (.int .i64) (.int .i64))))), .pair (.pair (.pair (.int .i64) (.int .i64)) (.pair (.pair (.int .i64) (.int .i64)) (.pair (.int .i64) (.int .i64)))) (.pair (.pair (.pair (.int .i64) (.int .i64)) (.pair (.pair (.int .i64) (.int .i64)) (.pair (.int .i64) (.int .i64)))) (.pair (.pair (.int .i64) (.int .i64)) (.pair (.pair (.int .i64) (.int .i64)) (.pair (.int .i64) (.int .i64)))))]) => t_armplanref1_ComposeMat x.1 x.2.1) (R := (((Int × Int) × ((Int × Int) × (Int × Int))) × (((Int × Int) × ((Int × Int) × (Int × Int))) × ((Int × Int) × ((Int × Int) × (Int × Int)))))) (Ts := [.pair (.pair (.pair (.int .i64) (.int .i64)) (.pair (.pair (.int .i64) (.int .i64)) (.pair (.int .i64) (.int .i64)))) (.pair (.pair (.pair (.int .i64) (.int .i64)) (.pair (.pair (.int .i64) (.int .i64)) (.pair (.int .i64) (.int .i64)))) (.pair (.pair (.int .i64) (.int .i64)) (.pair (.pair (.int .i64) (.int .i64)) (.pair (.int .i64) (.int .i64)))))]) (mk := (fun r => (r, ()))) (mkC_ok ctys_ok ceqs_ok (fns_cons ok_armplanref1_Add (fns_cons ok_armplanref1_Mul (fns_nil _))) (inl_nil _) noLoops_ok mixed) Try.func72 run_armplanref1_ComposeMat (fun _ => by kernel_rfl)
def hd_armplanref1_ComposeMat : Hd := dataHd [.pair (.pair (.pair (.int .i64) (.int .i64)) (.pair (.pair (.int .i64) (.int .i64)) (.pair (.int .i64) (.int .i64)))) (.pair (.pair (.pair (.int .i64) (.int .i64)) (.pair (.pair (.int .i64) (.int .i64)) (.pair (.int .i64) (.int .i64)))) (.pair (.pair (.int .i64) (.int .i64)) (.pair (.pair (.int .i64) (.int .i64)) (.pair (.int .i64) (.int .i64))))), .pair (.pair (.pair (.int .i64) (.int .i64)) (.pair (.pair (.int .i64) (.int .i64)) (.pair (.int .i64) (.int .i64)))) (.pair (.pair (.pair (.int .i64) (.int .i64)) (.pair (.pair (.int .i64) (.int .i64)) (.pair (.int .i64) (.int .i64)))) (.pair (.pair (.int .i64) (.int .i64)) (.pair (.pair (.int .i64) (.int .i64)) (.pair (.int .i64) (.int .i64)))))] [.pair (.pair (.pair (.int .i64) (.int .i64)) (.pair (.pair (.int .i64) (.int .i64)) (.pair (.int .i64) (.int .i64)))) (.pair (.pair (.pair (.int .i64) (.int .i64)) (.pair (.pair (.int .i64) (.int .i64)) (.pair (.int .i64) (.int .i64)))) (.pair (.pair (.int .i64) (.int .i64)) (.pair (.pair (.int .i64) (.int .i64)) (.pair (.int .i64) (.int .i64)))))] (fun x => some ((fun r => (r, ())) (armplanref1_ComposeMat x.1 x.2.1)))
theorem ok_armplanref1_ComposeMat : HdOk Try.prog 72 hd_armplanref1_ComposeMat.sem ∧ Enters Try.prog 72 := data_ok fn_armplanref1_ComposeMat Try.func72 (by kernel_rfl) (by kernel_rfl)

/- armplan/armplanmake.Interval -/
def t_armplanmake_Interval (a0 : Int) (a1 : Int) : Tr (Int × Int) :=
  let x1 : Int := shrI .i64 a0 3
  let r2 : Int := armplanmake_Round x1 27
  let x3 : Int := IntKind.wrap .i64 (4 + r2)
  let x4 : Int := IntKind.wrap .u64 x3
  let x5 : Int := shlI .i64 1 x4
  .br (decide (0 ≤ x4)) (
   let x6 : Int := IntKind.wrap .i64 (2 * x5)
   let x7 : Int := IntKind.wrap .i64 (x6 + 1)
   let r8 : Int := armplanmake_Round a0 x7
   .br (dom_armplanmake_Round a0 x7) (
    let x9 : Int := IntKind.wrap .i64 (r8 - x5)
    let x10 : Int := IntKind.wrap .i64 (2 * x5)
    let x11 : Int := IntKind.wrap .i64 (x10 + 1)
    let r12 : Int := armplanmake_Round a1 x11
    .br (dom_armplanmake_Round a1 x11) (
     let x13 : Int := IntKind.wrap .i64 (r12 - x5)
     let x14 : Int := bitI .and .i64 a1 1
     let x15 : Bool := decide (x14 = 0)
     .br (x15) (
      let x16 : Int := shrI .i64 a1 1
      let x17 : Int := IntKind.wrap .i64 (Int.tdiv x5 8)
      let x18 : Int := IntKind.wrap .i64 (1 + x17)
      let r19 : Int := armplanmake_Round x16 x18
      .br (dom_armplanmake_Round x16 x18) (
       let x20 : Int := IntKind.wrap .i64 (x9 + r19)
       let r21 : Int := armplanref1_Clamp x9
       let r22 : Int := armplanref1_Clamp x20
       let x23 : Int := if r22 < r21 then r22 else r21
       let r24 : Int := armplanref1_Clamp x9
       let r25 : Int := armplanref1_Clamp x20
       let x26 : Int := if r25 > r24 then r25 else r24
       .leaf (x23, x26)) .fail) (
      let r27 : Int := armplanref1_Clamp x9
      let r28 : Int := armplanref1_Clamp x13
      let x29 : Int := if r28 < r27 then r28 else r27
      let r30 : Int := armplanref1_Clamp x9
      let r31 : Int := armplanref1_Clamp x13
      let x32 : Int := if r31 > r30 then r31 else r30
      .leaf (x29, x32))) .fail) .fail) .fail
def armplanmake_Interval (a0 : Int) (a1 : Int) : (Int × Int) := (t_armplanmake_Interval a0 a1).val
def dom_armplanmake_Interval (a0 : Int) (a1 : Int) : Bool := (t_armplanmake_Interval a0 a1).dom
theorem run_armplanmake_Interval : ∀ x, runF (mkC ctys ceqs [(36, hd_armplanmake_Round), (62, hd_armplanref1_Clamp)] [] noLoops) 200 52 Try.f52 (argsA [.int .i64, .int .i64] x) [] (fun v h => toRes h [.pair (.int .i64) (.int .i64)] v) = (t_armplanmake_Interval x.1 x.2.1).optA (fun r => (r, ())) := by
  intro x; kernel_rfl
theorem fn_armplanmake_Interval : FnOk Try.prog 52 [.int .i64, .int .i64] [.pair (.int .i64) (.int .i64)] (fun x => bif dom_armplanmake_Interval x.1 x.2.1 then some ((fun r => (r, ())) (armplanmake_Interval x.1 x.2.1)) else none) :=
  fn_part (t := fun (x : Ar [.int .i64, .int .i64]) => t_armplanmake_Interval x.1 x.2.1) (R := (Int × Int)) (Ts := [.pair (.int .i64) (.int .i64)]) (mk := (fun r => (r, ()))) (mkC_ok ctys_ok ceqs_ok (fns_cons ok_armplanmake_Round (fns_cons ok_armplanref1_Clamp (fns_nil _))) (inl_nil _) noLoops_ok mixed) Try.func52 run_armplanmake_Interval
def hd_armplanmake_Interval : Hd := guardHd [.int .i64, .int .i64] [.pair (.int .i64) (.int .i64)] (fun x => dom_armplanmake_Interval x.1 x.2.1) (fun x => (fun r => (r, ())) (armplanmake_Interval x.1 x.2.1))
theorem ok_armplanmake_Interval : HdOk Try.prog 52 hd_armplanmake_Interval.sem ∧ Enters Try.prog 52 := guard_ok fn_armplanmake_Interval Try.func52 (by kernel_rfl) (by kernel_rfl)

end Go.RX

/-
  The contracts of functions.
-/
namespace Go.RX
open Go.Proofs

def dtys : List (Nat × TRow) := [(2, ⟨.int .i64, 1, 8, [.int .i64 0], .int .i64⟩),
  (26, ⟨.struct [(0, 1), (1, 1)], 2, 16, [.int .i64 0, .int .i64 0], .pair (.int .i64) (.int .i64)⟩),
  (27, ⟨.arr 3 26, 6, 48, [.int .i64 0, .int .i64 0, .int .i64 0, .int .i64 0, .int .i64 0, .int .i64 0], .pair (.pair (.int .i64) (.int .i64)) (.pair (.pair (.int .i64) (.int .i64)) (.pair (.int .i64) (.int .i64)))⟩),
  (28, ⟨.arr 3 26, 6, 48, [.int .i64 0, .int .i64 0, .int .i64 0, .int .i64 0, .int .i64 0, .int .i64 0], .pair (.pair (.int .i64) (.int .i64)) (.pair (.pair (.int .i64) (.int .i64)) (.pair (.int .i64) (.int .i64)))⟩),
  (32, ⟨.arr 3 2, 3, 24, [.int .i64 0, .int .i64 0, .int .i64 0], .pair (.int .i64) (.pair (.int .i64) (.int .i64))⟩),
  (35, ⟨.arr 3 27, 18, 144, [.int .i64 0, .int .i64 0, .int .i64 0, .int .i64 0, .int .i64 0, .int .i64 0, .int .i64 0, .int .i64 0, .int .i64 0, .int .i64 0, .int .i64 0, .int .i64 0, .int .i64 0, .int .i64 0, .int .i64 0, .int .i64 0, .int .i64 0, .int .i64 0], .pair (.pair (.pair (.int .i64) (.int .i64)) (.pair (.pair (.int .i64) (.int .i64)) (.pair (.int .i64) (.int .i64)))) (.pair (.pair (.pair (.int .i64) (.int .i64)) (.pair (.pair (.int .i64) (.int .i64)) (.pair (.int .i64) (.int .i64)))) (.pair (.pair (.int .i64) (.int .i64)) (.pair (.pair (.int .i64) (.int .i64)) (.pair (.int .i64) (.int .i64)))))⟩),
  (49, ⟨.struct [(0, 18), (18, 6)], 24, 192, [.int .i64 0, .int .i64 0, .int .i64 0, .int .i64 0, .int .i64 0, .int .i64 0, .int .i64 0, .int .i64 0, .int .i64 0, .int .i64 0, .int .i64 0, .int .i64 0, .int .i64 0, .int .i64 0, .int .i64 0, .int .i64 0, .int .i64 0, .int .i64 0, .int .i64 0, .int .i64 0, .int .i64 0, .int .i64 0, .int .i64 0, .int .i64 0], .pair (.pair (.pair (.pair (.int .i64) (.int .i64)) (.pair (.pair (.int .i64) (.int .i64)) (.pair (.int .i64) (.int .i64)))) (.pair (.pair (.pair (.int .i64) (.int .i64)) (.pair (.pair (.int .i64) (.int .i64)) (.pair (.int .i64) (.int .i64)))) (.pair (.pair (.int .i64) (.int .i64)) (.pair (.pair (.int .i64) (.int .i64)) (.pair (.int .i64) (.int .i64)))))) (.pair (.pair (.int .i64) (.int .i64)) (.pair (.pair (.int .i64) (.int .i64)) (.pair (.int .i64) (.int .i64))))⟩),
  (91, ⟨.struct [(0, 1), (1, 1)], 2, 32, [.slice none 0 0, .int .i64 0], .pair (.list (.int .i64)) (.int .i64)⟩)]
def deqs : List (Nat × (Bool × List TK)) := [(4, (false, [.bool])),
  (28, (true, [.int .i64, .int .i64, .int .i64, .int .i64, .int .i64, .int .i64])),
  (49, (true, [.int .i64, .int .i64, .int .i64, .int .i64, .int .i64, .int .i64, .int .i64, .int .i64, .int .i64, .int .i64, .int .i64, .int .i64, .int .i64, .int .i64, .int .i64, .int .i64, .int .i64, .int .i64, .int .i64, .int .i64, .int .i64, .int .i64, .int .i64, .int .i64]))]
theorem dtys_ok : tableOk Try.prog dtys = true := by kernel_rfl
theorem deqs_ok : eqsOk Try.prog deqs = true := by kernel_rfl

/- armplan/armplanref1.Shift -/
def t_armplanref1_Shift (a0 : ((Int × Int) × ((Int × Int) × (Int × Int)))) : Tr ((((Int × Int) × ((Int × Int) × (Int × Int))) × (((Int × Int) × ((Int × Int) × (Int × Int))) × ((Int × Int) × ((Int × Int) × (Int × Int))))) × ((Int × Int) × ((Int × Int) × (Int × Int)))) :=
  let r1 : (((Int × Int) × ((Int × Int) × (Int × Int))) × (((Int × Int) × ((Int × Int) × (Int × Int))) × ((Int × Int) × ((Int × Int) × (Int × Int))))) := armplanref1_Unit
  .leaf (r1, a0)
def armplanref1_Shift (a0 : ((Int × Int) × ((Int × Int) × (Int × Int)))) : ((((Int × Int) × ((Int × Int) × (Int × Int))) × (((Int × Int) × ((Int × Int) × (Int × Int))) × ((Int × Int) × ((Int × Int) × (Int × Int))))) × ((Int × Int) × ((Int × Int) × (Int × Int)))) := (t_armplanref1_Shift a0).val
theorem run_armplanref1_Shift : ∀ x, runF (mkC dtys deqs [(27, hd_armplanref1_Unit)] [] noLoops) 200 34 Try.f34 (argsA [.pair (.pair (.int .i64) (.int .i64)) (.pair (.pair (.int .i64) (.int .i64)) (.pair (.int .i64) (.int .i64)))] x) [] (fun v h => toRes h [.pair (.pair (.pair (.pair (.int .i64) (.int .i64)) (.pair (.pair (.int .i64) (.int .i64)) (.pair (.int .i64) (.int .i64)))) (.pair (.pair (.pair (.int .i64) (.int .i64)) (.pair (.pair (.int .i64) (.int .i64)) (.pair (.int .i64) (.int .i64)))) (.pair (.pair (.int .i64) (.int .i64)) (.pair (.pair (.int .i64) (.int .i64)) (.pair (.int .i64) (.int .i64)))))) (.pair (.pair (.int .i64) (.int .i64)) (.pair (.pair (.int .i64) (.int .i64)) (.pair (.int .i64) (.int .i64))))] v) = (t_armplanref1_Shift x.1).optA (fun r => (r, ())) := by
  intro x; kernel_rfl
theorem fn_armplanref1_Shift : FnOk Try.prog 34 [.pair (.pair (.int .i64) (.int .i64)) (.pair (.pair (.int .i64) (.int .i64)) (.pair (.int .i64) (.int .i64)))] [.pair (.pair (.pair (.pair (.int .i64) (.int .i64)) (.pair (.pair (.int .i64) (.int .i64)) (.pair (.int .i64) (.int .i64)))) (.pair (.pair (.pair (.int .i64) (.int .i64)) (.pair (.pair (.int .i64) (.int .i64)) (.pair (.int .i64) (.int .i64)))) (.pair (.pair (.int .i64) (.int .i64)) (.pair (.pair (.int .i64) (.int .i64)) (.pair (.int .i64) (.int .i64)))))) (.pair (.pair (.int .i64) (.int .i64)) (.pair (.pair (.int .i64) (.int .i64)) (.pair (.int .i64) (.int .i64))))] (fun x => some ((fun r => (r, ())) (armplanref1_Shift x.1))) :=
  fn_tot (t := fun (x : Ar [.pair (.pair (.int .i64) (.int .i64)) (.pair (.pair (.int .i64) (.int .i64)) (.pair (.int .i64) (.int .i64)))]) => t_armplanref1_Shift x.1) (R := ((((Int × Int) × ((Int × Int) × (Int × Int))) × (((Int × Int) × ((Int × Int) × (Int × Int))) × ((Int × Int) × ((Int × Int) × (Int × Int))))) × ((Int × Int) × ((Int × Int) × (Int × Int))))) (Ts := [.pair (.pair (.pair (.pair (.int .i64) (.int .i64)) (.pair (.pair (.int .i64) (.int .i64)) (.pair (.int .i64) (.int .i64)))) (.pair (.pair (.pair (.int .i64) (.int .i64)) (.pair (.pair (.int .i64) (.int .i64)) (.pair (.int .i64) (.int .i64)))) (.pair (.pair (.int .i64) (.int .i64)) (.pair (.pair (.int .i64) (.int .i64)) (.pair (.int .i64) (.int .i64)))))) (.pair (.pair (.int .i64) (.int .i64)) (.pair (.pair (.int .i64) (.int .i64)) (.pair (.int .i64) (.int .i64))))]) (mk := (fun r => (r, ()))) (mkC_ok dtys_ok deqs_ok (fns_cons ok_armplanref1_Unit (fns_nil _)) (inl_nil _) noLoops_ok mixed) Try.func34 run_armplanref1_Shift (fun _ => by kernel_rfl)
def hd_armplanref1_Shift : Hd := dataHd [.pair (.pair (.int .i64) (.int .i64)) (.pair (.pair (.int .i64) (.int .i64)) (.pair (.int .i64) (.int .i64)))] [.pair (.pair (.pair (.pair (.int .i64) (.int .i64)) (.pair (.pair (.int .i64) (.int .i64)) (.pair (.int .i64) (.int .i64)))) (.pair (.pair (.pair (.int .i64) (.int .i64)) (.pair (.pair (.int .i64) (.int .i64)) (.pair (.int .i64) (.int .i64)))) (.pair (.pair (.int .i64) (.int .i64)) (.pair (.pair (.int .i64) (.int .i64)) (.pair (.int .i64) (.int .i64)))))) (.pair (.pair (.int .i64) (.int .i64)) (.pair (.pair (.int .i64) (.int .i64)) (.pair (.int .i64) (.int .i64))))] (fun x => some ((fun r => (r, ())) (armplanref1_Shift x.1)))
theorem ok_armplanref1_Shift : HdOk Try.prog 34 hd_armplanref1_Shift.sem ∧ Enters Try.prog 34 := data_ok fn_armplanref1_Shift Try.func34 (by kernel_rfl) (by kernel_rfl)

/- armplan/armplanref1.TurnPose -/
def t_armplanref1_TurnPose (a0 : Int) (a1 : (Int × Int)) : Tr ((((Int × Int) × ((Int × Int) × (Int × Int))) × (((Int × Int) × ((Int × Int) × (Int × Int))) × ((Int × Int) × ((Int × Int) × (Int × Int))))) × ((Int × Int) × ((Int × Int) × (Int × Int)))) :=
  let r1 : (((Int × Int) × ((Int × Int) × (Int × Int))) × (((Int × Int) × ((Int × Int) × (Int × Int))) × ((Int × Int) × ((Int × Int) × (Int × Int))))) := armplanref1_Turn a0 a1
  .leaf (r1, ((0, 0), ((0, 0), (0, 0))))
def armplanref1_TurnPose (a0 : Int) (a1 : (Int × Int)) : ((((Int × Int) × ((Int × Int) × (Int × Int))) × (((Int × Int) × ((Int × Int) × (Int × Int))) × ((Int × Int) × ((Int × Int) × (Int × Int))))) × ((Int × Int) × ((Int × Int) × (Int × Int)))) := (t_armplanref1_TurnPose a0 a1).val
theorem run_armplanref1_TurnPose : ∀ x, runF (mkC dtys deqs [(71, hd_armplanref1_Turn)] [] noLoops) 200 40 Try.f40 (argsA [.int .i64, .pair (.int .i64) (.int .i64)] x) [] (fun v h => toRes h [.pair (.pair (.pair (.pair (.int .i64) (.int .i64)) (.pair (.pair (.int .i64) (.int .i64)) (.pair (.int .i64) (.int .i64)))) (.pair (.pair (.pair (.int .i64) (.int .i64)) (.pair (.pair (.int .i64) (.int .i64)) (.pair (.int .i64) (.int .i64)))) (.pair (.pair (.int .i64) (.int .i64)) (.pair (.pair (.int .i64) (.int .i64)) (.pair (.int .i64) (.int .i64)))))) (.pair (.pair (.int .i64) (.int .i64)) (.pair (.pair (.int .i64) (.int .i64)) (.pair (.int .i64) (.int .i64))))] v) = (t_armplanref1_TurnPose x.1 x.2.1).optA (fun r => (r, ())) := by
  intro x; kernel_rfl
theorem fn_armplanref1_TurnPose : FnOk Try.prog 40 [.int .i64, .pair (.int .i64) (.int .i64)] [.pair (.pair (.pair (.pair (.int .i64) (.int .i64)) (.pair (.pair (.int .i64) (.int .i64)) (.pair (.int .i64) (.int .i64)))) (.pair (.pair (.pair (.int .i64) (.int .i64)) (.pair (.pair (.int .i64) (.int .i64)) (.pair (.int .i64) (.int .i64)))) (.pair (.pair (.int .i64) (.int .i64)) (.pair (.pair (.int .i64) (.int .i64)) (.pair (.int .i64) (.int .i64)))))) (.pair (.pair (.int .i64) (.int .i64)) (.pair (.pair (.int .i64) (.int .i64)) (.pair (.int .i64) (.int .i64))))] (fun x => some ((fun r => (r, ())) (armplanref1_TurnPose x.1 x.2.1))) :=
  fn_tot (t := fun (x : Ar [.int .i64, .pair (.int .i64) (.int .i64)]) => t_armplanref1_TurnPose x.1 x.2.1) (R := ((((Int × Int) × ((Int × Int) × (Int × Int))) × (((Int × Int) × ((Int × Int) × (Int × Int))) × ((Int × Int) × ((Int × Int) × (Int × Int))))) × ((Int × Int) × ((Int × Int) × (Int × Int))))) (Ts := [.pair (.pair (.pair (.pair (.int .i64) (.int .i64)) (.pair (.pair (.int .i64) (.int .i64)) (.pair (.int .i64) (.int .i64)))) (.pair (.pair (.pair (.int .i64) (.int .i64)) (.pair (.pair (.int .i64) (.int .i64)) (.pair (.int .i64) (.int .i64)))) (.pair (.pair (.int .i64) (.int .i64)) (.pair (.pair (.int .i64) (.int .i64)) (.pair (.int .i64) (.int .i64)))))) (.pair (.pair (.int .i64) (.int .i64)) (.pair (.pair (.int .i64) (.int .i64)) (.pair (.int .i64) (.int .i64))))]) (mk := (fun r => (r, ()))) (mkC_ok dtys_ok deqs_ok (fns_cons ok_armplanref1_Turn (fns_nil _)) (inl_nil _) noLoops_ok mixed) Try.func40 run_armplanref1_TurnPose (fun _ => by kernel_rfl)
def hd_armplanref1_TurnPose : Hd := dataHd [.int .i64, .pair (.int .i64) (.int .i64)] [.pair (.pair (.pair (.pair (.int .i64) (.int .i64)) (.pair (.pair (.int .i64) (.int .i64)) (.pair (.int .i64) (.int .i64)))) (.pair (.pair (.pair (.int .i64) (.int .i64)) (.pair (.pair (.int .i64) (.int .i64)) (.pair (.int .i64) (.int .i64)))) (.pair (.pair (.int .i64) (.int .i64)) (.pair (.pair (.int .i64) (.int .i64)) (.pair (.int .i64) (.int .i64)))))) (.pair (.pair (.int .i64) (.int .i64)) (.pair (.pair (.int .i64) (.int .i64)) (.pair (.int .i64) (.int .i64))))] (fun x => some ((fun r => (r, ())) (armplanref1_TurnPose x.1 x.2.1)))
theorem ok_armplanref1_TurnPose : HdOk Try.prog 40 hd_armplanref1_TurnPose.sem ∧ Enters Try.prog 40 := data_ok fn_armplanref1_TurnPose Try.func40 (by kernel_rfl) (by kernel_rfl)

/- armplan/armplanref1.Compose -/
def t_armplanref1_Compose (a0 : ((((Int × Int) × ((Int × Int) × (Int × Int))) × (((Int × Int) × ((Int × Int) × (Int × Int))) × ((Int × Int) × ((Int × Int) × (Int × Int))))) × ((Int × Int) × ((Int × Int) × (Int × Int))))) (a1 : ((((Int × Int) × ((Int × Int) × (Int × Int))) × (((Int × Int) × ((Int × Int) × (Int × Int))) × ((Int × Int) × ((Int × Int) × (Int × Int))))) × ((Int × Int) × ((Int × Int) × (Int × Int))))) : Tr ((((Int × Int) × ((Int × Int) × (Int × Int))) × (((Int × Int) × ((Int × Int) × (Int × Int))) × ((Int × Int) × ((Int × Int) × (Int × Int))))) × ((Int × Int) × ((Int × Int) × (Int × Int)))) :=
  let r1 : (((Int × Int) × ((Int × Int) × (Int × Int))) × (((Int × Int) × ((Int × Int) × (Int × Int))) × ((Int × Int) × ((Int × Int) × (Int × Int))))) := armplanref1_ComposeMat a0.1 a1.1
  let r2 : ((Int × Int) × ((Int × Int) × (Int × Int))) := armplanref1_ApplyMat a0.1 a1.2
  let r3 : ((Int × Int) × ((Int × Int) × (Int × Int))) := armplanref1_AddVec a0.2 r2
  .leaf (r1, r3)
def armplanref1_Compose (a0 : ((((Int × Int) × ((Int × Int) × (Int × Int))) × (((Int × Int) × ((Int × Int) × (Int × Int))) × ((Int × Int) × ((Int × Int) × (Int × Int))))) × ((Int × Int) × ((Int × Int) × (Int × Int))))) (a1 : ((((Int × Int) × ((Int × Int) × (Int × Int))) × (((Int × Int) × ((Int × Int) × (Int × Int))) × ((Int × Int) × ((Int × Int) × (Int × Int))))) × ((Int × Int) × ((Int × Int) × (Int × Int))))) : ((((Int × Int) × ((Int × Int) × (Int × Int))) × (((Int × Int) × ((Int × Int) × (Int × Int))) × ((Int × Int) × ((Int × Int) × (Int × Int))))) × ((Int × Int) × ((Int × Int) × (Int × Int)))) := (t_armplanref1_Compose a0 a1).val
theorem run_armplanref1_Compose : ∀ x, runF (mkC dtys deqs [(35, hd_armplanref1_AddVec), (72, hd_armplanref1_ComposeMat), (73, hd_armplanref1_ApplyMat)] [] noLoops) 200 41 Try.f41 (argsA [.pair (.pair (.pair (.pair (.int .i64) (.int .i64)) (.pair (.pair (.int .i64) (.int .i64)) (.pair (.int .i64) (.int .i64)))) (.pair (.pair (.pair (.int .i64) (.int .i64)) (.pair (.pair (.int .i64) (.int .i64)) (.pair (.int .i64) (.int .i64)))) (.pair (.pair (.int .i64) (.int .i64)) (.pair (.pair (.int .i64) (.int .i64)) (.pair (.int .i64) (.int .i64)))))) (.pair (.pair (.int .i64) (.int .i64)) (.pair (.pair (.int .i64) (.int .i64)) (.pair (.int .i64) (.int .i64)))), .pair (.pair (.pair (.pair (.int .i64) (.int .i64)) (.pair (.pair (.int .i64) (.int .i64)) (.pair (.int .i64) (.int .i64)))) (.pair (.pair (.pair (.int .i64) (.int .i64)) (.pair (.pair (.int .i64) (.int .i64)) (.pair (.int .i64) (.int .i64)))) (.pair (.pair (.int .i64) (.int .i64)) (.pair (.pair (.int .i64) (.int .i64)) (.pair (.int .i64) (.int .i64)))))) (.pair (.pair (.int .i64) (.int .i64)) (.pair (.pair (.int .i64) (.int .i64)) (.pair (.int .i64) (.int .i64))))] x) [] (fun v h => toRes h [.pair (.pair (.pair (.pair (.int .i64) (.int .i64)) (.pair (.pair (.int .i64) (.int .i64)) (.pair (.int .i64) (.int .i64)))) (.pair (.pair (.pair (.int .i64) (.int .i64)) (.pair (.pair (.int .i64) (.int .i64)) (.pair (.int .i64) (.int .i64)))) (.pair (.pair (.int .i64) (.int .i64)) (.pair (.pair (.int .i64) (.int .i64)) (.pair (.int .i64) (.int .i64)))))) (.pair (.pair (.int .i64) (.int .i64)) (.pair (.pair (.int .i64) (.int .i64)) (.pair (.int .i64) (.int .i64))))] v) = (t_armplanref1_Compose x.1 x.2.1).optA (fun r => (r, ())) := by
  intro x; kernel_rfl
theorem fn_armplanref1_Compose : FnOk Try.prog 41 [.pair (.pair (.pair (.pair (.int .i64) (.int .i64)) (.pair (.pair (.int .i64) (.int .i64)) (.pair (.int .i64) (.int .i64)))) (.pair (.pair (.pair (.int .i64) (.int .i64)) (.pair (.pair (.int .i64) (.int .i64)) (.pair (.int .i64) (.int .i64)))) (.pair (.pair (.int .i64) (.int .i64)) (.pair (.pair (.int .i64) (.int .i64)) (.pair (.int .i64) (.int .i64)))))) (.pair (.pair (.int .i64) (.int .i64)) (.pair (.pair (.int .i64) (.int .i64)) (.pair (.int .i64) (.int .i64)))), .pair (.pair (.pair (.pair (.int .i64) (.int .i64)) (.pair (.pair (.int .i64) (.int .i64)) (.pair (.int .i64) (.int .i64)))) (.pair (.pair (.pair (.int .i64) (.int .i64)) (.pair (.pair (.int .i64) (.int .i64)) (.pair (.int .i64) (.int .i64)))) (.pair (.pair (.int .i64) (.int .i64)) (.pair (.pair (.int .i64) (.int .i64)) (.pair (.int .i64) (.int .i64)))))) (.pair (.pair (.int .i64) (.int .i64)) (.pair (.pair (.int .i64) (.int .i64)) (.pair (.int .i64) (.int .i64))))] [.pair (.pair (.pair (.pair (.int .i64) (.int .i64)) (.pair (.pair (.int .i64) (.int .i64)) (.pair (.int .i64) (.int .i64)))) (.pair (.pair (.pair (.int .i64) (.int .i64)) (.pair (.pair (.int .i64) (.int .i64)) (.pair (.int .i64) (.int .i64)))) (.pair (.pair (.int .i64) (.int .i64)) (.pair (.pair (.int .i64) (.int .i64)) (.pair (.int .i64) (.int .i64)))))) (.pair (.pair (.int .i64) (.int .i64)) (.pair (.pair (.int .i64) (.int .i64)) (.pair (.int .i64) (.int .i64))))] (fun x => some ((fun r => (r, ())) (armplanref1_Compose x.1 x.2.1))) :=
  fn_tot (t := fun (x : Ar [.pair (.pair (.pair (.pair (.int .i64) (.int .i64)) (.pair (.pair (.int .i64) (.int .i64)) (.pair (.int .i64) (.int .i64)))) (.pair (.pair (.pair (.int .i64) (.int .i64)) (.pair (.pair (.int .i64) (.int .i64)) (.pair (.int .i64) (.int .i64)))) (.pair (.pair (.int .i64) (.int .i64)) (.pair (.pair (.int .i64) (.int .i64)) (.pair (.int .i64) (.int .i64)))))) (.pair (.pair (.int .i64) (.int .i64)) (.pair (.pair (.int .i64) (.int .i64)) (.pair (.int .i64) (.int .i64)))), .pair (.pair (.pair (.pair (.int .i64) (.int .i64)) (.pair (.pair (.int .i64) (.int .i64)) (.pair (.int .i64) (.int .i64)))) (.pair (.pair (.pair (.int .i64) (.int .i64)) (.pair (.pair (.int .i64) (.int .i64)) (.pair (.int .i64) (.int .i64)))) (.pair (.pair (.int .i64) (.int .i64)) (.pair (.pair (.int .i64) (.int .i64)) (.pair (.int .i64) (.int .i64)))))) (.pair (.pair (.int .i64) (.int .i64)) (.pair (.pair (.int .i64) (.int .i64)) (.pair (.int .i64) (.int .i64))))]) => t_armplanref1_Compose x.1 x.2.1) (R := ((((Int × Int) × ((Int × Int) × (Int × Int))) × (((Int × Int) × ((Int × Int) × (Int × Int))) × ((Int × Int) × ((Int × Int) × (Int × Int))))) × ((Int × Int) × ((Int × Int) × (Int × Int))))) (Ts := [.pair (.pair (.pair (.pair (.int .i64) (.int .i64)) (.pair (.pair (.int .i64) (.int .i64)) (.pair (.int .i64) (.int .i64)))) (.pair (.pair (.pair (.int .i64) (.int .i64)) (.pair (.pair (.int .i64) (.int .i64)) (.pair (.int .i64) (.int .i64)))) (.pair (.pair (.int .i64) (.int .i64)) (.pair (.pair (.int .i64) (.int .i64)) (.pair (.int .i64) (.int .i64)))))) (.pair (.pair (.int .i64) (.int .i64)) (.pair (.pair (.int .i64) (.int .i64)) (.pair (.int .i64) (.int .i64))))]) (mk := (fun r => (r, ()))) (mkC_ok dtys_ok deqs_ok (fns_cons ok_armplanref1_AddVec (fns_cons ok_armplanref1_ComposeMat (fns_cons ok_armplanref1_ApplyMat (fns_nil _)))) (inl_nil _) noLoops_ok mixed) Try.func41 run_armplanref1_Compose (fun _ => by kernel_rfl)
def hd_armplanref1_Compose : Hd := dataHd [.pair (.pair (.pair (.pair (.int .i64) (.int .i64)) (.pair (.pair (.int .i64) (.int .i64)) (.pair (.int .i64) (.int .i64)))) (.pair (.pair (.pair (.int .i64) (.int .i64)) (.pair (.pair (.int .i64) (.int .i64)) (.pair (.int .i64) (.int .i64)))) (.pair (.pair (.int .i64) (.int .i64)) (.pair (.pair (.int .i64) (.int .i64)) (.pair (.int .i64) (.int .i64)))))) (.pair (.pair (.int .i64) (.int .i64)) (.pair (.pair (.int .i64) (.int .i64)) (.pair (.int .i64) (.int .i64)))), .pair (.pair (.pair (.pair (.int .i64) (.int .i64)) (.pair (.pair (.int .i64) (.int .i64)) (.pair (.int .i64) (.int .i64)))) (.pair (.pair (.pair (.int .i64) (.int .i64)) (.pair (.pair (.int .i64) (.int .i64)) (.pair (.int .i64) (.int .i64)))) (.pair (.pair (.int .i64) (.int .i64)) (.pair (.pair (.int .i64) (.int .i64)) (.pair (.int .i64) (.int .i64)))))) (.pair (.pair (.int .i64) (.int .i64)) (.pair (.pair (.int .i64) (.int .i64)) (.pair (.int .i64) (.int .i64))))] [.pair (.pair (.pair (.pair (.int .i64) (.int .i64)) (.pair (.pair (.int .i64) (.int .i64)) (.pair (.int .i64) (.int .i64)))) (.pair (.pair (.pair (.int .i64) (.int .i64)) (.pair (.pair (.int .i64) (.int .i64)) (.pair (.int .i64) (.int .i64)))) (.pair (.pair (.int .i64) (.int .i64)) (.pair (.pair (.int .i64) (.int .i64)) (.pair (.int .i64) (.int .i64)))))) (.pair (.pair (.int .i64) (.int .i64)) (.pair (.pair (.int .i64) (.int .i64)) (.pair (.int .i64) (.int .i64))))] (fun x => some ((fun r => (r, ())) (armplanref1_Compose x.1 x.2.1)))
theorem ok_armplanref1_Compose : HdOk Try.prog 41 hd_armplanref1_Compose.sem ∧ Enters Try.prog 41 := data_ok fn_armplanref1_Compose Try.func41 (by kernel_rfl) (by kernel_rfl)

/- armplan/pose.Compose -/
def t_pose_Compose (a0 : ((((Int × Int) × ((Int × Int) × (Int × Int))) × (((Int × Int) × ((Int × Int) × (Int × Int))) × ((Int × Int) × ((Int × Int) × (Int × Int))))) × ((Int × Int) × ((Int × Int) × (Int × Int))))) (a1 : ((((Int × Int) × ((Int × Int) × (Int × Int))) × (((Int × Int) × ((Int × Int) × (Int × Int))) × ((Int × Int) × ((Int × Int) × (Int × Int))))) × ((Int × Int) × ((Int × Int) × (Int × Int))))) : Tr ((((Int × Int) × ((Int × Int) × (Int × Int))) × (((Int × Int) × ((Int × Int) × (Int × Int))) × ((Int × Int) × ((Int × Int) × (Int × Int))))) × ((Int × Int) × ((Int × Int) × (Int × Int)))) :=
  let r1 : (((Int × Int) × ((Int × Int) × (Int × Int))) × (((Int × Int) × ((Int × Int) × (Int × Int))) × ((Int × Int) × ((Int × Int) × (Int × Int))))) := matrix_Compose a0.1 a1.1
  let r2 : ((Int × Int) × ((Int × Int) × (Int × Int))) := matrix_Apply a0.1 a1.2
  let r3 : ((Int × Int) × ((Int × Int) × (Int × Int))) := matrix_Add a0.2 r2
  .leaf (r1, r3)
def pose_Compose (a0 : ((((Int × Int) × ((Int × Int) × (Int × Int))) × (((Int × Int) × ((Int × Int) × (Int × Int))) × ((Int × Int) × ((Int × Int) × (Int × Int))))) × ((Int × Int) × ((Int × Int) × (Int × Int))))) (a1 : ((((Int × Int) × ((Int × Int) × (Int × Int))) × (((Int × Int) × ((Int × Int) × (Int × Int))) × ((Int × Int) × ((Int × Int) × (Int × Int))))) × ((Int × Int) × ((Int × Int) × (Int × Int))))) : ((((Int × Int) × ((Int × Int) × (Int × Int))) × (((Int × Int) × ((Int × Int) × (Int × Int))) × ((Int × Int) × ((Int × Int) × (Int × Int))))) × ((Int × Int) × ((Int × Int) × (Int × Int)))) := (t_pose_Compose a0 a1).val
theorem run_pose_Compose : ∀ x, runF (mkC dtys deqs [(18, hd_matrix_Apply), (25, hd_matrix_Compose), (96, hd_matrix_Add)] [(69, Try.f69), (95, Try.f95)] noLoops) 200 31 Try.f31 (argsA [.pair (.pair (.pair (.pair (.int .i64) (.int .i64)) (.pair (.pair (.int .i64) (.int .i64)) (.pair (.int .i64) (.int .i64)))) (.pair (.pair (.pair (.int .i64) (.int .i64)) (.pair (.pair (.int .i64) (.int .i64)) (.pair (.int .i64) (.int .i64)))) (.pair (.pair (.int .i64) (.int .i64)) (.pair (.pair (.int .i64) (.int .i64)) (.pair (.int .i64) (.int .i64)))))) (.pair (.pair (.int .i64) (.int .i64)) (.pair (.pair (.int .i64) (.int .i64)) (.pair (.int .i64) (.int .i64)))), .pair (.pair (.pair (.pair (.int .i64) (.int .i64)) (.pair (.pair (.int .i64) (.int .i64)) (.pair (.int .i64) (.int .i64)))) (.pair (.pair (.pair (.int .i64) (.int .i64)) (.pair (.pair (.int .i64) (.int .i64)) (.pair (.int .i64) (.int .i64)))) (.pair (.pair (.int .i64) (.int .i64)) (.pair (.pair (.int .i64) (.int .i64)) (.pair (.int .i64) (.int .i64)))))) (.pair (.pair (.int .i64) (.int .i64)) (.pair (.pair (.int .i64) (.int .i64)) (.pair (.int .i64) (.int .i64))))] x) [] (fun v h => toRes h [.pair (.pair (.pair (.pair (.int .i64) (.int .i64)) (.pair (.pair (.int .i64) (.int .i64)) (.pair (.int .i64) (.int .i64)))) (.pair (.pair (.pair (.int .i64) (.int .i64)) (.pair (.pair (.int .i64) (.int .i64)) (.pair (.int .i64) (.int .i64)))) (.pair (.pair (.int .i64) (.int .i64)) (.pair (.pair (.int .i64) (.int .i64)) (.pair (.int .i64) (.int .i64)))))) (.pair (.pair (.int .i64) (.int .i64)) (.pair (.pair (.int .i64) (.int .i64)) (.pair (.int .i64) (.int .i64))))] v) = (t_pose_Compose x.1 x.2.1).optA (fun r => (r, ())) := by
  intro x; kernel_rfl
theorem fn_pose_Compose : FnOk Try.prog 31 [.pair (.pair (.pair (.pair (.int .i64) (.int .i64)) (.pair (.pair (.int .i64) (.int .i64)) (.pair (.int .i64) (.int .i64)))) (.pair (.pair (.pair (.int .i64) (.int .i64)) (.pair (.pair (.int .i64) (.int .i64)) (.pair (.int .i64) (.int .i64)))) (.pair (.pair (.int .i64) (.int .i64)) (.pair (.pair (.int .i64) (.int .i64)) (.pair (.int .i64) (.int .i64)))))) (.pair (.pair (.int .i64) (.int .i64)) (.pair (.pair (.int .i64) (.int .i64)) (.pair (.int .i64) (.int .i64)))), .pair (.pair (.pair (.pair (.int .i64) (.int .i64)) (.pair (.pair (.int .i64) (.int .i64)) (.pair (.int .i64) (.int .i64)))) (.pair (.pair (.pair (.int .i64) (.int .i64)) (.pair (.pair (.int .i64) (.int .i64)) (.pair (.int .i64) (.int .i64)))) (.pair (.pair (.int .i64) (.int .i64)) (.pair (.pair (.int .i64) (.int .i64)) (.pair (.int .i64) (.int .i64)))))) (.pair (.pair (.int .i64) (.int .i64)) (.pair (.pair (.int .i64) (.int .i64)) (.pair (.int .i64) (.int .i64))))] [.pair (.pair (.pair (.pair (.int .i64) (.int .i64)) (.pair (.pair (.int .i64) (.int .i64)) (.pair (.int .i64) (.int .i64)))) (.pair (.pair (.pair (.int .i64) (.int .i64)) (.pair (.pair (.int .i64) (.int .i64)) (.pair (.int .i64) (.int .i64)))) (.pair (.pair (.int .i64) (.int .i64)) (.pair (.pair (.int .i64) (.int .i64)) (.pair (.int .i64) (.int .i64)))))) (.pair (.pair (.int .i64) (.int .i64)) (.pair (.pair (.int .i64) (.int .i64)) (.pair (.int .i64) (.int .i64))))] (fun x => some ((fun r => (r, ())) (pose_Compose x.1 x.2.1))) :=
  fn_tot (t := fun (x : Ar [.pair (.pair (.pair (.pair (.int .i64) (.int .i64)) (.pair (.pair (.int .i64) (.int .i64)) (.pair (.int .i64) (.int .i64)))) (.pair (.pair (.pair (.int .i64) (.int .i64)) (.pair (.pair (.int .i64) (.int .i64)) (.pair (.int .i64) (.int .i64)))) (.pair (.pair (.int .i64) (.int .i64)) (.pair (.pair (.int .i64) (.int .i64)) (.pair (.int .i64) (.int .i64)))))) (.pair (.pair (.int .i64) (.int .i64)) (.pair (.pair (.int .i64) (.int .i64)) (.pair (.int .i64) (.int .i64)))), .pair (.pair (.pair (.pair (.int .i64) (.int .i64)) (.pair (.pair (.int .i64) (.int .i64)) (.pair (.int .i64) (.int .i64)))) (.pair (.pair (.pair (.int .i64) (.int .i64)) (.pair (.pair (.int .i64) (.int .i64)) (.pair (.int .i64) (.int .i64)))) (.pair (.pair (.int .i64) (.int .i64)) (.pair (.pair (.int .i64) (.int .i64)) (.pair (.int .i64) (.int .i64)))))) (.pair (.pair (.int .i64) (.int .i64)) (.pair (.pair (.int .i64) (.int .i64)) (.pair (.int .i64) (.int .i64))))]) => t_pose_Compose x.1 x.2.1) (R := ((((Int × Int) × ((Int × Int) × (Int × Int))) × (((Int × Int) × ((Int × Int) × (Int × Int))) × ((Int × Int) × ((Int × Int) × (Int × Int))))) × ((Int × Int) × ((Int × Int) × (Int × Int))))) (Ts := [.pair (.pair (.pair (.pair (.int .i64) (.int .i64)) (.pair (.pair (.int .i64) (.int .i64)) (.pair (.int .i64) (.int .i64)))) (.pair (.pair (.pair (.int .i64) (.int .i64)) (.pair (.pair (.int .i64) (.int .i64)) (.pair (.int .i64) (.int .i64)))) (.pair (.pair (.int .i64) (.int .i64)) (.pair (.pair (.int .i64) (.int .i64)) (.pair (.int .i64) (.int .i64)))))) (.pair (.pair (.int .i64) (.int .i64)) (.pair (.pair (.int .i64) (.int .i64)) (.pair (.int .i64) (.int .i64))))]) (mk := (fun r => (r, ()))) (mkC_ok dtys_ok deqs_ok (fns_cons ok_matrix_Apply (fns_cons ok_matrix_Compose (fns_cons ok_matrix_Add (fns_nil _)))) (inl_cons Try.func69 (by kernel_rfl) (inl_cons Try.func95 (by kernel_rfl) (inl_nil _))) noLoops_ok mixed) Try.func31 run_pose_Compose (fun _ => by kernel_rfl)
def hd_pose_Compose : Hd := dataHd [.pair (.pair (.pair (.pair (.int .i64) (.int .i64)) (.pair (.pair (.int .i64) (.int .i64)) (.pair (.int .i64) (.int .i64)))) (.pair (.pair (.pair (.int .i64) (.int .i64)) (.pair (.pair (.int .i64) (.int .i64)) (.pair (.int .i64) (.int .i64)))) (.pair (.pair (.int .i64) (.int .i64)) (.pair (.pair (.int .i64) (.int .i64)) (.pair (.int .i64) (.int .i64)))))) (.pair (.pair (.int .i64) (.int .i64)) (.pair (.pair (.int .i64) (.int .i64)) (.pair (.int .i64) (.int .i64)))), .pair (.pair (.pair (.pair (.int .i64) (.int .i64)) (.pair (.pair (.int .i64) (.int .i64)) (.pair (.int .i64) (.int .i64)))) (.pair (.pair (.pair (.int .i64) (.int .i64)) (.pair (.pair (.int .i64) (.int .i64)) (.pair (.int .i64) (.int .i64)))) (.pair (.pair (.int .i64) (.int .i64)) (.pair (.pair (.int .i64) (.int .i64)) (.pair (.int .i64) (.int .i64)))))) (.pair (.pair (.int .i64) (.int .i64)) (.pair (.pair (.int .i64) (.int .i64)) (.pair (.int .i64) (.int .i64))))] [.pair (.pair (.pair (.pair (.int .i64) (.int .i64)) (.pair (.pair (.int .i64) (.int .i64)) (.pair (.int .i64) (.int .i64)))) (.pair (.pair (.pair (.int .i64) (.int .i64)) (.pair (.pair (.int .i64) (.int .i64)) (.pair (.int .i64) (.int .i64)))) (.pair (.pair (.int .i64) (.int .i64)) (.pair (.pair (.int .i64) (.int .i64)) (.pair (.int .i64) (.int .i64)))))) (.pair (.pair (.int .i64) (.int .i64)) (.pair (.pair (.int .i64) (.int .i64)) (.pair (.int .i64) (.int .i64))))] (fun x => some ((fun r => (r, ())) (pose_Compose x.1 x.2.1)))
theorem ok_pose_Compose : HdOk Try.prog 31 hd_pose_Compose.sem ∧ Enters Try.prog 31 := data_ok fn_pose_Compose Try.func31 (by kernel_rfl) (by kernel_rfl)

/- armplan/pose.Shift -/
def t_pose_Shift (a0 : ((Int × Int) × ((Int × Int) × (Int × Int)))) : Tr ((((Int × Int) × ((Int × Int) × (Int × Int))) × (((Int × Int) × ((Int × Int) × (Int × Int))) × ((Int × Int) × ((Int × Int) × (Int × Int))))) × ((Int × Int) × ((Int × Int) × (Int × Int)))) :=
  let r1 : (((Int × Int) × ((Int × Int) × (Int × Int))) × (((Int × Int) × ((Int × Int) × (Int × Int))) × ((Int × Int) × ((Int × Int) × (Int × Int))))) := matrix_Identity
  .leaf (r1, a0)
def pose_Shift (a0 : ((Int × Int) × ((Int × Int) × (Int × Int)))) : ((((Int × Int) × ((Int × Int) × (Int × Int))) × (((Int × Int) × ((Int × Int) × (Int × Int))) × ((Int × Int) × ((Int × Int) × (Int × Int))))) × ((Int × Int) × ((Int × Int) × (Int × Int)))) := (t_pose_Shift a0).val
theorem run_pose_Shift : ∀ x, runF (mkC dtys deqs [(70, hd_matrix_Identity)] [] noLoops) 200 33 Try.f33 (argsA [.pair (.pair (.int .i64) (.int .i64)) (.pair (.pair (.int .i64) (.int .i64)) (.pair (.int .i64) (.int .i64)))] x) [] (fun v h => toRes h [.pair (.pair (.pair (.pair (.int .i64) (.int .i64)) (.pair (.pair (.int .i64) (.int .i64)) (.pair (.int .i64) (.int .i64)))) (.pair (.pair (.pair (.int .i64) (.int .i64)) (.pair (.pair (.int .i64) (.int .i64)) (.pair (.int .i64) (.int .i64)))) (.pair (.pair (.int .i64) (.int .i64)) (.pair (.pair (.int .i64) (.int .i64)) (.pair (.int .i64) (.int .i64)))))) (.pair (.pair (.int .i64) (.int .i64)) (.pair (.pair (.int .i64) (.int .i64)) (.pair (.int .i64) (.int .i64))))] v) = (t_pose_Shift x.1).optA (fun r => (r, ())) := by
  intro x; kernel_rfl
theorem fn_pose_Shift : FnOk Try.prog 33 [.pair (.pair (.int .i64) (.int .i64)) (.pair (.pair (.int .i64) (.int .i64)) (.pair (.int .i64) (.int .i64)))] [.pair (.pair (.pair (.pair (.int .i64) (.int .i64)) (.pair (.pair (.int .i64) (.int .i64)) (.pair (.int .i64) (.int .i64)))) (.pair (.pair (.pair (.int .i64) (.int .i64)) (.pair (.pair (.int .i64) (.int .i64)) (.pair (.int .i64) (.int .i64)))) (.pair (.pair (.int .i64) (.int .i64)) (.pair (.pair (.int .i64) (.int .i64)) (.pair (.int .i64) (.int .i64)))))) (.pair (.pair (.int .i64) (.int .i64)) (.pair (.pair (.int .i64) (.int .i64)) (.pair (.int .i64) (.int .i64))))] (fun x => some ((fun r => (r, ())) (pose_Shift x.1))) :=
  fn_tot (t := fun (x : Ar [.pair (.pair (.int .i64) (.int .i64)) (.pair (.pair (.int .i64) (.int .i64)) (.pair (.int .i64) (.int .i64)))]) => t_pose_Shift x.1) (R := ((((Int × Int) × ((Int × Int) × (Int × Int))) × (((Int × Int) × ((Int × Int) × (Int × Int))) × ((Int × Int) × ((Int × Int) × (Int × Int))))) × ((Int × Int) × ((Int × Int) × (Int × Int))))) (Ts := [.pair (.pair (.pair (.pair (.int .i64) (.int .i64)) (.pair (.pair (.int .i64) (.int .i64)) (.pair (.int .i64) (.int .i64)))) (.pair (.pair (.pair (.int .i64) (.int .i64)) (.pair (.pair (.int .i64) (.int .i64)) (.pair (.int .i64) (.int .i64)))) (.pair (.pair (.int .i64) (.int .i64)) (.pair (.pair (.int .i64) (.int .i64)) (.pair (.int .i64) (.int .i64)))))) (.pair (.pair (.int .i64) (.int .i64)) (.pair (.pair (.int .i64) (.int .i64)) (.pair (.int .i64) (.int .i64))))]) (mk := (fun r => (r, ()))) (mkC_ok dtys_ok deqs_ok (fns_cons ok_matrix_Identity (fns_nil _)) (inl_nil _) noLoops_ok mixed) Try.func33 run_pose_Shift (fun _ => by kernel_rfl)
def hd_pose_Shift : Hd := dataHd [.pair (.pair (.int .i64) (.int .i64)) (.pair (.pair (.int .i64) (.int .i64)) (.pair (.int .i64) (.int .i64)))] [.pair (.pair (.pair (.pair (.int .i64) (.int .i64)) (.pair (.pair (.int .i64) (.int .i64)) (.pair (.int .i64) (.int .i64)))) (.pair (.pair (.pair (.int .i64) (.int .i64)) (.pair (.pair (.int .i64) (.int .i64)) (.pair (.int .i64) (.int .i64)))) (.pair (.pair (.int .i64) (.int .i64)) (.pair (.pair (.int .i64) (.int .i64)) (.pair (.int .i64) (.int .i64)))))) (.pair (.pair (.int .i64) (.int .i64)) (.pair (.pair (.int .i64) (.int .i64)) (.pair (.int .i64) (.int .i64))))] (fun x => some ((fun r => (r, ())) (pose_Shift x.1)))
theorem ok_pose_Shift : HdOk Try.prog 33 hd_pose_Shift.sem ∧ Enters Try.prog 33 := data_ok fn_pose_Shift Try.func33 (by kernel_rfl) (by kernel_rfl)

/- armplan/pose.Turn -/
def t_pose_Turn (a0 : Int) (a1 : (Int × Int)) : Tr ((((Int × Int) × ((Int × Int) × (Int × Int))) × (((Int × Int) × ((Int × Int) × (Int × Int))) × ((Int × Int) × ((Int × Int) × (Int × Int))))) × ((Int × Int) × ((Int × Int) × (Int × Int)))) :=
  let r1 : (((Int × Int) × ((Int × Int) × (Int × Int))) × (((Int × Int) × ((Int × Int) × (Int × Int))) × ((Int × Int) × ((Int × Int) × (Int × Int))))) := matrix_Turn a0 a1
  .leaf (r1, ((0, 0), ((0, 0), (0, 0))))
def pose_Turn (a0 : Int) (a1 : (Int × Int)) : ((((Int × Int) × ((Int × Int) × (Int × Int))) × (((Int × Int) × ((Int × Int) × (Int × Int))) × ((Int × Int) × ((Int × Int) × (Int × Int))))) × ((Int × Int) × ((Int × Int) × (Int × Int)))) := (t_pose_Turn a0 a1).val
theorem run_pose_Turn : ∀ x, runF (mkC dtys deqs [(19, hd_matrix_Turn)] [] noLoops) 200 39 Try.f39 (argsA [.int .i64, .pair (.int .i64) (.int .i64)] x) [] (fun v h => toRes h [.pair (.pair (.pair (.pair (.int .i64) (.int .i64)) (.pair (.pair (.int .i64) (.int .i64)) (.pair (.int .i64) (.int .i64)))) (.pair (.pair (.pair (.int .i64) (.int .i64)) (.pair (.pair (.int .i64) (.int .i64)) (.pair (.int .i64) (.int .i64)))) (.pair (.pair (.int .i64) (.int .i64)) (.pair (.pair (.int .i64) (.int .i64)) (.pair (.int .i64) (.int .i64)))))) (.pair (.pair (.int .i64) (.int .i64)) (.pair (.pair (.int .i64) (.int .i64)) (.pair (.int .i64) (.int .i64))))] v) = (t_pose_Turn x.1 x.2.1).optA (fun r => (r, ())) := by
  intro x; kernel_rfl
theorem fn_pose_Turn : FnOk Try.prog 39 [.int .i64, .pair (.int .i64) (.int .i64)] [.pair (.pair (.pair (.pair (.int .i64) (.int .i64)) (.pair (.pair (.int .i64) (.int .i64)) (.pair (.int .i64) (.int .i64)))) (.pair (.pair (.pair (.int .i64) (.int .i64)) (.pair (.pair (.int .i64) (.int .i64)) (.pair (.int .i64) (.int .i64)))) (.pair (.pair (.int .i64) (.int .i64)) (.pair (.pair (.int .i64) (.int .i64)) (.pair (.int .i64) (.int .i64)))))) (.pair (.pair (.int .i64) (.int .i64)) (.pair (.pair (.int .i64) (.int .i64)) (.pair (.int .i64) (.int .i64))))] (fun x => some ((fun r => (r, ())) (pose_Turn x.1 x.2.1))) :=
  fn_tot (t := fun (x : Ar [.int .i64, .pair (.int .i64) (.int .i64)]) => t_pose_Turn x.1 x.2.1) (R := ((((Int × Int) × ((Int × Int) × (Int × Int))) × (((Int × Int) × ((Int × Int) × (Int × Int))) × ((Int × Int) × ((Int × Int) × (Int × Int))))) × ((Int × Int) × ((Int × Int) × (Int × Int))))) (Ts := [.pair (.pair (.pair (.pair (.int .i64) (.int .i64)) (.pair (.pair (.int .i64) (.int .i64)) (.pair (.int .i64) (.int .i64)))) (.pair (.pair (.pair (.int .i64) (.int .i64)) (.pair (.pair (.int .i64) (.int .i64)) (.pair (.int .i64) (.int .i64)))) (.pair (.pair (.int .i64) (.int .i64)) (.pair (.pair (.int .i64) (.int .i64)) (.pair (.int .i64) (.int .i64)))))) (.pair (.pair (.int .i64) (.int .i64)) (.pair (.pair (.int .i64) (.int .i64)) (.pair (.int .i64) (.int .i64))))]) (mk := (fun r => (r, ()))) (mkC_ok dtys_ok deqs_ok (fns_cons ok_matrix_Turn (fns_nil _)) (inl_nil _) noLoops_ok mixed) Try.func39 run_pose_Turn (fun _ => by kernel_rfl)
def hd_pose_Turn : Hd := dataHd [.int .i64, .pair (.int .i64) (.int .i64)] [.pair (.pair (.pair (.pair (.int .i64) (.int .i64)) (.pair (.pair (.int .i64) (.int .i64)) (.pair (.int .i64) (.int .i64)))) (.pair (.pair (.pair (.int .i64) (.int .i64)) (.pair (.pair (.int .i64) (.int .i64)) (.pair (.int .i64) (.int .i64)))) (.pair (.pair (.int .i64) (.int .i64)) (.pair (.pair (.int .i64) (.int .i64)) (.pair (.int .i64) (.int .i64)))))) (.pair (.pair (.int .i64) (.int .i64)) (.pair (.pair (.int .i64) (.int .i64)) (.pair (.int .i64) (.int .i64))))] (fun x => some ((fun r => (r, ())) (pose_Turn x.1 x.2.1)))
theorem ok_pose_Turn : HdOk Try.prog 39 hd_pose_Turn.sem ∧ Enters Try.prog 39 := data_ok fn_pose_Turn Try.func39 (by kernel_rfl) (by kernel_rfl)

/- armplan/pose.Identity -/
def t_pose_Identity : Tr ((((Int × Int) × ((Int × Int) × (Int × Int))) × (((Int × Int) × ((Int × Int) × (Int × Int))) × ((Int × Int) × ((Int × Int) × (Int × Int))))) × ((Int × Int) × ((Int × Int) × (Int × Int)))) :=
  let r1 : (((Int × Int) × ((Int × Int) × (Int × Int))) × (((Int × Int) × ((Int × Int) × (Int × Int))) × ((Int × Int) × ((Int × Int) × (Int × Int))))) := matrix_Identity
  .leaf (r1, ((0, 0), ((0, 0), (0, 0))))
def pose_Identity : ((((Int × Int) × ((Int × Int) × (Int × Int))) × (((Int × Int) × ((Int × Int) × (Int × Int))) × ((Int × Int) × ((Int × Int) × (Int × Int))))) × ((Int × Int) × ((Int × Int) × (Int × Int)))) := t_pose_Identity.val
theorem run_pose_Identity : ∀ x, runF (mkC dtys deqs [(70, hd_matrix_Identity)] [] noLoops) 200 37 Try.f37 (argsA [] x) [] (fun v h => toRes h [.pair (.pair (.pair (.pair (.int .i64) (.int .i64)) (.pair (.pair (.int .i64) (.int .i64)) (.pair (.int .i64) (.int .i64)))) (.pair (.pair (.pair (.int .i64) (.int .i64)) (.pair (.pair (.int .i64) (.int .i64)) (.pair (.int .i64) (.int .i64)))) (.pair (.pair (.int .i64) (.int .i64)) (.pair (.pair (.int .i64) (.int .i64)) (.pair (.int .i64) (.int .i64)))))) (.pair (.pair (.int .i64) (.int .i64)) (.pair (.pair (.int .i64) (.int .i64)) (.pair (.int .i64) (.int .i64))))] v) = (t_pose_Identity ).optA (fun r => (r, ())) := by
  intro x; kernel_rfl
theorem fn_pose_Identity : FnOk Try.prog 37 [] [.pair (.pair (.pair (.pair (.int .i64) (.int .i64)) (.pair (.pair (.int .i64) (.int .i64)) (.pair (.int .i64) (.int .i64)))) (.pair (.pair (.pair (.int .i64) (.int .i64)) (.pair (.pair (.int .i64) (.int .i64)) (.pair (.int .i64) (.int .i64)))) (.pair (.pair (.int .i64) (.int .i64)) (.pair (.pair (.int .i64) (.int .i64)) (.pair (.int .i64) (.int .i64)))))) (.pair (.pair (.int .i64) (.int .i64)) (.pair (.pair (.int .i64) (.int .i64)) (.pair (.int .i64) (.int .i64))))] (fun _ => some ((fun r => (r, ())) pose_Identity)) :=
  fn_tot (t := fun (_ : Ar []) => t_pose_Identity ) (R := ((((Int × Int) × ((Int × Int) × (Int × Int))) × (((Int × Int) × ((Int × Int) × (Int × Int))) × ((Int × Int) × ((Int × Int) × (Int × Int))))) × ((Int × Int) × ((Int × Int) × (Int × Int))))) (Ts := [.pair (.pair (.pair (.pair (.int .i64) (.int .i64)) (.pair (.pair (.int .i64) (.int .i64)) (.pair (.int .i64) (.int .i64)))) (.pair (.pair (.pair (.int .i64) (.int .i64)) (.pair (.pair (.int .i64) (.int .i64)) (.pair (.int .i64) (.int .i64)))) (.pair (.pair (.int .i64) (.int .i64)) (.pair (.pair (.int .i64) (.int .i64)) (.pair (.int .i64) (.int .i64)))))) (.pair (.pair (.int .i64) (.int .i64)) (.pair (.pair (.int .i64) (.int .i64)) (.pair (.int .i64) (.int .i64))))]) (mk := (fun r => (r, ()))) (mkC_ok dtys_ok deqs_ok (fns_cons ok_matrix_Identity (fns_nil _)) (inl_nil _) noLoops_ok mixed) Try.func37 run_pose_Identity (fun _ => by kernel_rfl)
def hd_pose_Identity : Hd := dataHd [] [.pair (.pair (.pair (.pair (.int .i64) (.int .i64)) (.pair (.pair (.int .i64) (.int .i64)) (.pair (.int .i64) (.int .i64)))) (.pair (.pair (.pair (.int .i64) (.int .i64)) (.pair (.pair (.int .i64) (.int .i64)) (.pair (.int .i64) (.int .i64)))) (.pair (.pair (.int .i64) (.int .i64)) (.pair (.pair (.int .i64) (.int .i64)) (.pair (.int .i64) (.int .i64)))))) (.pair (.pair (.int .i64) (.int .i64)) (.pair (.pair (.int .i64) (.int .i64)) (.pair (.int .i64) (.int .i64))))] (fun _ => some ((fun r => (r, ())) pose_Identity))
theorem ok_pose_Identity : HdOk Try.prog 37 hd_pose_Identity.sem ∧ Enters Try.prog 37 := data_ok fn_pose_Identity Try.func37 (by kernel_rfl) (by kernel_rfl)

/- armplan/armplanref1.Rest -/
def t_armplanref1_Rest : Tr ((((Int × Int) × ((Int × Int) × (Int × Int))) × (((Int × Int) × ((Int × Int) × (Int × Int))) × ((Int × Int) × ((Int × Int) × (Int × Int))))) × ((Int × Int) × ((Int × Int) × (Int × Int)))) :=
  let r1 : (((Int × Int) × ((Int × Int) × (Int × Int))) × (((Int × Int) × ((Int × Int) × (Int × Int))) × ((Int × Int) × ((Int × Int) × (Int × Int))))) := armplanref1_Unit
  .leaf (r1, ((0, 0), ((0, 0), (0, 0))))
def armplanref1_Rest : ((((Int × Int) × ((Int × Int) × (Int × Int))) × (((Int × Int) × ((Int × Int) × (Int × Int))) × ((Int × Int) × ((Int × Int) × (Int × Int))))) × ((Int × Int) × ((Int × Int) × (Int × Int)))) := t_armplanref1_Rest.val
theorem run_armplanref1_Rest : ∀ x, runF (mkC dtys deqs [(27, hd_armplanref1_Unit)] [] noLoops) 200 38 Try.f38 (argsA [] x) [] (fun v h => toRes h [.pair (.pair (.pair (.pair (.int .i64) (.int .i64)) (.pair (.pair (.int .i64) (.int .i64)) (.pair (.int .i64) (.int .i64)))) (.pair (.pair (.pair (.int .i64) (.int .i64)) (.pair (.pair (.int .i64) (.int .i64)) (.pair (.int .i64) (.int .i64)))) (.pair (.pair (.int .i64) (.int .i64)) (.pair (.pair (.int .i64) (.int .i64)) (.pair (.int .i64) (.int .i64)))))) (.pair (.pair (.int .i64) (.int .i64)) (.pair (.pair (.int .i64) (.int .i64)) (.pair (.int .i64) (.int .i64))))] v) = (t_armplanref1_Rest ).optA (fun r => (r, ())) := by
  intro x; kernel_rfl
theorem fn_armplanref1_Rest : FnOk Try.prog 38 [] [.pair (.pair (.pair (.pair (.int .i64) (.int .i64)) (.pair (.pair (.int .i64) (.int .i64)) (.pair (.int .i64) (.int .i64)))) (.pair (.pair (.pair (.int .i64) (.int .i64)) (.pair (.pair (.int .i64) (.int .i64)) (.pair (.int .i64) (.int .i64)))) (.pair (.pair (.int .i64) (.int .i64)) (.pair (.pair (.int .i64) (.int .i64)) (.pair (.int .i64) (.int .i64)))))) (.pair (.pair (.int .i64) (.int .i64)) (.pair (.pair (.int .i64) (.int .i64)) (.pair (.int .i64) (.int .i64))))] (fun _ => some ((fun r => (r, ())) armplanref1_Rest)) :=
  fn_tot (t := fun (_ : Ar []) => t_armplanref1_Rest ) (R := ((((Int × Int) × ((Int × Int) × (Int × Int))) × (((Int × Int) × ((Int × Int) × (Int × Int))) × ((Int × Int) × ((Int × Int) × (Int × Int))))) × ((Int × Int) × ((Int × Int) × (Int × Int))))) (Ts := [.pair (.pair (.pair (.pair (.int .i64) (.int .i64)) (.pair (.pair (.int .i64) (.int .i64)) (.pair (.int .i64) (.int .i64)))) (.pair (.pair (.pair (.int .i64) (.int .i64)) (.pair (.pair (.int .i64) (.int .i64)) (.pair (.int .i64) (.int .i64)))) (.pair (.pair (.int .i64) (.int .i64)) (.pair (.pair (.int .i64) (.int .i64)) (.pair (.int .i64) (.int .i64)))))) (.pair (.pair (.int .i64) (.int .i64)) (.pair (.pair (.int .i64) (.int .i64)) (.pair (.int .i64) (.int .i64))))]) (mk := (fun r => (r, ()))) (mkC_ok dtys_ok deqs_ok (fns_cons ok_armplanref1_Unit (fns_nil _)) (inl_nil _) noLoops_ok mixed) Try.func38 run_armplanref1_Rest (fun _ => by kernel_rfl)
def hd_armplanref1_Rest : Hd := dataHd [] [.pair (.pair (.pair (.pair (.int .i64) (.int .i64)) (.pair (.pair (.int .i64) (.int .i64)) (.pair (.int .i64) (.int .i64)))) (.pair (.pair (.pair (.int .i64) (.int .i64)) (.pair (.pair (.int .i64) (.int .i64)) (.pair (.int .i64) (.int .i64)))) (.pair (.pair (.int .i64) (.int .i64)) (.pair (.pair (.int .i64) (.int .i64)) (.pair (.int .i64) (.int .i64)))))) (.pair (.pair (.int .i64) (.int .i64)) (.pair (.pair (.int .i64) (.int .i64)) (.pair (.int .i64) (.int .i64))))] (fun _ => some ((fun r => (r, ())) armplanref1_Rest))
theorem ok_armplanref1_Rest : HdOk Try.prog 38 hd_armplanref1_Rest.sem ∧ Enters Try.prog 38 := data_ok fn_armplanref1_Rest Try.func38 (by kernel_rfl) (by kernel_rfl)

/- armplan/armplanref1.Apply -/
def t_armplanref1_Apply (a0 : ((((Int × Int) × ((Int × Int) × (Int × Int))) × (((Int × Int) × ((Int × Int) × (Int × Int))) × ((Int × Int) × ((Int × Int) × (Int × Int))))) × ((Int × Int) × ((Int × Int) × (Int × Int))))) (a1 : ((Int × Int) × ((Int × Int) × (Int × Int)))) : Tr ((Int × Int) × ((Int × Int) × (Int × Int))) :=
  let r1 : ((Int × Int) × ((Int × Int) × (Int × Int))) := armplanref1_ApplyMat a0.1 a1
  let r2 : ((Int × Int) × ((Int × Int) × (Int × Int))) := armplanref1_AddVec a0.2 r1
  .leaf r2
def armplanref1_Apply (a0 : ((((Int × Int) × ((Int × Int) × (Int × Int))) × (((Int × Int) × ((Int × Int) × (Int × Int))) × ((Int × Int) × ((Int × Int) × (Int × Int))))) × ((Int × Int) × ((Int × Int) × (Int × Int))))) (a1 : ((Int × Int) × ((Int × Int) × (Int × Int)))) : ((Int × Int) × ((Int × Int) × (Int × Int))) := (t_armplanref1_Apply a0 a1).val
theorem run_armplanref1_Apply : ∀ x, runF (mkC dtys deqs [(35, hd_armplanref1_AddVec), (73, hd_armplanref1_ApplyMat)] [] noLoops) 200 76 Try.f76 (argsA [.pair (.pair (.pair (.pair (.int .i64) (.int .i64)) (.pair (.pair (.int .i64) (.int .i64)) (.pair (.int .i64) (.int .i64)))) (.pair (.pair (.pair (.int .i64) (.int .i64)) (.pair (.pair (.int .i64) (.int .i64)) (.pair (.int .i64) (.int .i64)))) (.pair (.pair (.int .i64) (.int .i64)) (.pair (.pair (.int .i64) (.int .i64)) (.pair (.int .i64) (.int .i64)))))) (.pair (.pair (.int .i64) (.int .i64)) (.pair (.pair (.int .i64) (.int .i64)) (.pair (.int .i64) (.int .i64)))), .pair (.pair (.int .i64) (.int .i64)) (.pair (.pair (.int .i64) (.int .i64)) (.pair (.int .i64) (.int .i64)))] x) [] (fun v h => toRes h [.pair (.pair (.int .i64) (.int .i64)) (.pair (.pair (.int .i64) (.int .i64)) (.pair (.int .i64) (.int .i64)))] v) = (t_armplanref1_Apply x.1 x.2.1).optA (fun r => (r, ())) := by
  intro x; kernel_rfl
theorem fn_armplanref1_Apply : FnOk Try.prog 76 [.pair (.pair (.pair (.pair (.int .i64) (.int .i64)) (.pair (.pair (.int .i64) (.int .i64)) (.pair (.int .i64) (.int .i64)))) (.pair (.pair (.pair (.int .i64) (.int .i64)) (.pair (.pair (.int .i64) (.int .i64)) (.pair (.int .i64) (.int .i64)))) (.pair (.pair (.int .i64) (.int .i64)) (.pair (.pair (.int .i64) (.int .i64)) (.pair (.int .i64) (.int .i64)))))) (.pair (.pair (.int .i64) (.int .i64)) (.pair (.pair (.int .i64) (.int .i64)) (.pair (.int .i64) (.int .i64)))), .pair (.pair (.int .i64) (.int .i64)) (.pair (.pair (.int .i64) (.int .i64)) (.pair (.int .i64) (.int .i64)))] [.pair (.pair (.int .i64) (.int .i64)) (.pair (.pair (.int .i64) (.int .i64)) (.pair (.int .i64) (.int .i64)))] (fun x => some ((fun r => (r, ())) (armplanref1_Apply x.1 x.2.1))) :=
  fn_tot (t := fun (x : Ar [.pair (.pair (.pair (.pair (.int .i64) (.int .i64)) (.pair (.pair (.int .i64) (.int .i64)) (.pair (.int .i64) (.int .i64)))) (.pair (.pair (.pair (.int .i64) (.int .i64)) (.pair (.pair (.int .i64) (.int .i64)) (.pair (.int .i64) (.int .i64)))) (.pair (.pair (.int .i64) (.int .i64)) (.pair (.pair (.int .i64) (.int .i64)) (.pair (.int .i64) (.int .i64)))))) (.pair (.pair (.int .i64) (.int .i64)) (.pair (.pair (.int .i64) (.int .i64)) (.pair (.int .i64) (.int .i64)))), .pair (.pair (.int .i64) (.int .i64)) (.pair (.pair (.int .i64) (.int .i64)) (.pair (.int .i64) (.int .i64)))]) => t_armplanref1_Apply x.1 x.2.1) (R := ((Int × Int) × ((Int × Int) × (Int × Int)))) (Ts := [.pair (.pair (.int .i64) (.int .i64)) (.pair (.pair (.int .i64) (.int .i64)) (.pair (.int .i64) (.int .i64)))]) (mk := (fun r => (r, ()))) (mkC_ok dtys_ok deqs_ok (fns_cons ok_armplanref1_AddVec (fns_cons ok_armplanref1_ApplyMat (fns_nil _))) (inl_nil _) noLoops_ok mixed) Try.func76 run_armplanref1_Apply (fun _ => by kernel_rfl)
def hd_armplanref1_Apply : Hd := dataHd [.pair (.pair (.pair (.pair (.int .i64) (.int .i64)) (.pair (.pair (.int .i64) (.int .i64)) (.pair (.int .i64) (.int .i64)))) (.pair (.pair (.pair (.int .i64) (.int .i64)) (.pair (.pair (.int .i64) (.int .i64)) (.pair (.int .i64) (.int .i64)))) (.pair (.pair (.int .i64) (.int .i64)) (.pair (.pair (.int .i64) (.int .i64)) (.pair (.int .i64) (.int .i64)))))) (.pair (.pair (.int .i64) (.int .i64)) (.pair (.pair (.int .i64) (.int .i64)) (.pair (.int .i64) (.int .i64)))), .pair (.pair (.int .i64) (.int .i64)) (.pair (.pair (.int .i64) (.int .i64)) (.pair (.int .i64) (.int .i64)))] [.pair (.pair (.int .i64) (.int .i64)) (.pair (.pair (.int .i64) (.int .i64)) (.pair (.int .i64) (.int .i64)))] (fun x => some ((fun r => (r, ())) (armplanref1_Apply x.1 x.2.1)))
theorem ok_armplanref1_Apply : HdOk Try.prog 76 hd_armplanref1_Apply.sem ∧ Enters Try.prog 76 := data_ok fn_armplanref1_Apply Try.func76 (by kernel_rfl) (by kernel_rfl)

end Go.RX

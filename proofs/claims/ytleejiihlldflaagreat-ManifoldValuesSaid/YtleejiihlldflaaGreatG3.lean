/-
  The contracts of functions.
-/
import Derived.Test.YtleejiihlldflaaGreatRu
import Derived.Test.YtleejiihlldflaaGreatProg
import Derived.Test.YtleejiihlldflaaGreatSb
namespace Go.RX
open Go.Proofs

def tys : List (Nat × TRow) := [(2, ⟨.int .i64, 1, 8, [.int .i64 0], .int .i64⟩),
  (46, ⟨.struct [(0, 1), (1, 1)], 2, 16, [.int .i64 0, .int .i64 0], .pair (.int .i64) (.int .i64)⟩),
  (51, ⟨.slice 2, 1, 24, [.slice none 0 0], .list (.int .i64)⟩),
  (170, ⟨.arr 11 2, 11, 88, [.int .i64 0, .int .i64 0, .int .i64 0, .int .i64 0, .int .i64 0, .int .i64 0, .int .i64 0, .int .i64 0, .int .i64 0, .int .i64 0, .int .i64 0], .pair (.int .i64) (.pair (.int .i64) (.pair (.int .i64) (.pair (.int .i64) (.pair (.int .i64) (.pair (.int .i64) (.pair (.int .i64) (.pair (.int .i64) (.pair (.int .i64) (.pair (.int .i64) (.int .i64))))))))))⟩),
  (175, ⟨.struct [(0, 11), (11, 11)], 22, 176, [.int .i64 0, .int .i64 0, .int .i64 0, .int .i64 0, .int .i64 0, .int .i64 0, .int .i64 0, .int .i64 0, .int .i64 0, .int .i64 0, .int .i64 0, .int .i64 0, .int .i64 0, .int .i64 0, .int .i64 0, .int .i64 0, .int .i64 0, .int .i64 0, .int .i64 0, .int .i64 0, .int .i64 0, .int .i64 0], .pair (.pair (.int .i64) (.pair (.int .i64) (.pair (.int .i64) (.pair (.int .i64) (.pair (.int .i64) (.pair (.int .i64) (.pair (.int .i64) (.pair (.int .i64) (.pair (.int .i64) (.pair (.int .i64) (.int .i64))))))))))) (.pair (.int .i64) (.pair (.int .i64) (.pair (.int .i64) (.pair (.int .i64) (.pair (.int .i64) (.pair (.int .i64) (.pair (.int .i64) (.pair (.int .i64) (.pair (.int .i64) (.pair (.int .i64) (.int .i64)))))))))))⟩)]
def eqs : List (Nat × (Bool × List TK)) := []
theorem tys_ok : tableOk Tryz.prog tys = true := by kernel_rfl
theorem eqs_ok : eqsOk Tryz.prog eqs = true := by kernel_rfl
theorem mixed : Tryz.prog.follows .mixedOrders = true := by kernel_rfl

/- armplan/armplanmake.Round -/
def t_armplanmake_Round (a0 : Int) (a1 : Int) : Tr Int :=
  let x1 : Int := Int.tmod a0 a1
  .br (!decide (a1 = 0)) (
   let x2 : Bool := decide (x1 < 0)
   .br (x2) (
    let x3 : Int := IntKind.wrap .i64 (x1 + a1)
    .leaf x3) (
    .leaf x1)) .fail
def armplanmake_Round (a0 : Int) (a1 : Int) : Int := (t_armplanmake_Round a0 a1).val
def dom_armplanmake_Round (a0 : Int) (a1 : Int) : Bool := (t_armplanmake_Round a0 a1).dom
theorem run_armplanmake_Round : ∀ x, runF (mkC tys eqs [] [] noLoops) 200 8 Tryz.f8 (argsA [.int .i64, .int .i64] x) [] (fun v h => toRes h [.int .i64] v) = (t_armplanmake_Round x.1 x.2.1).optA (fun r => (r, ())) := by
  intro x; kernel_rfl
theorem fn_armplanmake_Round : FnOk Tryz.prog 8 [.int .i64, .int .i64] [.int .i64] (fun x => bif dom_armplanmake_Round x.1 x.2.1 then some ((fun r => (r, ())) (armplanmake_Round x.1 x.2.1)) else none) :=
  fn_part (t := fun (x : Ar [.int .i64, .int .i64]) => t_armplanmake_Round x.1 x.2.1) (R := Int) (Ts := [.int .i64]) (mk := (fun r => (r, ()))) (mkC_ok tys_ok eqs_ok (fns_nil _) (inl_nil _) noLoops_ok mixed) Tryz.func8 run_armplanmake_Round
def hd_armplanmake_Round : Hd := guardHd [.int .i64, .int .i64] [.int .i64] (fun x => dom_armplanmake_Round x.1 x.2.1) (fun x => (fun r => (r, ())) (armplanmake_Round x.1 x.2.1))
theorem ok_armplanmake_Round : HdOk Tryz.prog 8 hd_armplanmake_Round.sem ∧ Enters Tryz.prog 8 := guard_ok fn_armplanmake_Round Tryz.func8 (by kernel_rfl) (by kernel_rfl)

/- armplan/angle.mod -/
def t_angle_mod (a0 : Int) : Tr Int :=
  let x1 : Int := Int.tmod a0 65536
  let x2 : Bool := decide (x1 < 0)
  .br (x2) (
   let x3 : Int := IntKind.wrap .i64 (x1 + 65536)
   .leaf x3) (
   .leaf x1)
def angle_mod (a0 : Int) : Int := (t_angle_mod a0).val
theorem run_angle_mod : ∀ x, runF (mkC tys eqs [] [] noLoops) 200 160 Tryz.f160 (argsA [.int .i64] x) [] (fun v h => toRes h [.int .i64] v) = (t_angle_mod x.1).optA (fun r => (r, ())) := by
  intro x; kernel_rfl
theorem fn_angle_mod : FnOk Tryz.prog 160 [.int .i64] [.int .i64] (fun x => some ((fun r => (r, ())) (angle_mod x.1))) :=
  fn_tot (t := fun (x : Ar [.int .i64]) => t_angle_mod x.1) (R := Int) (Ts := [.int .i64]) (mk := (fun r => (r, ()))) (mkC_ok tys_ok eqs_ok (fns_nil _) (inl_nil _) noLoops_ok mixed) Tryz.func160 run_angle_mod (fun _ => by kernel_rfl)
def hd_angle_mod : Hd := dataHd [.int .i64] [.int .i64] (fun x => some ((fun r => (r, ())) (angle_mod x.1)))
theorem ok_angle_mod : HdOk Tryz.prog 160 hd_angle_mod.sem ∧ Enters Tryz.prog 160 := data_ok fn_angle_mod Tryz.func160 (by kernel_rfl) (by kernel_rfl)

/- armplan/angle.up -/
def t_angle_up (a0 : Int) (a1 : Int) : Tr Int :=
  let x1 : Int := IntKind.wrap .i64 (a0 + a1)
  let x2 : Int := IntKind.wrap .i64 (x1 - 1)
  let x3 : Int := IntKind.wrap .i64 (Int.tdiv x2 a1)
  .br (!decide (a1 = 0)) (
   .leaf x3) .fail
def angle_up (a0 : Int) (a1 : Int) : Int := (t_angle_up a0 a1).val
def dom_angle_up (a0 : Int) (a1 : Int) : Bool := (t_angle_up a0 a1).dom
theorem run_angle_up : ∀ x, runF (mkC tys eqs [] [] noLoops) 200 166 Tryz.f166 (argsA [.int .i64, .int .i64] x) [] (fun v h => toRes h [.int .i64] v) = (t_angle_up x.1 x.2.1).optA (fun r => (r, ())) := by
  intro x; kernel_rfl
theorem fn_angle_up : FnOk Tryz.prog 166 [.int .i64, .int .i64] [.int .i64] (fun x => bif dom_angle_up x.1 x.2.1 then some ((fun r => (r, ())) (angle_up x.1 x.2.1)) else none) :=
  fn_part (t := fun (x : Ar [.int .i64, .int .i64]) => t_angle_up x.1 x.2.1) (R := Int) (Ts := [.int .i64]) (mk := (fun r => (r, ()))) (mkC_ok tys_ok eqs_ok (fns_nil _) (inl_nil _) noLoops_ok mixed) Tryz.func166 run_angle_up
def hd_angle_up : Hd := guardHd [.int .i64, .int .i64] [.int .i64] (fun x => dom_angle_up x.1 x.2.1) (fun x => (fun r => (r, ())) (angle_up x.1 x.2.1))
theorem ok_angle_up : HdOk Tryz.prog 166 hd_angle_up.sem ∧ Enters Tryz.prog 166 := guard_ok fn_angle_up Tryz.func166 (by kernel_rfl) (by kernel_rfl)

/- armplan/angle.powersOf -/
def t_angle_powersOf (a0 : Int) : Tr ((Int × (Int × (Int × (Int × (Int × (Int × (Int × (Int × (Int × (Int × Int)))))))))) × (Int × (Int × (Int × (Int × (Int × (Int × (Int × (Int × (Int × (Int × Int))))))))))) :=
  let x1 : Int := IntKind.wrap .i64 (a0 * 6746518852)
  let x2 : Int := IntKind.wrap .i64 (Int.tdiv x1 65536)
  let x3 : Int := IntKind.wrap .i64 (a0 * 6746518853)
  let r4 : Int := angle_up x3 65536
  let x5 : Int := IntKind.wrap .i64 (x2 * x2)
  let x6 : Int := IntKind.wrap .i64 (Int.tdiv x5 1073741824)
  let x7 : Int := IntKind.wrap .i64 (r4 * r4)
  let r8 : Int := angle_up x7 1073741824
  let x9 : Int := IntKind.wrap .i64 (x6 * x2)
  let x10 : Int := IntKind.wrap .i64 (Int.tdiv x9 1073741824)
  let x11 : Int := IntKind.wrap .i64 (r8 * r4)
  let r12 : Int := angle_up x11 1073741824
  let x13 : Int := IntKind.wrap .i64 (x10 * x2)
  let x14 : Int := IntKind.wrap .i64 (Int.tdiv x13 1073741824)
  let x15 : Int := IntKind.wrap .i64 (r12 * r4)
  let r16 : Int := angle_up x15 1073741824
  let x17 : Int := IntKind.wrap .i64 (x14 * x2)
  let x18 : Int := IntKind.wrap .i64 (Int.tdiv x17 1073741824)
  let x19 : Int := IntKind.wrap .i64 (r16 * r4)
  let r20 : Int := angle_up x19 1073741824
  let x21 : Int := IntKind.wrap .i64 (x18 * x2)
  let x22 : Int := IntKind.wrap .i64 (Int.tdiv x21 1073741824)
  let x23 : Int := IntKind.wrap .i64 (r20 * r4)
  let r24 : Int := angle_up x23 1073741824
  let x25 : Int := IntKind.wrap .i64 (x22 * x2)
  let x26 : Int := IntKind.wrap .i64 (Int.tdiv x25 1073741824)
  let x27 : Int := IntKind.wrap .i64 (r24 * r4)
  let r28 : Int := angle_up x27 1073741824
  let x29 : Int := IntKind.wrap .i64 (x26 * x2)
  let x30 : Int := IntKind.wrap .i64 (Int.tdiv x29 1073741824)
  let x31 : Int := IntKind.wrap .i64 (r28 * r4)
  let r32 : Int := angle_up x31 1073741824
  let x33 : Int := IntKind.wrap .i64 (x30 * x2)
  let x34 : Int := IntKind.wrap .i64 (Int.tdiv x33 1073741824)
  let x35 : Int := IntKind.wrap .i64 (r32 * r4)
  let r36 : Int := angle_up x35 1073741824
  let x37 : Int := IntKind.wrap .i64 (x34 * x2)
  let x38 : Int := IntKind.wrap .i64 (Int.tdiv x37 1073741824)
  let x39 : Int := IntKind.wrap .i64 (r36 * r4)
  let r40 : Int := angle_up x39 1073741824
  .leaf ((0, (x2, (x6, (x10, (x14, (x18, (x22, (x26, (x30, (x34, x38)))))))))), (0, (r4, (r8, (r12, (r16, (r20, (r24, (r28, (r32, (r36, r40)))))))))))
def angle_powersOf (a0 : Int) : ((Int × (Int × (Int × (Int × (Int × (Int × (Int × (Int × (Int × (Int × Int)))))))))) × (Int × (Int × (Int × (Int × (Int × (Int × (Int × (Int × (Int × (Int × Int))))))))))) := (t_angle_powersOf a0).val
theorem run_angle_powersOf : ∀ x, runF (mkC tys eqs [(166, hd_angle_up)] [] noLoops) 200 164 Tryz.f164 (argsA [.int .i64] x) [] (fun v h => toRes h [.pair (.pair (.int .i64) (.pair (.int .i64) (.pair (.int .i64) (.pair (.int .i64) (.pair (.int .i64) (.pair (.int .i64) (.pair (.int .i64) (.pair (.int .i64) (.pair (.int .i64) (.pair (.int .i64) (.int .i64))))))))))) (.pair (.int .i64) (.pair (.int .i64) (.pair (.int .i64) (.pair (.int .i64) (.pair (.int .i64) (.pair (.int .i64) (.pair (.int .i64) (.pair (.int .i64) (.pair (.int .i64) (.pair (.int .i64) (.int .i64)))))))))))] v) = (t_angle_powersOf x.1).optA (fun r => (r, ())) := by
  intro x; kernel_rfl
theorem fn_angle_powersOf : FnOk Tryz.prog 164 [.int .i64] [.pair (.pair (.int .i64) (.pair (.int .i64) (.pair (.int .i64) (.pair (.int .i64) (.pair (.int .i64) (.pair (.int .i64) (.pair (.int .i64) (.pair (.int .i64) (.pair (.int .i64) (.pair (.int .i64) (.int .i64))))))))))) (.pair (.int .i64) (.pair (.int .i64) (.pair (.int .i64) (.pair (.int .i64) (.pair (.int .i64) (.pair (.int .i64) (.pair (.int .i64) (.pair (.int .i64) (.pair (.int .i64) (.pair (.int .i64) (.int .i64)))))))))))] (fun x => some ((fun r => (r, ())) (angle_powersOf x.1))) :=
  fn_tot (t := fun (x : Ar [.int .i64]) => t_angle_powersOf x.1) (R := ((Int × (Int × (Int × (Int × (Int × (Int × (Int × (Int × (Int × (Int × Int)))))))))) × (Int × (Int × (Int × (Int × (Int × (Int × (Int × (Int × (Int × (Int × Int)))))))))))) (Ts := [.pair (.pair (.int .i64) (.pair (.int .i64) (.pair (.int .i64) (.pair (.int .i64) (.pair (.int .i64) (.pair (.int .i64) (.pair (.int .i64) (.pair (.int .i64) (.pair (.int .i64) (.pair (.int .i64) (.int .i64))))))))))) (.pair (.int .i64) (.pair (.int .i64) (.pair (.int .i64) (.pair (.int .i64) (.pair (.int .i64) (.pair (.int .i64) (.pair (.int .i64) (.pair (.int .i64) (.pair (.int .i64) (.pair (.int .i64) (.int .i64)))))))))))]) (mk := (fun r => (r, ()))) (mkC_ok tys_ok eqs_ok (fns_cons ok_angle_up (fns_nil _)) (inl_nil _) noLoops_ok mixed) Tryz.func164 run_angle_powersOf (fun _ => by kernel_rfl)
def hd_angle_powersOf : Hd := dataHd [.int .i64] [.pair (.pair (.int .i64) (.pair (.int .i64) (.pair (.int .i64) (.pair (.int .i64) (.pair (.int .i64) (.pair (.int .i64) (.pair (.int .i64) (.pair (.int .i64) (.pair (.int .i64) (.pair (.int .i64) (.int .i64))))))))))) (.pair (.int .i64) (.pair (.int .i64) (.pair (.int .i64) (.pair (.int .i64) (.pair (.int .i64) (.pair (.int .i64) (.pair (.int .i64) (.pair (.int .i64) (.pair (.int .i64) (.pair (.int .i64) (.int .i64)))))))))))] (fun x => some ((fun r => (r, ())) (angle_powersOf x.1)))
theorem ok_angle_powersOf : HdOk Tryz.prog 164 hd_angle_powersOf.sem ∧ Enters Tryz.prog 164 := data_ok fn_angle_powersOf Tryz.func164 (by kernel_rfl) (by kernel_rfl)

/- armplan/fixed.ShiftDown -/
def t_fixed_ShiftDown (a0 : Int) (a1 : Int) : Tr Int :=
  let x1 : Bool := decide (a1 < 0)
  .br (x1) (
   .leaf a0) (
   let x2 : Int := shrI .i64 a0 a1
   .br (decide (0 ≤ a1)) (
    .leaf x2) .fail)
def fixed_ShiftDown (a0 : Int) (a1 : Int) : Int := (t_fixed_ShiftDown a0 a1).val
def dom_fixed_ShiftDown (a0 : Int) (a1 : Int) : Bool := (t_fixed_ShiftDown a0 a1).dom
theorem run_fixed_ShiftDown : ∀ x, runF (mkC tys eqs [] [] noLoops) 200 148 Tryz.f148 (argsA [.int .i64, .int .i64] x) [] (fun v h => toRes h [.int .i64] v) = (t_fixed_ShiftDown x.1 x.2.1).optA (fun r => (r, ())) := by
  intro x; kernel_rfl
theorem fn_fixed_ShiftDown : FnOk Tryz.prog 148 [.int .i64, .int .i64] [.int .i64] (fun x => bif dom_fixed_ShiftDown x.1 x.2.1 then some ((fun r => (r, ())) (fixed_ShiftDown x.1 x.2.1)) else none) :=
  fn_part (t := fun (x : Ar [.int .i64, .int .i64]) => t_fixed_ShiftDown x.1 x.2.1) (R := Int) (Ts := [.int .i64]) (mk := (fun r => (r, ()))) (mkC_ok tys_ok eqs_ok (fns_nil _) (inl_nil _) noLoops_ok mixed) Tryz.func148 run_fixed_ShiftDown
def hd_fixed_ShiftDown : Hd := guardHd [.int .i64, .int .i64] [.int .i64] (fun x => dom_fixed_ShiftDown x.1 x.2.1) (fun x => (fun r => (r, ())) (fixed_ShiftDown x.1 x.2.1))
theorem ok_fixed_ShiftDown : HdOk Tryz.prog 148 hd_fixed_ShiftDown.sem ∧ Enters Tryz.prog 148 := guard_ok fn_fixed_ShiftDown Tryz.func148 (by kernel_rfl) (by kernel_rfl)

/- armplan/fixed.ShiftUp -/
def t_fixed_ShiftUp (a0 : Int) (a1 : Int) : Tr Int :=
  let r1 : Int := fixed_ShiftDown a0 a1
  .br (dom_fixed_ShiftDown a0 a1) (
   let x2 : Bool := decide (0 ≤ a1)
   .br (x2) (
    let x3 : Int := shlI .i64 r1 a1
    .br (decide (0 ≤ a1)) (
     let x4 : Bool := !decide (x3 = a0)
     .br (x4) (
      let x5 : Int := IntKind.wrap .i64 (r1 + 1)
      .leaf x5) (
      .leaf r1)) .fail) (
    .leaf r1)) .fail
def fixed_ShiftUp (a0 : Int) (a1 : Int) : Int := (t_fixed_ShiftUp a0 a1).val
def dom_fixed_ShiftUp (a0 : Int) (a1 : Int) : Bool := (t_fixed_ShiftUp a0 a1).dom
theorem run_fixed_ShiftUp : ∀ x, runF (mkC tys eqs [(148, hd_fixed_ShiftDown)] [] noLoops) 200 149 Tryz.f149 (argsA [.int .i64, .int .i64] x) [] (fun v h => toRes h [.int .i64] v) = (t_fixed_ShiftUp x.1 x.2.1).optA (fun r => (r, ())) := by
  intro x; kernel_rfl
theorem fn_fixed_ShiftUp : FnOk Tryz.prog 149 [.int .i64, .int .i64] [.int .i64] (fun x => bif dom_fixed_ShiftUp x.1 x.2.1 then some ((fun r => (r, ())) (fixed_ShiftUp x.1 x.2.1)) else none) :=
  fn_part (t := fun (x : Ar [.int .i64, .int .i64]) => t_fixed_ShiftUp x.1 x.2.1) (R := Int) (Ts := [.int .i64]) (mk := (fun r => (r, ()))) (mkC_ok tys_ok eqs_ok (fns_cons ok_fixed_ShiftDown (fns_nil _)) (inl_nil _) noLoops_ok mixed) Tryz.func149 run_fixed_ShiftUp
def hd_fixed_ShiftUp : Hd := guardHd [.int .i64, .int .i64] [.int .i64] (fun x => dom_fixed_ShiftUp x.1 x.2.1) (fun x => (fun r => (r, ())) (fixed_ShiftUp x.1 x.2.1))
theorem ok_fixed_ShiftUp : HdOk Tryz.prog 149 hd_fixed_ShiftUp.sem ∧ Enters Tryz.prog 149 := guard_ok fn_fixed_ShiftUp Tryz.func149 (by kernel_rfl) (by kernel_rfl)

/- armplan/angle.enclosure -/
def t_angle_enclosure (a0 : Int) (a1 : Int) : Tr (Int × Int) :=
  let r1 : Int := fixed_ShiftDown a0 14
  let x2 : Int := if r1 > 0 then r1 else 0
  let r3 : Int := fixed_ShiftUp a1 14
  let x4 : Int := if r3 < 65536 then r3 else 65536
  .leaf (x2, x4)
def angle_enclosure (a0 : Int) (a1 : Int) : (Int × Int) := (t_angle_enclosure a0 a1).val
theorem run_angle_enclosure : ∀ x, runF (mkC tys eqs [(148, hd_fixed_ShiftDown), (149, hd_fixed_ShiftUp)] [] noLoops) 200 167 Tryz.f167 (argsA [.int .i64, .int .i64] x) [] (fun v h => toRes h [.pair (.int .i64) (.int .i64)] v) = (t_angle_enclosure x.1 x.2.1).optA (fun r => (r, ())) := by
  intro x; kernel_rfl
theorem fn_angle_enclosure : FnOk Tryz.prog 167 [.int .i64, .int .i64] [.pair (.int .i64) (.int .i64)] (fun x => some ((fun r => (r, ())) (angle_enclosure x.1 x.2.1))) :=
  fn_tot (t := fun (x : Ar [.int .i64, .int .i64]) => t_angle_enclosure x.1 x.2.1) (R := (Int × Int)) (Ts := [.pair (.int .i64) (.int .i64)]) (mk := (fun r => (r, ()))) (mkC_ok tys_ok eqs_ok (fns_cons ok_fixed_ShiftDown (fns_cons ok_fixed_ShiftUp (fns_nil _))) (inl_nil _) noLoops_ok mixed) Tryz.func167 run_angle_enclosure (fun _ => by kernel_rfl)
def hd_angle_enclosure : Hd := dataHd [.int .i64, .int .i64] [.pair (.int .i64) (.int .i64)] (fun x => some ((fun r => (r, ())) (angle_enclosure x.1 x.2.1)))
theorem ok_angle_enclosure : HdOk Tryz.prog 167 hd_angle_enclosure.sem ∧ Enters Tryz.prog 167 := data_ok fn_angle_enclosure Tryz.func167 (by kernel_rfl) (by kernel_rfl)

/- armplan/angle.sine -/
def t_angle_sine (a0 : Int) : Tr (Int × Int) :=
  let r1 : ((Int × (Int × (Int × (Int × (Int × (Int × (Int × (Int × (Int × (Int × Int)))))))))) × (Int × (Int × (Int × (Int × (Int × (Int × (Int × (Int × (Int × (Int × Int))))))))))) := angle_powersOf a0
  let r2 : Int := angle_up r1.2.2.2.2.1 6
  let x3 : Int := IntKind.wrap .i64 (0 - r2)
  let x4 : Int := IntKind.wrap .i64 (Int.tdiv r1.1.2.2.2.2.2.1 120)
  let r5 : Int := angle_up r1.2.2.2.2.2.2.2.2.1 5040
  let x6 : Int := IntKind.wrap .i64 (0 - r5)
  let x7 : Int := IntKind.wrap .i64 (0 + r1.1.2.1)
  let x8 : Int := IntKind.wrap .i64 (x7 + x3)
  let x9 : Int := IntKind.wrap .i64 (x8 + x4)
  let x10 : Int := IntKind.wrap .i64 (x9 + x6)
  let x11 : Int := IntKind.wrap .i64 (Int.tdiv r1.1.2.2.2.1 6)
  let x12 : Int := IntKind.wrap .i64 (0 - x11)
  let r13 : Int := angle_up r1.2.2.2.2.2.2.1 120
  let x14 : Int := IntKind.wrap .i64 (Int.tdiv r1.1.2.2.2.2.2.2.2.1 5040)
  let x15 : Int := IntKind.wrap .i64 (0 - x14)
  let r16 : Int := angle_up r1.2.2.2.2.2.2.2.2.2.2.1 362880
  let x17 : Int := IntKind.wrap .i64 (0 + r1.2.2.1)
  let x18 : Int := IntKind.wrap .i64 (x17 + x12)
  let x19 : Int := IntKind.wrap .i64 (x18 + r13)
  let x20 : Int := IntKind.wrap .i64 (x19 + x15)
  let x21 : Int := IntKind.wrap .i64 (x20 + r16)
  let r22 : (Int × Int) := angle_enclosure x10 x21
  .leaf r22
def angle_sine (a0 : Int) : (Int × Int) := (t_angle_sine a0).val
theorem run_angle_sine : ∀ x, runF (mkC tys eqs [(164, hd_angle_powersOf), (166, hd_angle_up), (167, hd_angle_enclosure)] [(165, Tryz.f165)] noLoops) 200 162 Tryz.f162 (argsA [.int .i64] x) [] (fun v h => toRes h [.pair (.int .i64) (.int .i64)] v) = (t_angle_sine x.1).optA (fun r => (r, ())) := by
  intro x; kernel_rfl
theorem fn_angle_sine : FnOk Tryz.prog 162 [.int .i64] [.pair (.int .i64) (.int .i64)] (fun x => some ((fun r => (r, ())) (angle_sine x.1))) :=
  fn_tot (t := fun (x : Ar [.int .i64]) => t_angle_sine x.1) (R := (Int × Int)) (Ts := [.pair (.int .i64) (.int .i64)]) (mk := (fun r => (r, ()))) (mkC_ok tys_ok eqs_ok (fns_cons ok_angle_powersOf (fns_cons ok_angle_up (fns_cons ok_angle_enclosure (fns_nil _)))) (inl_cons Tryz.func165 (by kernel_rfl) (inl_nil _)) noLoops_ok mixed) Tryz.func162 run_angle_sine (fun _ => by kernel_rfl)
def hd_angle_sine : Hd := dataHd [.int .i64] [.pair (.int .i64) (.int .i64)] (fun x => some ((fun r => (r, ())) (angle_sine x.1)))
theorem ok_angle_sine : HdOk Tryz.prog 162 hd_angle_sine.sem ∧ Enters Tryz.prog 162 := data_ok fn_angle_sine Tryz.func162 (by kernel_rfl) (by kernel_rfl)

/- armplan/angle.cosine -/
def t_angle_cosine (a0 : Int) : Tr (Int × Int) :=
  let r1 : ((Int × (Int × (Int × (Int × (Int × (Int × (Int × (Int × (Int × (Int × Int)))))))))) × (Int × (Int × (Int × (Int × (Int × (Int × (Int × (Int × (Int × (Int × Int))))))))))) := angle_powersOf a0
  let r2 : Int := angle_up r1.2.2.2.1 2
  let x3 : Int := IntKind.wrap .i64 (0 - r2)
  let x4 : Int := IntKind.wrap .i64 (Int.tdiv r1.1.2.2.2.2.1 24)
  let r5 : Int := angle_up r1.2.2.2.2.2.2.2.1 720
  let x6 : Int := IntKind.wrap .i64 (0 - r5)
  let x7 : Int := IntKind.wrap .i64 (Int.tdiv r1.1.2.2.2.2.2.2.2.2.1 40320)
  let r8 : Int := angle_up r1.2.2.2.2.2.2.2.2.2.2.2 3628800
  let x9 : Int := IntKind.wrap .i64 (0 - r8)
  let x10 : Int := IntKind.wrap .i64 (1073741824 + x3)
  let x11 : Int := IntKind.wrap .i64 (x10 + x4)
  let x12 : Int := IntKind.wrap .i64 (x11 + x6)
  let x13 : Int := IntKind.wrap .i64 (x12 + x7)
  let x14 : Int := IntKind.wrap .i64 (x13 + x9)
  let x15 : Int := IntKind.wrap .i64 (Int.tdiv r1.1.2.2.1 2)
  let x16 : Int := IntKind.wrap .i64 (0 - x15)
  let r17 : Int := angle_up r1.2.2.2.2.2.1 24
  let x18 : Int := IntKind.wrap .i64 (Int.tdiv r1.1.2.2.2.2.2.2.1 720)
  let x19 : Int := IntKind.wrap .i64 (0 - x18)
  let r20 : Int := angle_up r1.2.2.2.2.2.2.2.2.2.1 40320
  let x21 : Int := IntKind.wrap .i64 (1073741824 + x16)
  let x22 : Int := IntKind.wrap .i64 (x21 + r17)
  let x23 : Int := IntKind.wrap .i64 (x22 + x19)
  let x24 : Int := IntKind.wrap .i64 (x23 + r20)
  let r25 : (Int × Int) := angle_enclosure x14 x24
  .leaf r25
def angle_cosine (a0 : Int) : (Int × Int) := (t_angle_cosine a0).val
theorem run_angle_cosine : ∀ x, runF (mkC tys eqs [(164, hd_angle_powersOf), (166, hd_angle_up), (167, hd_angle_enclosure)] [(165, Tryz.f165)] noLoops) 200 163 Tryz.f163 (argsA [.int .i64] x) [] (fun v h => toRes h [.pair (.int .i64) (.int .i64)] v) = (t_angle_cosine x.1).optA (fun r => (r, ())) := by
  intro x; kernel_rfl
theorem fn_angle_cosine : FnOk Tryz.prog 163 [.int .i64] [.pair (.int .i64) (.int .i64)] (fun x => some ((fun r => (r, ())) (angle_cosine x.1))) :=
  fn_tot (t := fun (x : Ar [.int .i64]) => t_angle_cosine x.1) (R := (Int × Int)) (Ts := [.pair (.int .i64) (.int .i64)]) (mk := (fun r => (r, ()))) (mkC_ok tys_ok eqs_ok (fns_cons ok_angle_powersOf (fns_cons ok_angle_up (fns_cons ok_angle_enclosure (fns_nil _)))) (inl_cons Tryz.func165 (by kernel_rfl) (inl_nil _)) noLoops_ok mixed) Tryz.func163 run_angle_cosine (fun _ => by kernel_rfl)
def hd_angle_cosine : Hd := dataHd [.int .i64] [.pair (.int .i64) (.int .i64)] (fun x => some ((fun r => (r, ())) (angle_cosine x.1)))
theorem ok_angle_cosine : HdOk Tryz.prog 163 hd_angle_cosine.sem ∧ Enters Tryz.prog 163 := data_ok fn_angle_cosine Tryz.func163 (by kernel_rfl) (by kernel_rfl)

/- armplan/angle.rising -/
def t_angle_rising (a0 : Int) : Tr (Int × Int) :=
  let x1 : Bool := decide (a0 ≤ 8192)
  .br (x1) (
   let r2 : (Int × Int) := angle_sine a0
   .leaf r2) (
   let x3 : Int := IntKind.wrap .i64 (16384 - a0)
   let r4 : (Int × Int) := angle_cosine x3
   .leaf r4)
def angle_rising (a0 : Int) : (Int × Int) := (t_angle_rising a0).val
theorem run_angle_rising : ∀ x, runF (mkC tys eqs [(162, hd_angle_sine), (163, hd_angle_cosine)] [] noLoops) 200 161 Tryz.f161 (argsA [.int .i64] x) [] (fun v h => toRes h [.pair (.int .i64) (.int .i64)] v) = (t_angle_rising x.1).optA (fun r => (r, ())) := by
  intro x; kernel_rfl
theorem fn_angle_rising : FnOk Tryz.prog 161 [.int .i64] [.pair (.int .i64) (.int .i64)] (fun x => some ((fun r => (r, ())) (angle_rising x.1))) :=
  fn_tot (t := fun (x : Ar [.int .i64]) => t_angle_rising x.1) (R := (Int × Int)) (Ts := [.pair (.int .i64) (.int .i64)]) (mk := (fun r => (r, ()))) (mkC_ok tys_ok eqs_ok (fns_cons ok_angle_sine (fns_cons ok_angle_cosine (fns_nil _))) (inl_nil _) noLoops_ok mixed) Tryz.func161 run_angle_rising (fun _ => by kernel_rfl)
def hd_angle_rising : Hd := dataHd [.int .i64] [.pair (.int .i64) (.int .i64)] (fun x => some ((fun r => (r, ())) (angle_rising x.1)))
theorem ok_angle_rising : HdOk Tryz.prog 161 hd_angle_rising.sem ∧ Enters Tryz.prog 161 := data_ok fn_angle_rising Tryz.func161 (by kernel_rfl) (by kernel_rfl)

/- armplan/interval.Valid -/
def t_interval_Valid (a0 : (Int × Int)) : Tr Bool :=
  let x1 : Bool := decide ((-2147483648) ≤ a0.1)
  .br (x1) (
   let x2 : Bool := decide (a0.1 ≤ a0.2)
   .br (x2) (
    let x3 : Bool := decide (a0.2 ≤ 2147483648)
    .leaf x3) (
    .leaf false)) (
   .leaf false)
def interval_Valid (a0 : (Int × Int)) : Bool := (t_interval_Valid a0).val
theorem run_interval_Valid : ∀ x, runF (mkC tys eqs [] [] noLoops) 200 100 Tryz.f100 (argsA [.pair (.int .i64) (.int .i64)] x) [] (fun v h => toRes h [.bool] v) = (t_interval_Valid x.1).optA (fun r => (r, ())) := by
  intro x; kernel_rfl
theorem fn_interval_Valid : FnOk Tryz.prog 100 [.pair (.int .i64) (.int .i64)] [.bool] (fun x => some ((fun r => (r, ())) (interval_Valid x.1))) :=
  fn_tot (t := fun (x : Ar [.pair (.int .i64) (.int .i64)]) => t_interval_Valid x.1) (R := Bool) (Ts := [.bool]) (mk := (fun r => (r, ()))) (mkC_ok tys_ok eqs_ok (fns_nil _) (inl_nil _) noLoops_ok mixed) Tryz.func100 run_interval_Valid (fun _ => by kernel_rfl)
def hd_interval_Valid : Hd := dataHd [.pair (.int .i64) (.int .i64)] [.bool] (fun x => some ((fun r => (r, ())) (interval_Valid x.1)))
theorem ok_interval_Valid : HdOk Tryz.prog 100 hd_interval_Valid.sem ∧ Enters Tryz.prog 100 := data_ok fn_interval_Valid Tryz.func100 (by kernel_rfl) (by kernel_rfl)

/- armplan/interval.Neg -/
def t_interval_Neg (a0 : (Int × Int)) : Tr (Int × Int) :=
  let r1 : Bool := interval_Valid a0
  .br ((!r1)) (
   .leaf (0, 0)) (
   let x2 : Int := IntKind.wrap .i64 (0 - a0.2)
   let x3 : Int := IntKind.wrap .i64 (0 - a0.1)
   .leaf (x2, x3))
def interval_Neg (a0 : (Int × Int)) : (Int × Int) := (t_interval_Neg a0).val
theorem run_interval_Neg : ∀ x, runF (mkC tys eqs [(100, hd_interval_Valid)] [] noLoops) 200 147 Tryz.f147 (argsA [.pair (.int .i64) (.int .i64)] x) [] (fun v h => toRes h [.pair (.int .i64) (.int .i64)] v) = (t_interval_Neg x.1).optA (fun r => (r, ())) := by
  intro x; kernel_rfl
theorem fn_interval_Neg : FnOk Tryz.prog 147 [.pair (.int .i64) (.int .i64)] [.pair (.int .i64) (.int .i64)] (fun x => some ((fun r => (r, ())) (interval_Neg x.1))) :=
  fn_tot (t := fun (x : Ar [.pair (.int .i64) (.int .i64)]) => t_interval_Neg x.1) (R := (Int × Int)) (Ts := [.pair (.int .i64) (.int .i64)]) (mk := (fun r => (r, ()))) (mkC_ok tys_ok eqs_ok (fns_cons ok_interval_Valid (fns_nil _)) (inl_nil _) noLoops_ok mixed) Tryz.func147 run_interval_Neg (fun _ => by kernel_rfl)
def hd_interval_Neg : Hd := dataHd [.pair (.int .i64) (.int .i64)] [.pair (.int .i64) (.int .i64)] (fun x => some ((fun r => (r, ())) (interval_Neg x.1)))
theorem ok_interval_Neg : HdOk Tryz.prog 147 hd_interval_Neg.sem ∧ Enters Tryz.prog 147 := data_ok fn_interval_Neg Tryz.func147 (by kernel_rfl) (by kernel_rfl)

/- armplan/angle.Sin -/
def t_angle_Sin (a0 : Int) : Tr (Int × Int) :=
  let r1 : Int := angle_mod a0
  let x2 : Int := Int.tmod r1 16384
  let x3 : Int := IntKind.wrap .i64 (Int.tdiv r1 16384)
  let x4 : Bool := decide (x3 = 0)
  .br (x4) (
   let r5 : (Int × Int) := angle_rising x2
   .leaf r5) (
   let x6 : Bool := decide (x3 = 1)
   .br (x6) (
    let x7 : Int := IntKind.wrap .i64 (16384 - x2)
    let r8 : (Int × Int) := angle_rising x7
    .leaf r8) (
    let x9 : Bool := decide (x3 = 2)
    .br (x9) (
     let r10 : (Int × Int) := angle_rising x2
     let r11 : (Int × Int) := interval_Neg r10
     .leaf r11) (
     let x12 : Int := IntKind.wrap .i64 (16384 - x2)
     let r13 : (Int × Int) := angle_rising x12
     let r14 : (Int × Int) := interval_Neg r13
     .leaf r14)))
def angle_Sin (a0 : Int) : (Int × Int) := (t_angle_Sin a0).val
theorem run_angle_Sin : ∀ x, runF (mkC tys eqs [(147, hd_interval_Neg), (160, hd_angle_mod), (161, hd_angle_rising)] [] noLoops) 200 154 Tryz.f154 (argsA [.int .i64] x) [] (fun v h => toRes h [.pair (.int .i64) (.int .i64)] v) = (t_angle_Sin x.1).optA (fun r => (r, ())) := by
  intro x; kernel_rfl
theorem fn_angle_Sin : FnOk Tryz.prog 154 [.int .i64] [.pair (.int .i64) (.int .i64)] (fun x => some ((fun r => (r, ())) (angle_Sin x.1))) :=
  fn_tot (t := fun (x : Ar [.int .i64]) => t_angle_Sin x.1) (R := (Int × Int)) (Ts := [.pair (.int .i64) (.int .i64)]) (mk := (fun r => (r, ()))) (mkC_ok tys_ok eqs_ok (fns_cons ok_interval_Neg (fns_cons ok_angle_mod (fns_cons ok_angle_rising (fns_nil _)))) (inl_nil _) noLoops_ok mixed) Tryz.func154 run_angle_Sin (fun _ => by kernel_rfl)
def hd_angle_Sin : Hd := dataHd [.int .i64] [.pair (.int .i64) (.int .i64)] (fun x => some ((fun r => (r, ())) (angle_Sin x.1)))
theorem ok_angle_Sin : HdOk Tryz.prog 154 hd_angle_Sin.sem ∧ Enters Tryz.prog 154 := data_ok fn_angle_Sin Tryz.func154 (by kernel_rfl) (by kernel_rfl)

/- armplan/armplanref1.Valid -/
def t_armplanref1_Valid (a0 : (Int × Int)) : Tr Bool :=
  let x1 : Bool := decide ((-2147483648) ≤ a0.1)
  .br (x1) (
   let x2 : Bool := decide (a0.1 ≤ a0.2)
   .br (x2) (
    let x3 : Bool := decide (a0.2 ≤ 2147483648)
    .leaf x3) (
    .leaf false)) (
   .leaf false)
def armplanref1_Valid (a0 : (Int × Int)) : Bool := (t_armplanref1_Valid a0).val
theorem run_armplanref1_Valid : ∀ x, runF (mkC tys eqs [] [] noLoops) 200 93 Tryz.f93 (argsA [.pair (.int .i64) (.int .i64)] x) [] (fun v h => toRes h [.bool] v) = (t_armplanref1_Valid x.1).optA (fun r => (r, ())) := by
  intro x; kernel_rfl
theorem fn_armplanref1_Valid : FnOk Tryz.prog 93 [.pair (.int .i64) (.int .i64)] [.bool] (fun x => some ((fun r => (r, ())) (armplanref1_Valid x.1))) :=
  fn_tot (t := fun (x : Ar [.pair (.int .i64) (.int .i64)]) => t_armplanref1_Valid x.1) (R := Bool) (Ts := [.bool]) (mk := (fun r => (r, ()))) (mkC_ok tys_ok eqs_ok (fns_nil _) (inl_nil _) noLoops_ok mixed) Tryz.func93 run_armplanref1_Valid (fun _ => by kernel_rfl)
def hd_armplanref1_Valid : Hd := dataHd [.pair (.int .i64) (.int .i64)] [.bool] (fun x => some ((fun r => (r, ())) (armplanref1_Valid x.1)))
theorem ok_armplanref1_Valid : HdOk Tryz.prog 93 hd_armplanref1_Valid.sem ∧ Enters Tryz.prog 93 := data_ok fn_armplanref1_Valid Tryz.func93 (by kernel_rfl) (by kernel_rfl)

/- armplan/armplanref1.Neg -/
def t_armplanref1_Neg (a0 : (Int × Int)) : Tr (Int × Int) :=
  let r1 : Bool := armplanref1_Valid a0
  .br ((!r1)) (
   .leaf (0, 0)) (
   let x2 : Int := IntKind.wrap .i64 (0 - a0.2)
   let x3 : Int := IntKind.wrap .i64 (0 - a0.1)
   .leaf (x2, x3))
def armplanref1_Neg (a0 : (Int × Int)) : (Int × Int) := (t_armplanref1_Neg a0).val
theorem run_armplanref1_Neg : ∀ x, runF (mkC tys eqs [(93, hd_armplanref1_Valid)] [] noLoops) 200 121 Tryz.f121 (argsA [.pair (.int .i64) (.int .i64)] x) [] (fun v h => toRes h [.pair (.int .i64) (.int .i64)] v) = (t_armplanref1_Neg x.1).optA (fun r => (r, ())) := by
  intro x; kernel_rfl
theorem fn_armplanref1_Neg : FnOk Tryz.prog 121 [.pair (.int .i64) (.int .i64)] [.pair (.int .i64) (.int .i64)] (fun x => some ((fun r => (r, ())) (armplanref1_Neg x.1))) :=
  fn_tot (t := fun (x : Ar [.pair (.int .i64) (.int .i64)]) => t_armplanref1_Neg x.1) (R := (Int × Int)) (Ts := [.pair (.int .i64) (.int .i64)]) (mk := (fun r => (r, ()))) (mkC_ok tys_ok eqs_ok (fns_cons ok_armplanref1_Valid (fns_nil _)) (inl_nil _) noLoops_ok mixed) Tryz.func121 run_armplanref1_Neg (fun _ => by kernel_rfl)
def hd_armplanref1_Neg : Hd := dataHd [.pair (.int .i64) (.int .i64)] [.pair (.int .i64) (.int .i64)] (fun x => some ((fun r => (r, ())) (armplanref1_Neg x.1)))
theorem ok_armplanref1_Neg : HdOk Tryz.prog 121 hd_armplanref1_Neg.sem ∧ Enters Tryz.prog 121 := data_ok fn_armplanref1_Neg Tryz.func121 (by kernel_rfl) (by kernel_rfl)

/- armplan/armplanref1.Mod -/
def t_armplanref1_Mod (a0 : Int) : Tr Int :=
  let x1 : Int := Int.tmod a0 65536
  let x2 : Int := IntKind.wrap .i64 (x1 + 65536)
  let x3 : Int := Int.tmod x2 65536
  .leaf x3
def armplanref1_Mod (a0 : Int) : Int := (t_armplanref1_Mod a0).val
theorem run_armplanref1_Mod : ∀ x, runF (mkC tys eqs [] [] noLoops) 200 143 Tryz.f143 (argsA [.int .i64] x) [] (fun v h => toRes h [.int .i64] v) = (t_armplanref1_Mod x.1).optA (fun r => (r, ())) := by
  intro x; kernel_rfl
theorem fn_armplanref1_Mod : FnOk Tryz.prog 143 [.int .i64] [.int .i64] (fun x => some ((fun r => (r, ())) (armplanref1_Mod x.1))) :=
  fn_tot (t := fun (x : Ar [.int .i64]) => t_armplanref1_Mod x.1) (R := Int) (Ts := [.int .i64]) (mk := (fun r => (r, ()))) (mkC_ok tys_ok eqs_ok (fns_nil _) (inl_nil _) noLoops_ok mixed) Tryz.func143 run_armplanref1_Mod (fun _ => by kernel_rfl)
def hd_armplanref1_Mod : Hd := dataHd [.int .i64] [.int .i64] (fun x => some ((fun r => (r, ())) (armplanref1_Mod x.1)))
theorem ok_armplanref1_Mod : HdOk Tryz.prog 143 hd_armplanref1_Mod.sem ∧ Enters Tryz.prog 143 := data_ok fn_armplanref1_Mod Tryz.func143 (by kernel_rfl) (by kernel_rfl)

/- armplan/armplanref1.Floor -/
def t_armplanref1_Floor (a0 : Int) (a1 : Int) : Tr Int :=
  let x1 : Int := IntKind.wrap .i64 (Int.tdiv a0 a1)
  .br (!decide (a1 = 0)) (
   let x2 : Int := Int.tmod a0 a1
   .br (!decide (a1 = 0)) (
    let x3 : Bool := decide (x2 < 0)
    .br (x3) (
     let x4 : Int := IntKind.wrap .i64 (x1 - 1)
     .leaf x4) (
     .leaf x1)) .fail) .fail
def armplanref1_Floor (a0 : Int) (a1 : Int) : Int := (t_armplanref1_Floor a0 a1).val
def dom_armplanref1_Floor (a0 : Int) (a1 : Int) : Bool := (t_armplanref1_Floor a0 a1).dom
theorem run_armplanref1_Floor : ∀ x, runF (mkC tys eqs [] [] noLoops) 200 95 Tryz.f95 (argsA [.int .i64, .int .i64] x) [] (fun v h => toRes h [.int .i64] v) = (t_armplanref1_Floor x.1 x.2.1).optA (fun r => (r, ())) := by
  intro x; kernel_rfl
theorem fn_armplanref1_Floor : FnOk Tryz.prog 95 [.int .i64, .int .i64] [.int .i64] (fun x => bif dom_armplanref1_Floor x.1 x.2.1 then some ((fun r => (r, ())) (armplanref1_Floor x.1 x.2.1)) else none) :=
  fn_part (t := fun (x : Ar [.int .i64, .int .i64]) => t_armplanref1_Floor x.1 x.2.1) (R := Int) (Ts := [.int .i64]) (mk := (fun r => (r, ()))) (mkC_ok tys_ok eqs_ok (fns_nil _) (inl_nil _) noLoops_ok mixed) Tryz.func95 run_armplanref1_Floor
def hd_armplanref1_Floor : Hd := guardHd [.int .i64, .int .i64] [.int .i64] (fun x => dom_armplanref1_Floor x.1 x.2.1) (fun x => (fun r => (r, ())) (armplanref1_Floor x.1 x.2.1))
theorem ok_armplanref1_Floor : HdOk Tryz.prog 95 hd_armplanref1_Floor.sem ∧ Enters Tryz.prog 95 := guard_ok fn_armplanref1_Floor Tryz.func95 (by kernel_rfl) (by kernel_rfl)

/- armplan/armplanref1.Ceil -/
def t_armplanref1_Ceil (a0 : Int) (a1 : Int) : Tr Int :=
  let x1 : Int := IntKind.wrap .i64 (Int.tdiv a0 a1)
  .br (!decide (a1 = 0)) (
   let x2 : Int := Int.tmod a0 a1
   .br (!decide (a1 = 0)) (
    let x3 : Bool := decide (0 < x2)
    .br (x3) (
     let x4 : Int := IntKind.wrap .i64 (x1 + 1)
     .leaf x4) (
     .leaf x1)) .fail) .fail
def armplanref1_Ceil (a0 : Int) (a1 : Int) : Int := (t_armplanref1_Ceil a0 a1).val
def dom_armplanref1_Ceil (a0 : Int) (a1 : Int) : Bool := (t_armplanref1_Ceil a0 a1).dom
theorem run_armplanref1_Ceil : ∀ x, runF (mkC tys eqs [] [] noLoops) 200 96 Tryz.f96 (argsA [.int .i64, .int .i64] x) [] (fun v h => toRes h [.int .i64] v) = (t_armplanref1_Ceil x.1 x.2.1).optA (fun r => (r, ())) := by
  intro x; kernel_rfl
theorem fn_armplanref1_Ceil : FnOk Tryz.prog 96 [.int .i64, .int .i64] [.int .i64] (fun x => bif dom_armplanref1_Ceil x.1 x.2.1 then some ((fun r => (r, ())) (armplanref1_Ceil x.1 x.2.1)) else none) :=
  fn_part (t := fun (x : Ar [.int .i64, .int .i64]) => t_armplanref1_Ceil x.1 x.2.1) (R := Int) (Ts := [.int .i64]) (mk := (fun r => (r, ()))) (mkC_ok tys_ok eqs_ok (fns_nil _) (inl_nil _) noLoops_ok mixed) Tryz.func96 run_armplanref1_Ceil
def hd_armplanref1_Ceil : Hd := guardHd [.int .i64, .int .i64] [.int .i64] (fun x => dom_armplanref1_Ceil x.1 x.2.1) (fun x => (fun r => (r, ())) (armplanref1_Ceil x.1 x.2.1))
theorem ok_armplanref1_Ceil : HdOk Tryz.prog 96 hd_armplanref1_Ceil.sem ∧ Enters Tryz.prog 96 := guard_ok fn_armplanref1_Ceil Tryz.func96 (by kernel_rfl) (by kernel_rfl)

/- armplan/armplanref1.powers -/
def t_armplanref1_powers (a0 : Int) : Tr ((Int × (Int × (Int × (Int × (Int × (Int × (Int × (Int × (Int × (Int × Int)))))))))) × (Int × (Int × (Int × (Int × (Int × (Int × (Int × (Int × (Int × (Int × Int))))))))))) :=
  let x1 : Int := IntKind.wrap .i64 (a0 * 6746518852)
  let r2 : Int := armplanref1_Floor x1 65536
  let x3 : Int := IntKind.wrap .i64 (a0 * 6746518853)
  let r4 : Int := armplanref1_Ceil x3 65536
  let x5 : Int := IntKind.wrap .i64 (r2 * r2)
  let r6 : Int := armplanref1_Floor x5 1073741824
  let x7 : Int := IntKind.wrap .i64 (r4 * r4)
  let r8 : Int := armplanref1_Ceil x7 1073741824
  let x9 : Int := IntKind.wrap .i64 (r6 * r2)
  let r10 : Int := armplanref1_Floor x9 1073741824
  let x11 : Int := IntKind.wrap .i64 (r8 * r4)
  let r12 : Int := armplanref1_Ceil x11 1073741824
  let x13 : Int := IntKind.wrap .i64 (r10 * r2)
  let r14 : Int := armplanref1_Floor x13 1073741824
  let x15 : Int := IntKind.wrap .i64 (r12 * r4)
  let r16 : Int := armplanref1_Ceil x15 1073741824
  let x17 : Int := IntKind.wrap .i64 (r14 * r2)
  let r18 : Int := armplanref1_Floor x17 1073741824
  let x19 : Int := IntKind.wrap .i64 (r16 * r4)
  let r20 : Int := armplanref1_Ceil x19 1073741824
  let x21 : Int := IntKind.wrap .i64 (r18 * r2)
  let r22 : Int := armplanref1_Floor x21 1073741824
  let x23 : Int := IntKind.wrap .i64 (r20 * r4)
  let r24 : Int := armplanref1_Ceil x23 1073741824
  let x25 : Int := IntKind.wrap .i64 (r22 * r2)
  let r26 : Int := armplanref1_Floor x25 1073741824
  let x27 : Int := IntKind.wrap .i64 (r24 * r4)
  let r28 : Int := armplanref1_Ceil x27 1073741824
  let x29 : Int := IntKind.wrap .i64 (r26 * r2)
  let r30 : Int := armplanref1_Floor x29 1073741824
  let x31 : Int := IntKind.wrap .i64 (r28 * r4)
  let r32 : Int := armplanref1_Ceil x31 1073741824
  let x33 : Int := IntKind.wrap .i64 (r30 * r2)
  let r34 : Int := armplanref1_Floor x33 1073741824
  let x35 : Int := IntKind.wrap .i64 (r32 * r4)
  let r36 : Int := armplanref1_Ceil x35 1073741824
  let x37 : Int := IntKind.wrap .i64 (r34 * r2)
  let r38 : Int := armplanref1_Floor x37 1073741824
  let x39 : Int := IntKind.wrap .i64 (r36 * r4)
  let r40 : Int := armplanref1_Ceil x39 1073741824
  .leaf ((0, (r2, (r6, (r10, (r14, (r18, (r22, (r26, (r30, (r34, r38)))))))))), (0, (r4, (r8, (r12, (r16, (r20, (r24, (r28, (r32, (r36, r40)))))))))))
def armplanref1_powers (a0 : Int) : ((Int × (Int × (Int × (Int × (Int × (Int × (Int × (Int × (Int × (Int × Int)))))))))) × (Int × (Int × (Int × (Int × (Int × (Int × (Int × (Int × (Int × (Int × Int))))))))))) := (t_armplanref1_powers a0).val
theorem run_armplanref1_powers : ∀ x, runF (mkC tys eqs [(95, hd_armplanref1_Floor), (96, hd_armplanref1_Ceil)] [] noLoops) 200 155 Tryz.f155 (argsA [.int .i64] x) [] (fun v h => toRes h [.pair (.int .i64) (.pair (.int .i64) (.pair (.int .i64) (.pair (.int .i64) (.pair (.int .i64) (.pair (.int .i64) (.pair (.int .i64) (.pair (.int .i64) (.pair (.int .i64) (.pair (.int .i64) (.int .i64)))))))))), .pair (.int .i64) (.pair (.int .i64) (.pair (.int .i64) (.pair (.int .i64) (.pair (.int .i64) (.pair (.int .i64) (.pair (.int .i64) (.pair (.int .i64) (.pair (.int .i64) (.pair (.int .i64) (.int .i64))))))))))] v) = (t_armplanref1_powers x.1).optA (fun r => (r.1, r.2, ())) := by
  intro x; kernel_rfl
theorem fn_armplanref1_powers : FnOk Tryz.prog 155 [.int .i64] [.pair (.int .i64) (.pair (.int .i64) (.pair (.int .i64) (.pair (.int .i64) (.pair (.int .i64) (.pair (.int .i64) (.pair (.int .i64) (.pair (.int .i64) (.pair (.int .i64) (.pair (.int .i64) (.int .i64)))))))))), .pair (.int .i64) (.pair (.int .i64) (.pair (.int .i64) (.pair (.int .i64) (.pair (.int .i64) (.pair (.int .i64) (.pair (.int .i64) (.pair (.int .i64) (.pair (.int .i64) (.pair (.int .i64) (.int .i64))))))))))] (fun x => some ((fun r => (r.1, r.2, ())) (armplanref1_powers x.1))) :=
  fn_tot (t := fun (x : Ar [.int .i64]) => t_armplanref1_powers x.1) (R := ((Int × (Int × (Int × (Int × (Int × (Int × (Int × (Int × (Int × (Int × Int)))))))))) × (Int × (Int × (Int × (Int × (Int × (Int × (Int × (Int × (Int × (Int × Int)))))))))))) (Ts := [.pair (.int .i64) (.pair (.int .i64) (.pair (.int .i64) (.pair (.int .i64) (.pair (.int .i64) (.pair (.int .i64) (.pair (.int .i64) (.pair (.int .i64) (.pair (.int .i64) (.pair (.int .i64) (.int .i64)))))))))), .pair (.int .i64) (.pair (.int .i64) (.pair (.int .i64) (.pair (.int .i64) (.pair (.int .i64) (.pair (.int .i64) (.pair (.int .i64) (.pair (.int .i64) (.pair (.int .i64) (.pair (.int .i64) (.int .i64))))))))))]) (mk := (fun r => (r.1, r.2, ()))) (mkC_ok tys_ok eqs_ok (fns_cons ok_armplanref1_Floor (fns_cons ok_armplanref1_Ceil (fns_nil _))) (inl_nil _) noLoops_ok mixed) Tryz.func155 run_armplanref1_powers (fun _ => by kernel_rfl)
def hd_armplanref1_powers : Hd := dataHd [.int .i64] [.pair (.int .i64) (.pair (.int .i64) (.pair (.int .i64) (.pair (.int .i64) (.pair (.int .i64) (.pair (.int .i64) (.pair (.int .i64) (.pair (.int .i64) (.pair (.int .i64) (.pair (.int .i64) (.int .i64)))))))))), .pair (.int .i64) (.pair (.int .i64) (.pair (.int .i64) (.pair (.int .i64) (.pair (.int .i64) (.pair (.int .i64) (.pair (.int .i64) (.pair (.int .i64) (.pair (.int .i64) (.pair (.int .i64) (.int .i64))))))))))] (fun x => some ((fun r => (r.1, r.2, ())) (armplanref1_powers x.1)))
theorem ok_armplanref1_powers : HdOk Tryz.prog 155 hd_armplanref1_powers.sem ∧ Enters Tryz.prog 155 := data_ok fn_armplanref1_powers Tryz.func155 (by kernel_rfl) (by kernel_rfl)

/- armplan/armplanref1.enclosure -/
def t_armplanref1_enclosure (a0 : Int) (a1 : Int) : Tr (Int × Int) :=
  let r1 : Int := armplanref1_Floor a0 16384
  let x2 : Int := if r1 > 0 then r1 else 0
  let r3 : Int := armplanref1_Ceil a1 16384
  let x4 : Int := if r3 < 65536 then r3 else 65536
  .leaf (x2, x4)
def armplanref1_enclosure (a0 : Int) (a1 : Int) : (Int × Int) := (t_armplanref1_enclosure a0 a1).val
theorem run_armplanref1_enclosure : ∀ x, runF (mkC tys eqs [(95, hd_armplanref1_Floor), (96, hd_armplanref1_Ceil)] [] noLoops) 200 156 Tryz.f156 (argsA [.int .i64, .int .i64] x) [] (fun v h => toRes h [.pair (.int .i64) (.int .i64)] v) = (t_armplanref1_enclosure x.1 x.2.1).optA (fun r => (r, ())) := by
  intro x; kernel_rfl
theorem fn_armplanref1_enclosure : FnOk Tryz.prog 156 [.int .i64, .int .i64] [.pair (.int .i64) (.int .i64)] (fun x => some ((fun r => (r, ())) (armplanref1_enclosure x.1 x.2.1))) :=
  fn_tot (t := fun (x : Ar [.int .i64, .int .i64]) => t_armplanref1_enclosure x.1 x.2.1) (R := (Int × Int)) (Ts := [.pair (.int .i64) (.int .i64)]) (mk := (fun r => (r, ()))) (mkC_ok tys_ok eqs_ok (fns_cons ok_armplanref1_Floor (fns_cons ok_armplanref1_Ceil (fns_nil _))) (inl_nil _) noLoops_ok mixed) Tryz.func156 run_armplanref1_enclosure (fun _ => by kernel_rfl)
def hd_armplanref1_enclosure : Hd := dataHd [.int .i64, .int .i64] [.pair (.int .i64) (.int .i64)] (fun x => some ((fun r => (r, ())) (armplanref1_enclosure x.1 x.2.1)))
theorem ok_armplanref1_enclosure : HdOk Tryz.prog 156 hd_armplanref1_enclosure.sem ∧ Enters Tryz.prog 156 := data_ok fn_armplanref1_enclosure Tryz.func156 (by kernel_rfl) (by kernel_rfl)

/- armplan/armplanref1.sine -/
def t_armplanref1_sine (a0 : Int) : Tr (Int × Int) :=
  let r1 : ((Int × (Int × (Int × (Int × (Int × (Int × (Int × (Int × (Int × (Int × Int)))))))))) × (Int × (Int × (Int × (Int × (Int × (Int × (Int × (Int × (Int × (Int × Int))))))))))) := armplanref1_powers a0
  let r2 : Int := armplanref1_Ceil r1.2.2.2.2.1 6
  let x3 : Int := IntKind.wrap .i64 (r1.1.2.1 - r2)
  let r4 : Int := armplanref1_Floor r1.1.2.2.2.2.2.1 120
  let x5 : Int := IntKind.wrap .i64 (x3 + r4)
  let r6 : Int := armplanref1_Ceil r1.2.2.2.2.2.2.2.2.1 5040
  let x7 : Int := IntKind.wrap .i64 (x5 - r6)
  let r8 : Int := armplanref1_Floor r1.1.2.2.2.1 6
  let x9 : Int := IntKind.wrap .i64 (r1.2.2.1 - r8)
  let r10 : Int := armplanref1_Ceil r1.2.2.2.2.2.2.1 120
  let x11 : Int := IntKind.wrap .i64 (x9 + r10)
  let r12 : Int := armplanref1_Floor r1.1.2.2.2.2.2.2.2.1 5040
  let x13 : Int := IntKind.wrap .i64 (x11 - r12)
  let r14 : Int := armplanref1_Ceil r1.2.2.2.2.2.2.2.2.2.2.1 362880
  let x15 : Int := IntKind.wrap .i64 (x13 + r14)
  let r16 : (Int × Int) := armplanref1_enclosure x7 x15
  .leaf r16
def armplanref1_sine (a0 : Int) : (Int × Int) := (t_armplanref1_sine a0).val
theorem run_armplanref1_sine : ∀ x, runF (mkC tys eqs [(95, hd_armplanref1_Floor), (96, hd_armplanref1_Ceil), (155, hd_armplanref1_powers), (156, hd_armplanref1_enclosure)] [] noLoops) 200 150 Tryz.f150 (argsA [.int .i64] x) [] (fun v h => toRes h [.pair (.int .i64) (.int .i64)] v) = (t_armplanref1_sine x.1).optA (fun r => (r, ())) := by
  intro x; kernel_rfl
theorem fn_armplanref1_sine : FnOk Tryz.prog 150 [.int .i64] [.pair (.int .i64) (.int .i64)] (fun x => some ((fun r => (r, ())) (armplanref1_sine x.1))) :=
  fn_tot (t := fun (x : Ar [.int .i64]) => t_armplanref1_sine x.1) (R := (Int × Int)) (Ts := [.pair (.int .i64) (.int .i64)]) (mk := (fun r => (r, ()))) (mkC_ok tys_ok eqs_ok (fns_cons ok_armplanref1_Floor (fns_cons ok_armplanref1_Ceil (fns_cons ok_armplanref1_powers (fns_cons ok_armplanref1_enclosure (fns_nil _))))) (inl_nil _) noLoops_ok mixed) Tryz.func150 run_armplanref1_sine (fun _ => by kernel_rfl)
def hd_armplanref1_sine : Hd := dataHd [.int .i64] [.pair (.int .i64) (.int .i64)] (fun x => some ((fun r => (r, ())) (armplanref1_sine x.1)))
theorem ok_armplanref1_sine : HdOk Tryz.prog 150 hd_armplanref1_sine.sem ∧ Enters Tryz.prog 150 := data_ok fn_armplanref1_sine Tryz.func150 (by kernel_rfl) (by kernel_rfl)

/- armplan/armplanref1.cosine -/
def t_armplanref1_cosine (a0 : Int) : Tr (Int × Int) :=
  let r1 : ((Int × (Int × (Int × (Int × (Int × (Int × (Int × (Int × (Int × (Int × Int)))))))))) × (Int × (Int × (Int × (Int × (Int × (Int × (Int × (Int × (Int × (Int × Int))))))))))) := armplanref1_powers a0
  let r2 : Int := armplanref1_Ceil r1.2.2.2.1 2
  let x3 : Int := IntKind.wrap .i64 (1073741824 - r2)
  let r4 : Int := armplanref1_Floor r1.1.2.2.2.2.1 24
  let x5 : Int := IntKind.wrap .i64 (x3 + r4)
  let r6 : Int := armplanref1_Ceil r1.2.2.2.2.2.2.2.1 720
  let x7 : Int := IntKind.wrap .i64 (x5 - r6)
  let r8 : Int := armplanref1_Floor r1.1.2.2.2.2.2.2.2.2.1 40320
  let x9 : Int := IntKind.wrap .i64 (x7 + r8)
  let r10 : Int := armplanref1_Ceil r1.2.2.2.2.2.2.2.2.2.2.2 3628800
  let x11 : Int := IntKind.wrap .i64 (x9 - r10)
  let r12 : Int := armplanref1_Floor r1.1.2.2.1 2
  let x13 : Int := IntKind.wrap .i64 (1073741824 - r12)
  let r14 : Int := armplanref1_Ceil r1.2.2.2.2.2.1 24
  let x15 : Int := IntKind.wrap .i64 (x13 + r14)
  let r16 : Int := armplanref1_Floor r1.1.2.2.2.2.2.2.1 720
  let x17 : Int := IntKind.wrap .i64 (x15 - r16)
  let r18 : Int := armplanref1_Ceil r1.2.2.2.2.2.2.2.2.2.1 40320
  let x19 : Int := IntKind.wrap .i64 (x17 + r18)
  let r20 : (Int × Int) := armplanref1_enclosure x11 x19
  .leaf r20
def armplanref1_cosine (a0 : Int) : (Int × Int) := (t_armplanref1_cosine a0).val
theorem run_armplanref1_cosine : ∀ x, runF (mkC tys eqs [(95, hd_armplanref1_Floor), (96, hd_armplanref1_Ceil), (155, hd_armplanref1_powers), (156, hd_armplanref1_enclosure)] [] noLoops) 200 151 Tryz.f151 (argsA [.int .i64] x) [] (fun v h => toRes h [.pair (.int .i64) (.int .i64)] v) = (t_armplanref1_cosine x.1).optA (fun r => (r, ())) := by
  intro x; kernel_rfl
theorem fn_armplanref1_cosine : FnOk Tryz.prog 151 [.int .i64] [.pair (.int .i64) (.int .i64)] (fun x => some ((fun r => (r, ())) (armplanref1_cosine x.1))) :=
  fn_tot (t := fun (x : Ar [.int .i64]) => t_armplanref1_cosine x.1) (R := (Int × Int)) (Ts := [.pair (.int .i64) (.int .i64)]) (mk := (fun r => (r, ()))) (mkC_ok tys_ok eqs_ok (fns_cons ok_armplanref1_Floor (fns_cons ok_armplanref1_Ceil (fns_cons ok_armplanref1_powers (fns_cons ok_armplanref1_enclosure (fns_nil _))))) (inl_nil _) noLoops_ok mixed) Tryz.func151 run_armplanref1_cosine (fun _ => by kernel_rfl)
def hd_armplanref1_cosine : Hd := dataHd [.int .i64] [.pair (.int .i64) (.int .i64)] (fun x => some ((fun r => (r, ())) (armplanref1_cosine x.1)))
theorem ok_armplanref1_cosine : HdOk Tryz.prog 151 hd_armplanref1_cosine.sem ∧ Enters Tryz.prog 151 := data_ok fn_armplanref1_cosine Tryz.func151 (by kernel_rfl) (by kernel_rfl)

/- armplan/armplanref1.Quarter -/
def t_armplanref1_Quarter (a0 : Int) : Tr (Int × Int) :=
  let x1 : Bool := decide (a0 ≤ 8192)
  .br (x1) (
   let r2 : (Int × Int) := armplanref1_sine a0
   .leaf r2) (
   let x3 : Int := IntKind.wrap .i64 (16384 - a0)
   let r4 : (Int × Int) := armplanref1_cosine x3
   .leaf r4)
def armplanref1_Quarter (a0 : Int) : (Int × Int) := (t_armplanref1_Quarter a0).val
theorem run_armplanref1_Quarter : ∀ x, runF (mkC tys eqs [(150, hd_armplanref1_sine), (151, hd_armplanref1_cosine)] [] noLoops) 200 144 Tryz.f144 (argsA [.int .i64] x) [] (fun v h => toRes h [.pair (.int .i64) (.int .i64)] v) = (t_armplanref1_Quarter x.1).optA (fun r => (r, ())) := by
  intro x; kernel_rfl
theorem fn_armplanref1_Quarter : FnOk Tryz.prog 144 [.int .i64] [.pair (.int .i64) (.int .i64)] (fun x => some ((fun r => (r, ())) (armplanref1_Quarter x.1))) :=
  fn_tot (t := fun (x : Ar [.int .i64]) => t_armplanref1_Quarter x.1) (R := (Int × Int)) (Ts := [.pair (.int .i64) (.int .i64)]) (mk := (fun r => (r, ()))) (mkC_ok tys_ok eqs_ok (fns_cons ok_armplanref1_sine (fns_cons ok_armplanref1_cosine (fns_nil _))) (inl_nil _) noLoops_ok mixed) Tryz.func144 run_armplanref1_Quarter (fun _ => by kernel_rfl)
def hd_armplanref1_Quarter : Hd := dataHd [.int .i64] [.pair (.int .i64) (.int .i64)] (fun x => some ((fun r => (r, ())) (armplanref1_Quarter x.1)))
theorem ok_armplanref1_Quarter : HdOk Tryz.prog 144 hd_armplanref1_Quarter.sem ∧ Enters Tryz.prog 144 := data_ok fn_armplanref1_Quarter Tryz.func144 (by kernel_rfl) (by kernel_rfl)

/- armplan/armplanref1.Sin -/
def t_armplanref1_Sin (a0 : Int) : Tr (Int × Int) :=
  let r1 : Int := armplanref1_Mod a0
  let x2 : Int := IntKind.wrap .i64 (Int.tdiv r1 16384)
  let x3 : Int := Int.tmod r1 16384
  let x4 : Bool := decide (x2 = 0)
  .br (x4) (
   let r5 : (Int × Int) := armplanref1_Quarter x3
   .leaf r5) (
   let x6 : Bool := decide (x2 = 1)
   .br (x6) (
    let x7 : Int := IntKind.wrap .i64 (16384 - x3)
    let r8 : (Int × Int) := armplanref1_Quarter x7
    .leaf r8) (
    let x9 : Bool := decide (x2 = 2)
    .br (x9) (
     let r10 : (Int × Int) := armplanref1_Quarter x3
     let r11 : (Int × Int) := armplanref1_Neg r10
     .leaf r11) (
     let x12 : Int := IntKind.wrap .i64 (16384 - x3)
     let r13 : (Int × Int) := armplanref1_Quarter x12
     let r14 : (Int × Int) := armplanref1_Neg r13
     .leaf r14)))
def armplanref1_Sin (a0 : Int) : (Int × Int) := (t_armplanref1_Sin a0).val
theorem run_armplanref1_Sin : ∀ x, runF (mkC tys eqs [(121, hd_armplanref1_Neg), (143, hd_armplanref1_Mod), (144, hd_armplanref1_Quarter)] [] noLoops) 200 136 Tryz.f136 (argsA [.int .i64] x) [] (fun v h => toRes h [.pair (.int .i64) (.int .i64)] v) = (t_armplanref1_Sin x.1).optA (fun r => (r, ())) := by
  intro x; kernel_rfl
theorem fn_armplanref1_Sin : FnOk Tryz.prog 136 [.int .i64] [.pair (.int .i64) (.int .i64)] (fun x => some ((fun r => (r, ())) (armplanref1_Sin x.1))) :=
  fn_tot (t := fun (x : Ar [.int .i64]) => t_armplanref1_Sin x.1) (R := (Int × Int)) (Ts := [.pair (.int .i64) (.int .i64)]) (mk := (fun r => (r, ()))) (mkC_ok tys_ok eqs_ok (fns_cons ok_armplanref1_Neg (fns_cons ok_armplanref1_Mod (fns_cons ok_armplanref1_Quarter (fns_nil _)))) (inl_nil _) noLoops_ok mixed) Tryz.func136 run_armplanref1_Sin (fun _ => by kernel_rfl)
def hd_armplanref1_Sin : Hd := dataHd [.int .i64] [.pair (.int .i64) (.int .i64)] (fun x => some ((fun r => (r, ())) (armplanref1_Sin x.1)))
theorem ok_armplanref1_Sin : HdOk Tryz.prog 136 hd_armplanref1_Sin.sem ∧ Enters Tryz.prog 136 := data_ok fn_armplanref1_Sin Tryz.func136 (by kernel_rfl) (by kernel_rfl)

/- armplan/angle.Cos -/
def t_angle_Cos (a0 : Int) : Tr (Int × Int) :=
  let r1 : Int := angle_mod a0
  let x2 : Int := IntKind.wrap .i64 (r1 + 16384)
  let r3 : (Int × Int) := angle_Sin x2
  .leaf r3
def angle_Cos (a0 : Int) : (Int × Int) := (t_angle_Cos a0).val
theorem run_angle_Cos : ∀ x, runF (mkC tys eqs [(154, hd_angle_Sin), (160, hd_angle_mod)] [] noLoops) 200 153 Tryz.f153 (argsA [.int .i64] x) [] (fun v h => toRes h [.pair (.int .i64) (.int .i64)] v) = (t_angle_Cos x.1).optA (fun r => (r, ())) := by
  intro x; kernel_rfl
theorem fn_angle_Cos : FnOk Tryz.prog 153 [.int .i64] [.pair (.int .i64) (.int .i64)] (fun x => some ((fun r => (r, ())) (angle_Cos x.1))) :=
  fn_tot (t := fun (x : Ar [.int .i64]) => t_angle_Cos x.1) (R := (Int × Int)) (Ts := [.pair (.int .i64) (.int .i64)]) (mk := (fun r => (r, ()))) (mkC_ok tys_ok eqs_ok (fns_cons ok_angle_Sin (fns_cons ok_angle_mod (fns_nil _))) (inl_nil _) noLoops_ok mixed) Tryz.func153 run_angle_Cos (fun _ => by kernel_rfl)
def hd_angle_Cos : Hd := dataHd [.int .i64] [.pair (.int .i64) (.int .i64)] (fun x => some ((fun r => (r, ())) (angle_Cos x.1)))
theorem ok_angle_Cos : HdOk Tryz.prog 153 hd_angle_Cos.sem ∧ Enters Tryz.prog 153 := data_ok fn_angle_Cos Tryz.func153 (by kernel_rfl) (by kernel_rfl)

/- armplan/armplanref1.Cos -/
def t_armplanref1_Cos (a0 : Int) : Tr (Int × Int) :=
  let r1 : Int := armplanref1_Mod a0
  let x2 : Int := IntKind.wrap .i64 (r1 + 16384)
  let r3 : (Int × Int) := armplanref1_Sin x2
  .leaf r3
def armplanref1_Cos (a0 : Int) : (Int × Int) := (t_armplanref1_Cos a0).val
theorem run_armplanref1_Cos : ∀ x, runF (mkC tys eqs [(136, hd_armplanref1_Sin), (143, hd_armplanref1_Mod)] [] noLoops) 200 135 Tryz.f135 (argsA [.int .i64] x) [] (fun v h => toRes h [.pair (.int .i64) (.int .i64)] v) = (t_armplanref1_Cos x.1).optA (fun r => (r, ())) := by
  intro x; kernel_rfl
theorem fn_armplanref1_Cos : FnOk Tryz.prog 135 [.int .i64] [.pair (.int .i64) (.int .i64)] (fun x => some ((fun r => (r, ())) (armplanref1_Cos x.1))) :=
  fn_tot (t := fun (x : Ar [.int .i64]) => t_armplanref1_Cos x.1) (R := (Int × Int)) (Ts := [.pair (.int .i64) (.int .i64)]) (mk := (fun r => (r, ()))) (mkC_ok tys_ok eqs_ok (fns_cons ok_armplanref1_Sin (fns_cons ok_armplanref1_Mod (fns_nil _))) (inl_nil _) noLoops_ok mixed) Tryz.func135 run_armplanref1_Cos (fun _ => by kernel_rfl)
def hd_armplanref1_Cos : Hd := dataHd [.int .i64] [.pair (.int .i64) (.int .i64)] (fun x => some ((fun r => (r, ())) (armplanref1_Cos x.1)))
theorem ok_armplanref1_Cos : HdOk Tryz.prog 135 hd_armplanref1_Cos.sem ∧ Enters Tryz.prog 135 := data_ok fn_armplanref1_Cos Tryz.func135 (by kernel_rfl) (by kernel_rfl)

/- armplan/armplanref1.Clamp -/
def t_armplanref1_Clamp (a0 : Int) : Tr Int :=
  let x1 : Int := if 2147483648 < a0 then 2147483648 else a0
  let x2 : Int := if x1 > (-2147483648) then x1 else (-2147483648)
  .leaf x2
def armplanref1_Clamp (a0 : Int) : Int := (t_armplanref1_Clamp a0).val
theorem run_armplanref1_Clamp : ∀ x, runF (mkC tys eqs [] [] noLoops) 200 92 Tryz.f92 (argsA [.int .i64] x) [] (fun v h => toRes h [.int .i64] v) = (t_armplanref1_Clamp x.1).optA (fun r => (r, ())) := by
  intro x; kernel_rfl
theorem fn_armplanref1_Clamp : FnOk Tryz.prog 92 [.int .i64] [.int .i64] (fun x => some ((fun r => (r, ())) (armplanref1_Clamp x.1))) :=
  fn_tot (t := fun (x : Ar [.int .i64]) => t_armplanref1_Clamp x.1) (R := Int) (Ts := [.int .i64]) (mk := (fun r => (r, ()))) (mkC_ok tys_ok eqs_ok (fns_nil _) (inl_nil _) noLoops_ok mixed) Tryz.func92 run_armplanref1_Clamp (fun _ => by kernel_rfl)
def hd_armplanref1_Clamp : Hd := dataHd [.int .i64] [.int .i64] (fun x => some ((fun r => (r, ())) (armplanref1_Clamp x.1)))
theorem ok_armplanref1_Clamp : HdOk Tryz.prog 92 hd_armplanref1_Clamp.sem ∧ Enters Tryz.prog 92 := data_ok fn_armplanref1_Clamp Tryz.func92 (by kernel_rfl) (by kernel_rfl)

/- armplan/armplanref1.limited -/
def t_armplanref1_limited (a0 : Int) (a1 : Int) : Tr (Int × Int) :=
  let r1 : Int := armplanref1_Clamp a0
  let r2 : Int := armplanref1_Clamp a1
  .leaf (r1, r2)
def armplanref1_limited (a0 : Int) (a1 : Int) : (Int × Int) := (t_armplanref1_limited a0 a1).val
theorem run_armplanref1_limited : ∀ x, runF (mkC tys eqs [(92, hd_armplanref1_Clamp)] [] noLoops) 200 94 Tryz.f94 (argsA [.int .i64, .int .i64] x) [] (fun v h => toRes h [.pair (.int .i64) (.int .i64)] v) = (t_armplanref1_limited x.1 x.2.1).optA (fun r => (r, ())) := by
  intro x; kernel_rfl
theorem fn_armplanref1_limited : FnOk Tryz.prog 94 [.int .i64, .int .i64] [.pair (.int .i64) (.int .i64)] (fun x => some ((fun r => (r, ())) (armplanref1_limited x.1 x.2.1))) :=
  fn_tot (t := fun (x : Ar [.int .i64, .int .i64]) => t_armplanref1_limited x.1 x.2.1) (R := (Int × Int)) (Ts := [.pair (.int .i64) (.int .i64)]) (mk := (fun r => (r, ()))) (mkC_ok tys_ok eqs_ok (fns_cons ok_armplanref1_Clamp (fns_nil _)) (inl_nil _) noLoops_ok mixed) Tryz.func94 run_armplanref1_limited (fun _ => by kernel_rfl)
def hd_armplanref1_limited : Hd := dataHd [.int .i64, .int .i64] [.pair (.int .i64) (.int .i64)] (fun x => some ((fun r => (r, ())) (armplanref1_limited x.1 x.2.1)))
theorem ok_armplanref1_limited : HdOk Tryz.prog 94 hd_armplanref1_limited.sem ∧ Enters Tryz.prog 94 := data_ok fn_armplanref1_limited Tryz.func94 (by kernel_rfl) (by kernel_rfl)

/- armplan/armplanref1.Add -/
def t_armplanref1_Add (a0 : (Int × Int)) (a1 : (Int × Int)) : Tr (Int × Int) :=
  let r1 : Bool := armplanref1_Valid a0
  .br ((!r1)) (
   .leaf (0, 0)) (
   let r2 : Bool := armplanref1_Valid a1
   .br ((!r2)) (
    .leaf (0, 0)) (
    let x3 : Int := IntKind.wrap .i64 (a0.1 + a1.1)
    let x4 : Int := IntKind.wrap .i64 (a0.2 + a1.2)
    let r5 : (Int × Int) := armplanref1_limited x3 x4
    .leaf r5))
def armplanref1_Add (a0 : (Int × Int)) (a1 : (Int × Int)) : (Int × Int) := (t_armplanref1_Add a0 a1).val
theorem run_armplanref1_Add : ∀ x, runF (mkC tys eqs [(93, hd_armplanref1_Valid), (94, hd_armplanref1_limited)] [] noLoops) 200 65 Tryz.f65 (argsA [.pair (.int .i64) (.int .i64), .pair (.int .i64) (.int .i64)] x) [] (fun v h => toRes h [.pair (.int .i64) (.int .i64)] v) = (t_armplanref1_Add x.1 x.2.1).optA (fun r => (r, ())) := by
  intro x; kernel_rfl
theorem fn_armplanref1_Add : FnOk Tryz.prog 65 [.pair (.int .i64) (.int .i64), .pair (.int .i64) (.int .i64)] [.pair (.int .i64) (.int .i64)] (fun x => some ((fun r => (r, ())) (armplanref1_Add x.1 x.2.1))) :=
  fn_tot (t := fun (x : Ar [.pair (.int .i64) (.int .i64), .pair (.int .i64) (.int .i64)]) => t_armplanref1_Add x.1 x.2.1) (R := (Int × Int)) (Ts := [.pair (.int .i64) (.int .i64)]) (mk := (fun r => (r, ()))) (mkC_ok tys_ok eqs_ok (fns_cons ok_armplanref1_Valid (fns_cons ok_armplanref1_limited (fns_nil _))) (inl_nil _) noLoops_ok mixed) Tryz.func65 run_armplanref1_Add (fun _ => by kernel_rfl)
def hd_armplanref1_Add : Hd := dataHd [.pair (.int .i64) (.int .i64), .pair (.int .i64) (.int .i64)] [.pair (.int .i64) (.int .i64)] (fun x => some ((fun r => (r, ())) (armplanref1_Add x.1 x.2.1)))
theorem ok_armplanref1_Add : HdOk Tryz.prog 65 hd_armplanref1_Add.sem ∧ Enters Tryz.prog 65 := data_ok fn_armplanref1_Add Tryz.func65 (by kernel_rfl) (by kernel_rfl)

/- armplan/armplanref1.Within -/
def t_armplanref1_Within (a0 : (Int × Int)) (a1 : (Int × Int)) : Tr Bool :=
  let r1 : Bool := armplanref1_Valid a0
  .br (r1) (
   let r2 : Bool := armplanref1_Valid a1
   .br (r2) (
    let x3 : Bool := decide (a1.1 ≤ a0.1)
    .br (x3) (
     let x4 : Bool := decide (a0.2 ≤ a1.2)
     .leaf x4) (
     .leaf false)) (
    .leaf false)) (
   .leaf false)
def armplanref1_Within (a0 : (Int × Int)) (a1 : (Int × Int)) : Bool := (t_armplanref1_Within a0 a1).val
theorem run_armplanref1_Within : ∀ x, runF (mkC tys eqs [(93, hd_armplanref1_Valid)] [] noLoops) 200 87 Tryz.f87 (argsA [.pair (.int .i64) (.int .i64), .pair (.int .i64) (.int .i64)] x) [] (fun v h => toRes h [.bool] v) = (t_armplanref1_Within x.1 x.2.1).optA (fun r => (r, ())) := by
  intro x; kernel_rfl
theorem fn_armplanref1_Within : FnOk Tryz.prog 87 [.pair (.int .i64) (.int .i64), .pair (.int .i64) (.int .i64)] [.bool] (fun x => some ((fun r => (r, ())) (armplanref1_Within x.1 x.2.1))) :=
  fn_tot (t := fun (x : Ar [.pair (.int .i64) (.int .i64), .pair (.int .i64) (.int .i64)]) => t_armplanref1_Within x.1 x.2.1) (R := Bool) (Ts := [.bool]) (mk := (fun r => (r, ()))) (mkC_ok tys_ok eqs_ok (fns_cons ok_armplanref1_Valid (fns_nil _)) (inl_nil _) noLoops_ok mixed) Tryz.func87 run_armplanref1_Within (fun _ => by kernel_rfl)
def hd_armplanref1_Within : Hd := dataHd [.pair (.int .i64) (.int .i64), .pair (.int .i64) (.int .i64)] [.bool] (fun x => some ((fun r => (r, ())) (armplanref1_Within x.1 x.2.1)))
theorem ok_armplanref1_Within : HdOk Tryz.prog 87 hd_armplanref1_Within.sem ∧ Enters Tryz.prog 87 := data_ok fn_armplanref1_Within Tryz.func87 (by kernel_rfl) (by kernel_rfl)

/- armplan/armplanref1.Mul -/
def t_armplanref1_Mul (a0 : (Int × Int)) (a1 : (Int × Int)) : Tr (Int × Int) :=
  let r1 : Bool := armplanref1_Valid a0
  .br ((!r1)) (
   .leaf (0, 0)) (
   let r2 : Bool := armplanref1_Valid a1
   .br ((!r2)) (
    .leaf (0, 0)) (
    let x3 : Int := IntKind.wrap .i64 (a0.1 * a1.1)
    let x4 : Int := IntKind.wrap .i64 (a0.1 * a1.2)
    let x5 : Int := IntKind.wrap .i64 (a0.2 * a1.1)
    let x6 : Int := IntKind.wrap .i64 (a0.2 * a1.2)
    let x7 : Int := if x4 < x3 then x4 else x3
    let x8 : Int := if x5 < x7 then x5 else x7
    let x9 : Int := if x6 < x8 then x6 else x8
    let r10 : Int := armplanref1_Floor x9 65536
    let x11 : Int := if x4 > x3 then x4 else x3
    let x12 : Int := if x5 > x11 then x5 else x11
    let x13 : Int := if x6 > x12 then x6 else x12
    let r14 : Int := armplanref1_Ceil x13 65536
    let r15 : (Int × Int) := armplanref1_limited r10 r14
    .leaf r15))
def armplanref1_Mul (a0 : (Int × Int)) (a1 : (Int × Int)) : (Int × Int) := (t_armplanref1_Mul a0 a1).val
theorem run_armplanref1_Mul : ∀ x, runF (mkC tys eqs [(93, hd_armplanref1_Valid), (94, hd_armplanref1_limited), (95, hd_armplanref1_Floor), (96, hd_armplanref1_Ceil)] [] noLoops) 200 66 Tryz.f66 (argsA [.pair (.int .i64) (.int .i64), .pair (.int .i64) (.int .i64)] x) [] (fun v h => toRes h [.pair (.int .i64) (.int .i64)] v) = (t_armplanref1_Mul x.1 x.2.1).optA (fun r => (r, ())) := by
  intro x; kernel_rfl
theorem fn_armplanref1_Mul : FnOk Tryz.prog 66 [.pair (.int .i64) (.int .i64), .pair (.int .i64) (.int .i64)] [.pair (.int .i64) (.int .i64)] (fun x => some ((fun r => (r, ())) (armplanref1_Mul x.1 x.2.1))) :=
  fn_tot (t := fun (x : Ar [.pair (.int .i64) (.int .i64), .pair (.int .i64) (.int .i64)]) => t_armplanref1_Mul x.1 x.2.1) (R := (Int × Int)) (Ts := [.pair (.int .i64) (.int .i64)]) (mk := (fun r => (r, ()))) (mkC_ok tys_ok eqs_ok (fns_cons ok_armplanref1_Valid (fns_cons ok_armplanref1_limited (fns_cons ok_armplanref1_Floor (fns_cons ok_armplanref1_Ceil (fns_nil _))))) (inl_nil _) noLoops_ok mixed) Tryz.func66 run_armplanref1_Mul (fun _ => by kernel_rfl)
def hd_armplanref1_Mul : Hd := dataHd [.pair (.int .i64) (.int .i64), .pair (.int .i64) (.int .i64)] [.pair (.int .i64) (.int .i64)] (fun x => some ((fun r => (r, ())) (armplanref1_Mul x.1 x.2.1)))
theorem ok_armplanref1_Mul : HdOk Tryz.prog 66 hd_armplanref1_Mul.sem ∧ Enters Tryz.prog 66 := data_ok fn_armplanref1_Mul Tryz.func66 (by kernel_rfl) (by kernel_rfl)

/- armplan/interval.Width -/
def t_interval_Width (a0 : (Int × Int)) : Tr Int :=
  let r1 : Bool := interval_Valid a0
  .br ((!r1)) (
   .leaf 0) (
   let x2 : Int := IntKind.wrap .i64 (a0.2 - a0.1)
   .leaf x2)
def interval_Width (a0 : (Int × Int)) : Int := (t_interval_Width a0).val
theorem run_interval_Width : ∀ x, runF (mkC tys eqs [(100, hd_interval_Valid)] [] noLoops) 200 157 Tryz.f157 (argsA [.pair (.int .i64) (.int .i64)] x) [] (fun v h => toRes h [.int .i64] v) = (t_interval_Width x.1).optA (fun r => (r, ())) := by
  intro x; kernel_rfl
theorem fn_interval_Width : FnOk Tryz.prog 157 [.pair (.int .i64) (.int .i64)] [.int .i64] (fun x => some ((fun r => (r, ())) (interval_Width x.1))) :=
  fn_tot (t := fun (x : Ar [.pair (.int .i64) (.int .i64)]) => t_interval_Width x.1) (R := Int) (Ts := [.int .i64]) (mk := (fun r => (r, ()))) (mkC_ok tys_ok eqs_ok (fns_cons ok_interval_Valid (fns_nil _)) (inl_nil _) noLoops_ok mixed) Tryz.func157 run_interval_Width (fun _ => by kernel_rfl)
def hd_interval_Width : Hd := dataHd [.pair (.int .i64) (.int .i64)] [.int .i64] (fun x => some ((fun r => (r, ())) (interval_Width x.1)))
theorem ok_interval_Width : HdOk Tryz.prog 157 hd_interval_Width.sem ∧ Enters Tryz.prog 157 := data_ok fn_interval_Width Tryz.func157 (by kernel_rfl) (by kernel_rfl)

/- armplan/interval.both -/
def t_interval_both (a0 : (Int × Int)) (a1 : (Int × Int)) : Tr Bool :=
  let r1 : Bool := interval_Valid a0
  .br (r1) (
   let r2 : Bool := interval_Valid a1
   .leaf r2) (
   .leaf false)
def interval_both (a0 : (Int × Int)) (a1 : (Int × Int)) : Bool := (t_interval_both a0 a1).val
theorem run_interval_both : ∀ x, runF (mkC tys eqs [(100, hd_interval_Valid)] [] noLoops) 200 97 Tryz.f97 (argsA [.pair (.int .i64) (.int .i64), .pair (.int .i64) (.int .i64)] x) [] (fun v h => toRes h [.bool] v) = (t_interval_both x.1 x.2.1).optA (fun r => (r, ())) := by
  intro x; kernel_rfl
theorem fn_interval_both : FnOk Tryz.prog 97 [.pair (.int .i64) (.int .i64), .pair (.int .i64) (.int .i64)] [.bool] (fun x => some ((fun r => (r, ())) (interval_both x.1 x.2.1))) :=
  fn_tot (t := fun (x : Ar [.pair (.int .i64) (.int .i64), .pair (.int .i64) (.int .i64)]) => t_interval_both x.1 x.2.1) (R := Bool) (Ts := [.bool]) (mk := (fun r => (r, ()))) (mkC_ok tys_ok eqs_ok (fns_cons ok_interval_Valid (fns_nil _)) (inl_nil _) noLoops_ok mixed) Tryz.func97 run_interval_both (fun _ => by kernel_rfl)
def hd_interval_both : Hd := dataHd [.pair (.int .i64) (.int .i64), .pair (.int .i64) (.int .i64)] [.bool] (fun x => some ((fun r => (r, ())) (interval_both x.1 x.2.1)))
theorem ok_interval_both : HdOk Tryz.prog 97 hd_interval_both.sem ∧ Enters Tryz.prog 97 := data_ok fn_interval_both Tryz.func97 (by kernel_rfl) (by kernel_rfl)

/- armplan/interval.Hull -/
def t_interval_Hull (a0 : (Int × Int)) (a1 : (Int × Int)) : Tr (Int × Int) :=
  let r1 : Bool := interval_both a0 a1
  .br ((!r1)) (
   .leaf (0, 0)) (
   let x2 : Int := if a1.1 < a0.1 then a1.1 else a0.1
   let x3 : Int := if a1.2 > a0.2 then a1.2 else a0.2
   .leaf (x2, x3))
def interval_Hull (a0 : (Int × Int)) (a1 : (Int × Int)) : (Int × Int) := (t_interval_Hull a0 a1).val
theorem run_interval_Hull : ∀ x, runF (mkC tys eqs [(97, hd_interval_both)] [] noLoops) 200 158 Tryz.f158 (argsA [.pair (.int .i64) (.int .i64), .pair (.int .i64) (.int .i64)] x) [] (fun v h => toRes h [.pair (.int .i64) (.int .i64)] v) = (t_interval_Hull x.1 x.2.1).optA (fun r => (r, ())) := by
  intro x; kernel_rfl
theorem fn_interval_Hull : FnOk Tryz.prog 158 [.pair (.int .i64) (.int .i64), .pair (.int .i64) (.int .i64)] [.pair (.int .i64) (.int .i64)] (fun x => some ((fun r => (r, ())) (interval_Hull x.1 x.2.1))) :=
  fn_tot (t := fun (x : Ar [.pair (.int .i64) (.int .i64), .pair (.int .i64) (.int .i64)]) => t_interval_Hull x.1 x.2.1) (R := (Int × Int)) (Ts := [.pair (.int .i64) (.int .i64)]) (mk := (fun r => (r, ()))) (mkC_ok tys_ok eqs_ok (fns_cons ok_interval_both (fns_nil _)) (inl_nil _) noLoops_ok mixed) Tryz.func158 run_interval_Hull (fun _ => by kernel_rfl)
def hd_interval_Hull : Hd := dataHd [.pair (.int .i64) (.int .i64), .pair (.int .i64) (.int .i64)] [.pair (.int .i64) (.int .i64)] (fun x => some ((fun r => (r, ())) (interval_Hull x.1 x.2.1)))
theorem ok_interval_Hull : HdOk Tryz.prog 158 hd_interval_Hull.sem ∧ Enters Tryz.prog 158 := data_ok fn_interval_Hull Tryz.func158 (by kernel_rfl) (by kernel_rfl)

/- armplan/angle.meets -/
def t_angle_meets (a0 : (Int × Int)) (a1 : Int) : Tr Bool :=
  let x1 : Int := IntKind.wrap .i64 (a1 - a0.1)
  let r2 : Int := angle_mod x1
  let x3 : Int := IntKind.wrap .i64 (a0.1 + r2)
  let x4 : Bool := decide (x3 ≤ a0.2)
  .leaf x4
def angle_meets (a0 : (Int × Int)) (a1 : Int) : Bool := (t_angle_meets a0 a1).val
theorem run_angle_meets : ∀ x, runF (mkC tys eqs [(160, hd_angle_mod)] [] noLoops) 200 159 Tryz.f159 (argsA [.pair (.int .i64) (.int .i64), .int .i64] x) [] (fun v h => toRes h [.bool] v) = (t_angle_meets x.1 x.2.1).optA (fun r => (r, ())) := by
  intro x; kernel_rfl
theorem fn_angle_meets : FnOk Tryz.prog 159 [.pair (.int .i64) (.int .i64), .int .i64] [.bool] (fun x => some ((fun r => (r, ())) (angle_meets x.1 x.2.1))) :=
  fn_tot (t := fun (x : Ar [.pair (.int .i64) (.int .i64), .int .i64]) => t_angle_meets x.1 x.2.1) (R := Bool) (Ts := [.bool]) (mk := (fun r => (r, ()))) (mkC_ok tys_ok eqs_ok (fns_cons ok_angle_mod (fns_nil _)) (inl_nil _) noLoops_ok mixed) Tryz.func159 run_angle_meets (fun _ => by kernel_rfl)
def hd_angle_meets : Hd := dataHd [.pair (.int .i64) (.int .i64), .int .i64] [.bool] (fun x => some ((fun r => (r, ())) (angle_meets x.1 x.2.1)))
theorem ok_angle_meets : HdOk Tryz.prog 159 hd_angle_meets.sem ∧ Enters Tryz.prog 159 := data_ok fn_angle_meets Tryz.func159 (by kernel_rfl) (by kernel_rfl)

/- armplan/angle.SinOver -/
def t_angle_SinOver (a0 : (Int × Int)) : Tr (Int × Int) :=
  let r1 : Bool := interval_Valid a0
  .br ((!r1)) (
   .leaf (0, 0)) (
   let r2 : Int := interval_Width a0
   let x3 : Bool := decide (65536 ≤ r2)
   .br (x3) (
    .leaf ((-65536), 65536)) (
    let r4 : (Int × Int) := angle_Sin a0.1
    let r5 : (Int × Int) := angle_Sin a0.2
    let r6 : (Int × Int) := interval_Hull r4 r5
    let r7 : Bool := angle_meets a0 16384
    .br (r7) (
     let r8 : Bool := angle_meets a0 49152
     .br (r8) (
      .leaf ((-65536), 65536)) (
      .leaf (r6.1, 65536))) (
     let r9 : Bool := angle_meets a0 49152
     .br (r9) (
      .leaf ((-65536), r6.2)) (
      .leaf r6))))
def angle_SinOver (a0 : (Int × Int)) : (Int × Int) := (t_angle_SinOver a0).val
theorem run_angle_SinOver : ∀ x, runF (mkC tys eqs [(100, hd_interval_Valid), (154, hd_angle_Sin), (157, hd_interval_Width), (158, hd_interval_Hull), (159, hd_angle_meets)] [(152, Tryz.f152)] noLoops) 200 146 Tryz.f146 (argsA [.pair (.int .i64) (.int .i64)] x) [] (fun v h => toRes h [.pair (.int .i64) (.int .i64)] v) = (t_angle_SinOver x.1).optA (fun r => (r, ())) := by
  intro x; kernel_rfl
theorem fn_angle_SinOver : FnOk Tryz.prog 146 [.pair (.int .i64) (.int .i64)] [.pair (.int .i64) (.int .i64)] (fun x => some ((fun r => (r, ())) (angle_SinOver x.1))) :=
  fn_tot (t := fun (x : Ar [.pair (.int .i64) (.int .i64)]) => t_angle_SinOver x.1) (R := (Int × Int)) (Ts := [.pair (.int .i64) (.int .i64)]) (mk := (fun r => (r, ()))) (mkC_ok tys_ok eqs_ok (fns_cons ok_interval_Valid (fns_cons ok_angle_Sin (fns_cons ok_interval_Width (fns_cons ok_interval_Hull (fns_cons ok_angle_meets (fns_nil _)))))) (inl_cons Tryz.func152 (by kernel_rfl) (inl_nil _)) noLoops_ok mixed) Tryz.func146 run_angle_SinOver (fun _ => by kernel_rfl)
def hd_angle_SinOver : Hd := dataHd [.pair (.int .i64) (.int .i64)] [.pair (.int .i64) (.int .i64)] (fun x => some ((fun r => (r, ())) (angle_SinOver x.1)))
theorem ok_angle_SinOver : HdOk Tryz.prog 146 hd_angle_SinOver.sem ∧ Enters Tryz.prog 146 := data_ok fn_angle_SinOver Tryz.func146 (by kernel_rfl) (by kernel_rfl)

/- armplan/armplanref1.Of -/
def t_armplanref1_Of (a0 : Int) : Tr (Int × Int) :=
  let r1 : Int := armplanref1_Clamp a0
  let r2 : Int := armplanref1_Clamp a0
  .leaf (r1, r2)
def armplanref1_Of (a0 : Int) : (Int × Int) := (t_armplanref1_Of a0).val
theorem run_armplanref1_Of : ∀ x, runF (mkC tys eqs [(92, hd_armplanref1_Clamp)] [] noLoops) 200 63 Tryz.f63 (argsA [.int .i64] x) [] (fun v h => toRes h [.pair (.int .i64) (.int .i64)] v) = (t_armplanref1_Of x.1).optA (fun r => (r, ())) := by
  intro x; kernel_rfl
theorem fn_armplanref1_Of : FnOk Tryz.prog 63 [.int .i64] [.pair (.int .i64) (.int .i64)] (fun x => some ((fun r => (r, ())) (armplanref1_Of x.1))) :=
  fn_tot (t := fun (x : Ar [.int .i64]) => t_armplanref1_Of x.1) (R := (Int × Int)) (Ts := [.pair (.int .i64) (.int .i64)]) (mk := (fun r => (r, ()))) (mkC_ok tys_ok eqs_ok (fns_cons ok_armplanref1_Clamp (fns_nil _)) (inl_nil _) noLoops_ok mixed) Tryz.func63 run_armplanref1_Of (fun _ => by kernel_rfl)
def hd_armplanref1_Of : Hd := dataHd [.int .i64] [.pair (.int .i64) (.int .i64)] (fun x => some ((fun r => (r, ())) (armplanref1_Of x.1)))
theorem ok_armplanref1_Of : HdOk Tryz.prog 63 hd_armplanref1_Of.sem ∧ Enters Tryz.prog 63 := data_ok fn_armplanref1_Of Tryz.func63 (by kernel_rfl) (by kernel_rfl)

/- armplan/armplanref1.Hull -/
def t_armplanref1_Hull (a0 : (Int × Int)) (a1 : (Int × Int)) : Tr (Int × Int) :=
  let r1 : Bool := armplanref1_Valid a0
  .br ((!r1)) (
   .leaf (0, 0)) (
   let r2 : Bool := armplanref1_Valid a1
   .br ((!r2)) (
    .leaf (0, 0)) (
    let x3 : Int := if a1.1 < a0.1 then a1.1 else a0.1
    let x4 : Int := if a1.2 > a0.2 then a1.2 else a0.2
    .leaf (x3, x4)))
def armplanref1_Hull (a0 : (Int × Int)) (a1 : (Int × Int)) : (Int × Int) := (t_armplanref1_Hull a0 a1).val
theorem run_armplanref1_Hull : ∀ x, runF (mkC tys eqs [(93, hd_armplanref1_Valid)] [] noLoops) 200 141 Tryz.f141 (argsA [.pair (.int .i64) (.int .i64), .pair (.int .i64) (.int .i64)] x) [] (fun v h => toRes h [.pair (.int .i64) (.int .i64)] v) = (t_armplanref1_Hull x.1 x.2.1).optA (fun r => (r, ())) := by
  intro x; kernel_rfl
theorem fn_armplanref1_Hull : FnOk Tryz.prog 141 [.pair (.int .i64) (.int .i64), .pair (.int .i64) (.int .i64)] [.pair (.int .i64) (.int .i64)] (fun x => some ((fun r => (r, ())) (armplanref1_Hull x.1 x.2.1))) :=
  fn_tot (t := fun (x : Ar [.pair (.int .i64) (.int .i64), .pair (.int .i64) (.int .i64)]) => t_armplanref1_Hull x.1 x.2.1) (R := (Int × Int)) (Ts := [.pair (.int .i64) (.int .i64)]) (mk := (fun r => (r, ()))) (mkC_ok tys_ok eqs_ok (fns_cons ok_armplanref1_Valid (fns_nil _)) (inl_nil _) noLoops_ok mixed) Tryz.func141 run_armplanref1_Hull (fun _ => by kernel_rfl)
def hd_armplanref1_Hull : Hd := dataHd [.pair (.int .i64) (.int .i64), .pair (.int .i64) (.int .i64)] [.pair (.int .i64) (.int .i64)] (fun x => some ((fun r => (r, ())) (armplanref1_Hull x.1 x.2.1)))
theorem ok_armplanref1_Hull : HdOk Tryz.prog 141 hd_armplanref1_Hull.sem ∧ Enters Tryz.prog 141 := data_ok fn_armplanref1_Hull Tryz.func141 (by kernel_rfl) (by kernel_rfl)

/- armplan/armplanref1.meets -/
def t_armplanref1_meets (a0 : (Int × Int)) (a1 : Int) : Tr Bool :=
  let x1 : Int := IntKind.wrap .i64 (a1 - a0.1)
  let r2 : Int := armplanref1_Mod x1
  let x3 : Int := IntKind.wrap .i64 (a0.1 + r2)
  let x4 : Bool := decide (x3 ≤ a0.2)
  .leaf x4
def armplanref1_meets (a0 : (Int × Int)) (a1 : Int) : Bool := (t_armplanref1_meets a0 a1).val
theorem run_armplanref1_meets : ∀ x, runF (mkC tys eqs [(143, hd_armplanref1_Mod)] [] noLoops) 200 142 Tryz.f142 (argsA [.pair (.int .i64) (.int .i64), .int .i64] x) [] (fun v h => toRes h [.bool] v) = (t_armplanref1_meets x.1 x.2.1).optA (fun r => (r, ())) := by
  intro x; kernel_rfl
theorem fn_armplanref1_meets : FnOk Tryz.prog 142 [.pair (.int .i64) (.int .i64), .int .i64] [.bool] (fun x => some ((fun r => (r, ())) (armplanref1_meets x.1 x.2.1))) :=
  fn_tot (t := fun (x : Ar [.pair (.int .i64) (.int .i64), .int .i64]) => t_armplanref1_meets x.1 x.2.1) (R := Bool) (Ts := [.bool]) (mk := (fun r => (r, ()))) (mkC_ok tys_ok eqs_ok (fns_cons ok_armplanref1_Mod (fns_nil _)) (inl_nil _) noLoops_ok mixed) Tryz.func142 run_armplanref1_meets (fun _ => by kernel_rfl)
def hd_armplanref1_meets : Hd := dataHd [.pair (.int .i64) (.int .i64), .int .i64] [.bool] (fun x => some ((fun r => (r, ())) (armplanref1_meets x.1 x.2.1)))
theorem ok_armplanref1_meets : HdOk Tryz.prog 142 hd_armplanref1_meets.sem ∧ Enters Tryz.prog 142 := data_ok fn_armplanref1_meets Tryz.func142 (by kernel_rfl) (by kernel_rfl)

/- armplan/armplanref1.over -/
def t_armplanref1_over (a0 : (Int × Int)) (a1 : (Int × Int)) (a2 : (Int × Int)) (a3 : Int) (a4 : Int) : Tr (Int × Int) :=
  let r1 : Bool := armplanref1_Valid a0
  .br ((!r1)) (
   .leaf (0, 0)) (
   let x2 : Int := IntKind.wrap .i64 (a0.2 - a0.1)
   let x3 : Bool := decide (65536 ≤ x2)
   .br (x3) (
    .leaf ((-65536), 65536)) (
    let r4 : (Int × Int) := armplanref1_Hull a1 a2
    let r5 : Bool := armplanref1_meets a0 a3
    .br (r5) (
     let r6 : (Int × Int) := armplanref1_Of 65536
     let r7 : (Int × Int) := armplanref1_Hull r4 r6
     let r8 : Bool := armplanref1_meets a0 a4
     .br (r8) (
      let r9 : (Int × Int) := armplanref1_Of (-65536)
      let r10 : (Int × Int) := armplanref1_Hull r7 r9
      .leaf r10) (
      .leaf r7)) (
     let r11 : Bool := armplanref1_meets a0 a4
     .br (r11) (
      let r12 : (Int × Int) := armplanref1_Of (-65536)
      let r13 : (Int × Int) := armplanref1_Hull r4 r12
      .leaf r13) (
      .leaf r4))))
def armplanref1_over (a0 : (Int × Int)) (a1 : (Int × Int)) (a2 : (Int × Int)) (a3 : Int) (a4 : Int) : (Int × Int) := (t_armplanref1_over a0 a1 a2 a3 a4).val
theorem run_armplanref1_over : ∀ x, runF (mkC tys eqs [(63, hd_armplanref1_Of), (93, hd_armplanref1_Valid), (141, hd_armplanref1_Hull), (142, hd_armplanref1_meets)] [] noLoops) 200 134 Tryz.f134 (argsA [.pair (.int .i64) (.int .i64), .pair (.int .i64) (.int .i64), .pair (.int .i64) (.int .i64), .int .i64, .int .i64] x) [] (fun v h => toRes h [.pair (.int .i64) (.int .i64)] v) = (t_armplanref1_over x.1 x.2.1 x.2.2.1 x.2.2.2.1 x.2.2.2.2.1).optA (fun r => (r, ())) := by
  intro x; kernel_rfl
theorem fn_armplanref1_over : FnOk Tryz.prog 134 [.pair (.int .i64) (.int .i64), .pair (.int .i64) (.int .i64), .pair (.int .i64) (.int .i64), .int .i64, .int .i64] [.pair (.int .i64) (.int .i64)] (fun x => some ((fun r => (r, ())) (armplanref1_over x.1 x.2.1 x.2.2.1 x.2.2.2.1 x.2.2.2.2.1))) :=
  fn_tot (t := fun (x : Ar [.pair (.int .i64) (.int .i64), .pair (.int .i64) (.int .i64), .pair (.int .i64) (.int .i64), .int .i64, .int .i64]) => t_armplanref1_over x.1 x.2.1 x.2.2.1 x.2.2.2.1 x.2.2.2.2.1) (R := (Int × Int)) (Ts := [.pair (.int .i64) (.int .i64)]) (mk := (fun r => (r, ()))) (mkC_ok tys_ok eqs_ok (fns_cons ok_armplanref1_Of (fns_cons ok_armplanref1_Valid (fns_cons ok_armplanref1_Hull (fns_cons ok_armplanref1_meets (fns_nil _))))) (inl_nil _) noLoops_ok mixed) Tryz.func134 run_armplanref1_over (fun _ => by kernel_rfl)
def hd_armplanref1_over : Hd := dataHd [.pair (.int .i64) (.int .i64), .pair (.int .i64) (.int .i64), .pair (.int .i64) (.int .i64), .int .i64, .int .i64] [.pair (.int .i64) (.int .i64)] (fun x => some ((fun r => (r, ())) (armplanref1_over x.1 x.2.1 x.2.2.1 x.2.2.2.1 x.2.2.2.2.1)))
theorem ok_armplanref1_over : HdOk Tryz.prog 134 hd_armplanref1_over.sem ∧ Enters Tryz.prog 134 := data_ok fn_armplanref1_over Tryz.func134 (by kernel_rfl) (by kernel_rfl)

/- armplan/armplanref1.SinOver -/
def t_armplanref1_SinOver (a0 : (Int × Int)) : Tr (Int × Int) :=
  let r1 : (Int × Int) := armplanref1_Sin a0.1
  let r2 : (Int × Int) := armplanref1_Sin a0.2
  let r3 : (Int × Int) := armplanref1_over a0 r1 r2 16384 49152
  .leaf r3
def armplanref1_SinOver (a0 : (Int × Int)) : (Int × Int) := (t_armplanref1_SinOver a0).val
theorem run_armplanref1_SinOver : ∀ x, runF (mkC tys eqs [(134, hd_armplanref1_over), (136, hd_armplanref1_Sin)] [] noLoops) 200 120 Tryz.f120 (argsA [.pair (.int .i64) (.int .i64)] x) [] (fun v h => toRes h [.pair (.int .i64) (.int .i64)] v) = (t_armplanref1_SinOver x.1).optA (fun r => (r, ())) := by
  intro x; kernel_rfl
theorem fn_armplanref1_SinOver : FnOk Tryz.prog 120 [.pair (.int .i64) (.int .i64)] [.pair (.int .i64) (.int .i64)] (fun x => some ((fun r => (r, ())) (armplanref1_SinOver x.1))) :=
  fn_tot (t := fun (x : Ar [.pair (.int .i64) (.int .i64)]) => t_armplanref1_SinOver x.1) (R := (Int × Int)) (Ts := [.pair (.int .i64) (.int .i64)]) (mk := (fun r => (r, ()))) (mkC_ok tys_ok eqs_ok (fns_cons ok_armplanref1_over (fns_cons ok_armplanref1_Sin (fns_nil _))) (inl_nil _) noLoops_ok mixed) Tryz.func120 run_armplanref1_SinOver (fun _ => by kernel_rfl)
def hd_armplanref1_SinOver : Hd := dataHd [.pair (.int .i64) (.int .i64)] [.pair (.int .i64) (.int .i64)] (fun x => some ((fun r => (r, ())) (armplanref1_SinOver x.1)))
theorem ok_armplanref1_SinOver : HdOk Tryz.prog 120 hd_armplanref1_SinOver.sem ∧ Enters Tryz.prog 120 := data_ok fn_armplanref1_SinOver Tryz.func120 (by kernel_rfl) (by kernel_rfl)

/- armplan/angle.CosOver -/
def t_angle_CosOver (a0 : (Int × Int)) : Tr (Int × Int) :=
  let r1 : Bool := interval_Valid a0
  .br ((!r1)) (
   .leaf (0, 0)) (
   let r2 : Int := interval_Width a0
   let x3 : Bool := decide (65536 ≤ r2)
   .br (x3) (
    .leaf ((-65536), 65536)) (
    let r4 : (Int × Int) := angle_Cos a0.1
    let r5 : (Int × Int) := angle_Cos a0.2
    let r6 : (Int × Int) := interval_Hull r4 r5
    let r7 : Bool := angle_meets a0 0
    .br (r7) (
     let r8 : Bool := angle_meets a0 32768
     .br (r8) (
      .leaf ((-65536), 65536)) (
      .leaf (r6.1, 65536))) (
     let r9 : Bool := angle_meets a0 32768
     .br (r9) (
      .leaf ((-65536), r6.2)) (
      .leaf r6))))
def angle_CosOver (a0 : (Int × Int)) : (Int × Int) := (t_angle_CosOver a0).val
theorem run_angle_CosOver : ∀ x, runF (mkC tys eqs [(100, hd_interval_Valid), (153, hd_angle_Cos), (157, hd_interval_Width), (158, hd_interval_Hull), (159, hd_angle_meets)] [(152, Tryz.f152)] noLoops) 200 145 Tryz.f145 (argsA [.pair (.int .i64) (.int .i64)] x) [] (fun v h => toRes h [.pair (.int .i64) (.int .i64)] v) = (t_angle_CosOver x.1).optA (fun r => (r, ())) := by
  intro x; kernel_rfl
theorem fn_angle_CosOver : FnOk Tryz.prog 145 [.pair (.int .i64) (.int .i64)] [.pair (.int .i64) (.int .i64)] (fun x => some ((fun r => (r, ())) (angle_CosOver x.1))) :=
  fn_tot (t := fun (x : Ar [.pair (.int .i64) (.int .i64)]) => t_angle_CosOver x.1) (R := (Int × Int)) (Ts := [.pair (.int .i64) (.int .i64)]) (mk := (fun r => (r, ()))) (mkC_ok tys_ok eqs_ok (fns_cons ok_interval_Valid (fns_cons ok_angle_Cos (fns_cons ok_interval_Width (fns_cons ok_interval_Hull (fns_cons ok_angle_meets (fns_nil _)))))) (inl_cons Tryz.func152 (by kernel_rfl) (inl_nil _)) noLoops_ok mixed) Tryz.func145 run_angle_CosOver (fun _ => by kernel_rfl)
def hd_angle_CosOver : Hd := dataHd [.pair (.int .i64) (.int .i64)] [.pair (.int .i64) (.int .i64)] (fun x => some ((fun r => (r, ())) (angle_CosOver x.1)))
theorem ok_angle_CosOver : HdOk Tryz.prog 145 hd_angle_CosOver.sem ∧ Enters Tryz.prog 145 := data_ok fn_angle_CosOver Tryz.func145 (by kernel_rfl) (by kernel_rfl)

/- armplan/armplanref1.CosOver -/
def t_armplanref1_CosOver (a0 : (Int × Int)) : Tr (Int × Int) :=
  let r1 : (Int × Int) := armplanref1_Cos a0.1
  let r2 : (Int × Int) := armplanref1_Cos a0.2
  let r3 : (Int × Int) := armplanref1_over a0 r1 r2 0 32768
  .leaf r3
def armplanref1_CosOver (a0 : (Int × Int)) : (Int × Int) := (t_armplanref1_CosOver a0).val
theorem run_armplanref1_CosOver : ∀ x, runF (mkC tys eqs [(134, hd_armplanref1_over), (135, hd_armplanref1_Cos)] [] noLoops) 200 119 Tryz.f119 (argsA [.pair (.int .i64) (.int .i64)] x) [] (fun v h => toRes h [.pair (.int .i64) (.int .i64)] v) = (t_armplanref1_CosOver x.1).optA (fun r => (r, ())) := by
  intro x; kernel_rfl
theorem fn_armplanref1_CosOver : FnOk Tryz.prog 119 [.pair (.int .i64) (.int .i64)] [.pair (.int .i64) (.int .i64)] (fun x => some ((fun r => (r, ())) (armplanref1_CosOver x.1))) :=
  fn_tot (t := fun (x : Ar [.pair (.int .i64) (.int .i64)]) => t_armplanref1_CosOver x.1) (R := (Int × Int)) (Ts := [.pair (.int .i64) (.int .i64)]) (mk := (fun r => (r, ()))) (mkC_ok tys_ok eqs_ok (fns_cons ok_armplanref1_over (fns_cons ok_armplanref1_Cos (fns_nil _))) (inl_nil _) noLoops_ok mixed) Tryz.func119 run_armplanref1_CosOver (fun _ => by kernel_rfl)
def hd_armplanref1_CosOver : Hd := dataHd [.pair (.int .i64) (.int .i64)] [.pair (.int .i64) (.int .i64)] (fun x => some ((fun r => (r, ())) (armplanref1_CosOver x.1)))
theorem ok_armplanref1_CosOver : HdOk Tryz.prog 119 hd_armplanref1_CosOver.sem ∧ Enters Tryz.prog 119 := data_ok fn_armplanref1_CosOver Tryz.func119 (by kernel_rfl) (by kernel_rfl)

end Go.RX

/-
  The contracts of functions.
-/
namespace Go.RX
open Go.Proofs

def btys : List (Nat × TRow) := [(2, ⟨.int .i64, 1, 8, [.int .i64 0], .int .i64⟩),
  (28, ⟨.arr 3 2, 3, 24, [.int .i64 0, .int .i64 0, .int .i64 0], .pair (.int .i64) (.pair (.int .i64) (.int .i64))⟩),
  (46, ⟨.struct [(0, 1), (1, 1)], 2, 16, [.int .i64 0, .int .i64 0], .pair (.int .i64) (.int .i64)⟩),
  (87, ⟨.arr 3 46, 6, 48, [.int .i64 0, .int .i64 0, .int .i64 0, .int .i64 0, .int .i64 0, .int .i64 0], .pair (.pair (.int .i64) (.int .i64)) (.pair (.pair (.int .i64) (.int .i64)) (.pair (.int .i64) (.int .i64)))⟩),
  (89, ⟨.arr 3 87, 18, 144, [.int .i64 0, .int .i64 0, .int .i64 0, .int .i64 0, .int .i64 0, .int .i64 0, .int .i64 0, .int .i64 0, .int .i64 0, .int .i64 0, .int .i64 0, .int .i64 0, .int .i64 0, .int .i64 0, .int .i64 0, .int .i64 0, .int .i64 0, .int .i64 0], .pair (.pair (.pair (.int .i64) (.int .i64)) (.pair (.pair (.int .i64) (.int .i64)) (.pair (.int .i64) (.int .i64)))) (.pair (.pair (.pair (.int .i64) (.int .i64)) (.pair (.pair (.int .i64) (.int .i64)) (.pair (.int .i64) (.int .i64)))) (.pair (.pair (.int .i64) (.int .i64)) (.pair (.pair (.int .i64) (.int .i64)) (.pair (.int .i64) (.int .i64)))))⟩),
  (90, ⟨.arr 3 46, 6, 48, [.int .i64 0, .int .i64 0, .int .i64 0, .int .i64 0, .int .i64 0, .int .i64 0], .pair (.pair (.int .i64) (.int .i64)) (.pair (.pair (.int .i64) (.int .i64)) (.pair (.int .i64) (.int .i64)))⟩),
  (167, ⟨.arr 4 2, 4, 32, [.int .i64 0, .int .i64 0, .int .i64 0, .int .i64 0], .pair (.int .i64) (.pair (.int .i64) (.pair (.int .i64) (.int .i64)))⟩)]
def beqs : List (Nat × (Bool × List TK)) := []
theorem btys_ok : tableOk Tryz.prog btys = true := by kernel_rfl
theorem beqs_ok : eqsOk Tryz.prog beqs = true := by kernel_rfl

/- armplan/fixed.Clamp -/
def t_fixed_Clamp (a0 : Int) : Tr Int :=
  let x1 : Int := if (-2147483648) > a0 then (-2147483648) else a0
  let x2 : Int := if 2147483648 < x1 then 2147483648 else x1
  .leaf x2
def fixed_Clamp (a0 : Int) : Int := (t_fixed_Clamp a0).val
theorem run_fixed_Clamp : ∀ x, runF (mkC btys beqs [] [] noLoops) 200 132 Tryz.f132 (argsA [.int .i64] x) [] (fun v h => toRes h [.int .i64] v) = (t_fixed_Clamp x.1).optA (fun r => (r, ())) := by
  intro x; kernel_rfl
theorem fn_fixed_Clamp : FnOk Tryz.prog 132 [.int .i64] [.int .i64] (fun x => some ((fun r => (r, ())) (fixed_Clamp x.1))) :=
  fn_tot (t := fun (x : Ar [.int .i64]) => t_fixed_Clamp x.1) (R := Int) (Ts := [.int .i64]) (mk := (fun r => (r, ()))) (mkC_ok btys_ok beqs_ok (fns_nil _) (inl_nil _) noLoops_ok mixed) Tryz.func132 run_fixed_Clamp (fun _ => by kernel_rfl)
def hd_fixed_Clamp : Hd := dataHd [.int .i64] [.int .i64] (fun x => some ((fun r => (r, ())) (fixed_Clamp x.1)))
theorem ok_fixed_Clamp : HdOk Tryz.prog 132 hd_fixed_Clamp.sem ∧ Enters Tryz.prog 132 := data_ok fn_fixed_Clamp Tryz.func132 (by kernel_rfl) (by kernel_rfl)

/- armplan/interval.limit -/
def t_interval_limit (a0 : Int) (a1 : Int) : Tr (Int × Int) :=
  let r1 : Int := fixed_Clamp a0
  let r2 : Int := fixed_Clamp a1
  .leaf (r1, r2)
def interval_limit (a0 : Int) (a1 : Int) : (Int × Int) := (t_interval_limit a0 a1).val
theorem run_interval_limit : ∀ x, runF (mkC btys beqs [(132, hd_fixed_Clamp)] [] noLoops) 200 116 Tryz.f116 (argsA [.int .i64, .int .i64] x) [] (fun v h => toRes h [.pair (.int .i64) (.int .i64)] v) = (t_interval_limit x.1 x.2.1).optA (fun r => (r, ())) := by
  intro x; kernel_rfl
theorem fn_interval_limit : FnOk Tryz.prog 116 [.int .i64, .int .i64] [.pair (.int .i64) (.int .i64)] (fun x => some ((fun r => (r, ())) (interval_limit x.1 x.2.1))) :=
  fn_tot (t := fun (x : Ar [.int .i64, .int .i64]) => t_interval_limit x.1 x.2.1) (R := (Int × Int)) (Ts := [.pair (.int .i64) (.int .i64)]) (mk := (fun r => (r, ()))) (mkC_ok btys_ok beqs_ok (fns_cons ok_fixed_Clamp (fns_nil _)) (inl_nil _) noLoops_ok mixed) Tryz.func116 run_interval_limit (fun _ => by kernel_rfl)
def hd_interval_limit : Hd := dataHd [.int .i64, .int .i64] [.pair (.int .i64) (.int .i64)] (fun x => some ((fun r => (r, ())) (interval_limit x.1 x.2.1)))
theorem ok_interval_limit : HdOk Tryz.prog 116 hd_interval_limit.sem ∧ Enters Tryz.prog 116 := data_ok fn_interval_limit Tryz.func116 (by kernel_rfl) (by kernel_rfl)

/- armplan/interval.Of -/
def t_interval_Of (a0 : Int) : Tr (Int × Int) :=
  let r1 : (Int × Int) := interval_limit a0 a0
  .leaf r1
def interval_Of (a0 : Int) : (Int × Int) := (t_interval_Of a0).val
theorem run_interval_Of : ∀ x, runF (mkC btys beqs [(116, hd_interval_limit)] [] noLoops) 200 106 Tryz.f106 (argsA [.int .i64] x) [] (fun v h => toRes h [.pair (.int .i64) (.int .i64)] v) = (t_interval_Of x.1).optA (fun r => (r, ())) := by
  intro x; kernel_rfl
theorem fn_interval_Of : FnOk Tryz.prog 106 [.int .i64] [.pair (.int .i64) (.int .i64)] (fun x => some ((fun r => (r, ())) (interval_Of x.1))) :=
  fn_tot (t := fun (x : Ar [.int .i64]) => t_interval_Of x.1) (R := (Int × Int)) (Ts := [.pair (.int .i64) (.int .i64)]) (mk := (fun r => (r, ()))) (mkC_ok btys_ok beqs_ok (fns_cons ok_interval_limit (fns_nil _)) (inl_nil _) noLoops_ok mixed) Tryz.func106 run_interval_Of (fun _ => by kernel_rfl)
def hd_interval_Of : Hd := dataHd [.int .i64] [.pair (.int .i64) (.int .i64)] (fun x => some ((fun r => (r, ())) (interval_Of x.1)))
theorem ok_interval_Of : HdOk Tryz.prog 106 hd_interval_Of.sem ∧ Enters Tryz.prog 106 := data_ok fn_interval_Of Tryz.func106 (by kernel_rfl) (by kernel_rfl)

/- armplan/matrix.one -/
def t_matrix_one : Tr (Int × Int) :=
  let r1 : (Int × Int) := interval_Of 65536
  .leaf r1
def matrix_one : (Int × Int) := t_matrix_one.val
theorem run_matrix_one : ∀ x, runF (mkC btys beqs [(106, hd_interval_Of)] [] noLoops) 200 139 Tryz.f139 (argsA [] x) [] (fun v h => toRes h [.pair (.int .i64) (.int .i64)] v) = (t_matrix_one ).optA (fun r => (r, ())) := by
  intro x; kernel_rfl
theorem fn_matrix_one : FnOk Tryz.prog 139 [] [.pair (.int .i64) (.int .i64)] (fun _ => some ((fun r => (r, ())) matrix_one)) :=
  fn_tot (t := fun (_ : Ar []) => t_matrix_one ) (R := (Int × Int)) (Ts := [.pair (.int .i64) (.int .i64)]) (mk := (fun r => (r, ()))) (mkC_ok btys_ok beqs_ok (fns_cons ok_interval_Of (fns_nil _)) (inl_nil _) noLoops_ok mixed) Tryz.func139 run_matrix_one (fun _ => by kernel_rfl)
def hd_matrix_one : Hd := dataHd [] [.pair (.int .i64) (.int .i64)] (fun _ => some ((fun r => (r, ())) matrix_one))
theorem ok_matrix_one : HdOk Tryz.prog 139 hd_matrix_one.sem ∧ Enters Tryz.prog 139 := data_ok fn_matrix_one Tryz.func139 (by kernel_rfl) (by kernel_rfl)

/- armplan/matrix.Turn -/
def t_matrix_Turn_0 (a1 : (Int × Int)) : Tr (((Int × Int) × ((Int × Int) × (Int × Int))) × (((Int × Int) × ((Int × Int) × (Int × Int))) × ((Int × Int) × ((Int × Int) × (Int × Int))))) :=
  let r1 : Bool := interval_Valid a1
  .br ((!r1)) (
   .leaf (((0, 0), ((0, 0), (0, 0))), (((0, 0), ((0, 0), (0, 0))), ((0, 0), ((0, 0), (0, 0)))))) (
   let r2 : (Int × Int) := angle_CosOver a1
   let r3 : (Int × Int) := angle_SinOver a1
   let r4 : (Int × Int) := matrix_one
   let r5 : (Int × Int) := interval_Neg r3
   .leaf ((r4, ((0, 0), (0, 0))), (((0, 0), (r2, r5)), ((0, 0), (r3, r2)))))
theorem run_matrix_Turn_0 : ∀ y : Ar [.pair (.int .i64) (.int .i64)], runF (mkC btys beqs [(100, hd_interval_Valid), (139, hd_matrix_one), (145, hd_angle_CosOver), (146, hd_angle_SinOver), (147, hd_interval_Neg)] [] noLoops) 200 137 Tryz.f137 (argsA [.int .i64, .pair (.int .i64) (.int .i64)] (0, y)) [] (fun v h => toRes h [.pair (.pair (.pair (.int .i64) (.int .i64)) (.pair (.pair (.int .i64) (.int .i64)) (.pair (.int .i64) (.int .i64)))) (.pair (.pair (.pair (.int .i64) (.int .i64)) (.pair (.pair (.int .i64) (.int .i64)) (.pair (.int .i64) (.int .i64)))) (.pair (.pair (.int .i64) (.int .i64)) (.pair (.pair (.int .i64) (.int .i64)) (.pair (.int .i64) (.int .i64)))))] v) = (t_matrix_Turn_0 y.1).optA (fun r => (r, ())) := by
  intro y; kernel_rfl
theorem fn_matrix_Turn_0 : FnOk Tryz.prog 137 [.int .i64, .pair (.int .i64) (.int .i64)] [.pair (.pair (.pair (.int .i64) (.int .i64)) (.pair (.pair (.int .i64) (.int .i64)) (.pair (.int .i64) (.int .i64)))) (.pair (.pair (.pair (.int .i64) (.int .i64)) (.pair (.pair (.int .i64) (.int .i64)) (.pair (.int .i64) (.int .i64)))) (.pair (.pair (.int .i64) (.int .i64)) (.pair (.pair (.int .i64) (.int .i64)) (.pair (.int .i64) (.int .i64)))))] (fun x => if x.1 = 0 then some ((fun r => (r, ())) (t_matrix_Turn_0 x.2.1).val) else none) :=
  fn_lit (R := (((Int × Int) × ((Int × Int) × (Int × Int))) × (((Int × Int) × ((Int × Int) × (Int × Int))) × ((Int × Int) × ((Int × Int) × (Int × Int)))))) (Ts := [.pair (.pair (.pair (.int .i64) (.int .i64)) (.pair (.pair (.int .i64) (.int .i64)) (.pair (.int .i64) (.int .i64)))) (.pair (.pair (.pair (.int .i64) (.int .i64)) (.pair (.pair (.int .i64) (.int .i64)) (.pair (.int .i64) (.int .i64)))) (.pair (.pair (.int .i64) (.int .i64)) (.pair (.pair (.int .i64) (.int .i64)) (.pair (.int .i64) (.int .i64)))))]) (mk := (fun r => (r, ()))) (t := fun (y : Ar [.pair (.int .i64) (.int .i64)]) => t_matrix_Turn_0 y.1) (mkC_ok btys_ok beqs_ok (fns_cons ok_interval_Valid (fns_cons ok_matrix_one (fns_cons ok_angle_CosOver (fns_cons ok_angle_SinOver (fns_cons ok_interval_Neg (fns_nil _)))))) (inl_nil _) noLoops_ok mixed) Tryz.func137 0 run_matrix_Turn_0 (fun _ => by kernel_rfl)
def t_matrix_Turn_1 (a1 : (Int × Int)) : Tr (((Int × Int) × ((Int × Int) × (Int × Int))) × (((Int × Int) × ((Int × Int) × (Int × Int))) × ((Int × Int) × ((Int × Int) × (Int × Int))))) :=
  let r1 : Bool := interval_Valid a1
  .br ((!r1)) (
   .leaf (((0, 0), ((0, 0), (0, 0))), (((0, 0), ((0, 0), (0, 0))), ((0, 0), ((0, 0), (0, 0)))))) (
   let r2 : (Int × Int) := angle_CosOver a1
   let r3 : (Int × Int) := angle_SinOver a1
   let r4 : (Int × Int) := matrix_one
   let r5 : (Int × Int) := interval_Neg r3
   .leaf ((r2, ((0, 0), r3)), (((0, 0), (r4, (0, 0))), (r5, ((0, 0), r2)))))
theorem run_matrix_Turn_1 : ∀ y : Ar [.pair (.int .i64) (.int .i64)], runF (mkC btys beqs [(100, hd_interval_Valid), (139, hd_matrix_one), (145, hd_angle_CosOver), (146, hd_angle_SinOver), (147, hd_interval_Neg)] [] noLoops) 200 137 Tryz.f137 (argsA [.int .i64, .pair (.int .i64) (.int .i64)] (1, y)) [] (fun v h => toRes h [.pair (.pair (.pair (.int .i64) (.int .i64)) (.pair (.pair (.int .i64) (.int .i64)) (.pair (.int .i64) (.int .i64)))) (.pair (.pair (.pair (.int .i64) (.int .i64)) (.pair (.pair (.int .i64) (.int .i64)) (.pair (.int .i64) (.int .i64)))) (.pair (.pair (.int .i64) (.int .i64)) (.pair (.pair (.int .i64) (.int .i64)) (.pair (.int .i64) (.int .i64)))))] v) = (t_matrix_Turn_1 y.1).optA (fun r => (r, ())) := by
  intro y; kernel_rfl
theorem fn_matrix_Turn_1 : FnOk Tryz.prog 137 [.int .i64, .pair (.int .i64) (.int .i64)] [.pair (.pair (.pair (.int .i64) (.int .i64)) (.pair (.pair (.int .i64) (.int .i64)) (.pair (.int .i64) (.int .i64)))) (.pair (.pair (.pair (.int .i64) (.int .i64)) (.pair (.pair (.int .i64) (.int .i64)) (.pair (.int .i64) (.int .i64)))) (.pair (.pair (.int .i64) (.int .i64)) (.pair (.pair (.int .i64) (.int .i64)) (.pair (.int .i64) (.int .i64)))))] (fun x => if x.1 = 1 then some ((fun r => (r, ())) (t_matrix_Turn_1 x.2.1).val) else none) :=
  fn_lit (R := (((Int × Int) × ((Int × Int) × (Int × Int))) × (((Int × Int) × ((Int × Int) × (Int × Int))) × ((Int × Int) × ((Int × Int) × (Int × Int)))))) (Ts := [.pair (.pair (.pair (.int .i64) (.int .i64)) (.pair (.pair (.int .i64) (.int .i64)) (.pair (.int .i64) (.int .i64)))) (.pair (.pair (.pair (.int .i64) (.int .i64)) (.pair (.pair (.int .i64) (.int .i64)) (.pair (.int .i64) (.int .i64)))) (.pair (.pair (.int .i64) (.int .i64)) (.pair (.pair (.int .i64) (.int .i64)) (.pair (.int .i64) (.int .i64)))))]) (mk := (fun r => (r, ()))) (t := fun (y : Ar [.pair (.int .i64) (.int .i64)]) => t_matrix_Turn_1 y.1) (mkC_ok btys_ok beqs_ok (fns_cons ok_interval_Valid (fns_cons ok_matrix_one (fns_cons ok_angle_CosOver (fns_cons ok_angle_SinOver (fns_cons ok_interval_Neg (fns_nil _)))))) (inl_nil _) noLoops_ok mixed) Tryz.func137 1 run_matrix_Turn_1 (fun _ => by kernel_rfl)
def t_matrix_Turn_2 (a1 : (Int × Int)) : Tr (((Int × Int) × ((Int × Int) × (Int × Int))) × (((Int × Int) × ((Int × Int) × (Int × Int))) × ((Int × Int) × ((Int × Int) × (Int × Int))))) :=
  let r1 : Bool := interval_Valid a1
  .br ((!r1)) (
   .leaf (((0, 0), ((0, 0), (0, 0))), (((0, 0), ((0, 0), (0, 0))), ((0, 0), ((0, 0), (0, 0)))))) (
   let r2 : (Int × Int) := angle_CosOver a1
   let r3 : (Int × Int) := angle_SinOver a1
   let r4 : (Int × Int) := matrix_one
   let r5 : (Int × Int) := interval_Neg r3
   .leaf ((r2, (r5, (0, 0))), ((r3, (r2, (0, 0))), ((0, 0), ((0, 0), r4)))))
theorem run_matrix_Turn_2 : ∀ y : Ar [.pair (.int .i64) (.int .i64)], runF (mkC btys beqs [(100, hd_interval_Valid), (139, hd_matrix_one), (145, hd_angle_CosOver), (146, hd_angle_SinOver), (147, hd_interval_Neg)] [] noLoops) 200 137 Tryz.f137 (argsA [.int .i64, .pair (.int .i64) (.int .i64)] (2, y)) [] (fun v h => toRes h [.pair (.pair (.pair (.int .i64) (.int .i64)) (.pair (.pair (.int .i64) (.int .i64)) (.pair (.int .i64) (.int .i64)))) (.pair (.pair (.pair (.int .i64) (.int .i64)) (.pair (.pair (.int .i64) (.int .i64)) (.pair (.int .i64) (.int .i64)))) (.pair (.pair (.int .i64) (.int .i64)) (.pair (.pair (.int .i64) (.int .i64)) (.pair (.int .i64) (.int .i64)))))] v) = (t_matrix_Turn_2 y.1).optA (fun r => (r, ())) := by
  intro y; kernel_rfl
theorem fn_matrix_Turn_2 : FnOk Tryz.prog 137 [.int .i64, .pair (.int .i64) (.int .i64)] [.pair (.pair (.pair (.int .i64) (.int .i64)) (.pair (.pair (.int .i64) (.int .i64)) (.pair (.int .i64) (.int .i64)))) (.pair (.pair (.pair (.int .i64) (.int .i64)) (.pair (.pair (.int .i64) (.int .i64)) (.pair (.int .i64) (.int .i64)))) (.pair (.pair (.int .i64) (.int .i64)) (.pair (.pair (.int .i64) (.int .i64)) (.pair (.int .i64) (.int .i64)))))] (fun x => if x.1 = 2 then some ((fun r => (r, ())) (t_matrix_Turn_2 x.2.1).val) else none) :=
  fn_lit (R := (((Int × Int) × ((Int × Int) × (Int × Int))) × (((Int × Int) × ((Int × Int) × (Int × Int))) × ((Int × Int) × ((Int × Int) × (Int × Int)))))) (Ts := [.pair (.pair (.pair (.int .i64) (.int .i64)) (.pair (.pair (.int .i64) (.int .i64)) (.pair (.int .i64) (.int .i64)))) (.pair (.pair (.pair (.int .i64) (.int .i64)) (.pair (.pair (.int .i64) (.int .i64)) (.pair (.int .i64) (.int .i64)))) (.pair (.pair (.int .i64) (.int .i64)) (.pair (.pair (.int .i64) (.int .i64)) (.pair (.int .i64) (.int .i64)))))]) (mk := (fun r => (r, ()))) (t := fun (y : Ar [.pair (.int .i64) (.int .i64)]) => t_matrix_Turn_2 y.1) (mkC_ok btys_ok beqs_ok (fns_cons ok_interval_Valid (fns_cons ok_matrix_one (fns_cons ok_angle_CosOver (fns_cons ok_angle_SinOver (fns_cons ok_interval_Neg (fns_nil _)))))) (inl_nil _) noLoops_ok mixed) Tryz.func137 2 run_matrix_Turn_2 (fun _ => by kernel_rfl)
def t_matrix_Turn_x (a0 : Int) (a1 : (Int × Int)) : Tr (((Int × Int) × ((Int × Int) × (Int × Int))) × (((Int × Int) × ((Int × Int) × (Int × Int))) × ((Int × Int) × ((Int × Int) × (Int × Int))))) :=
  let x1 : Bool := decide (a0 < 0)
  .br (x1) (
   .leaf (((0, 0), ((0, 0), (0, 0))), (((0, 0), ((0, 0), (0, 0))), ((0, 0), ((0, 0), (0, 0)))))) (
   let x2 : Bool := decide (2 < a0)
   .br (x2) (
    .leaf (((0, 0), ((0, 0), (0, 0))), (((0, 0), ((0, 0), (0, 0))), ((0, 0), ((0, 0), (0, 0)))))) (
    let r3 : Bool := interval_Valid a1
    .br ((!r3)) (
     .leaf (((0, 0), ((0, 0), (0, 0))), (((0, 0), ((0, 0), (0, 0))), ((0, 0), ((0, 0), (0, 0)))))) (
     let r4 : (Int × Int) := angle_CosOver a1
     let r5 : (Int × Int) := angle_SinOver a1
     let x6 : Int := IntKind.wrap .i64 (a0 + 1)
     let x7 : Int := Int.tmod x6 3
     let x8 : Int := IntKind.wrap .i64 (a0 + 2)
     let x9 : Int := Int.tmod x8 3
     .fail)))
theorem run_matrix_Turn_x : ∀ x, runF (mkC btys beqs [(100, hd_interval_Valid), (145, hd_angle_CosOver), (146, hd_angle_SinOver)] [] noLoops) 6 137 Tryz.f137 (argsA [.int .i64, .pair (.int .i64) (.int .i64)] x) [] (fun v h => toRes h [.pair (.pair (.pair (.int .i64) (.int .i64)) (.pair (.pair (.int .i64) (.int .i64)) (.pair (.int .i64) (.int .i64)))) (.pair (.pair (.pair (.int .i64) (.int .i64)) (.pair (.pair (.int .i64) (.int .i64)) (.pair (.int .i64) (.int .i64)))) (.pair (.pair (.int .i64) (.int .i64)) (.pair (.pair (.int .i64) (.int .i64)) (.pair (.int .i64) (.int .i64)))))] v) = (t_matrix_Turn_x x.1 x.2.1).optA (fun r => (r, ())) := by
  intro x; kernel_rfl
theorem fn_matrix_Turn_x : FnOk Tryz.prog 137 [.int .i64, .pair (.int .i64) (.int .i64)] [.pair (.pair (.pair (.int .i64) (.int .i64)) (.pair (.pair (.int .i64) (.int .i64)) (.pair (.int .i64) (.int .i64)))) (.pair (.pair (.pair (.int .i64) (.int .i64)) (.pair (.pair (.int .i64) (.int .i64)) (.pair (.int .i64) (.int .i64)))) (.pair (.pair (.int .i64) (.int .i64)) (.pair (.pair (.int .i64) (.int .i64)) (.pair (.int .i64) (.int .i64)))))] (fun x => bif (t_matrix_Turn_x x.1 x.2.1).dom then some ((fun r => (r, ())) (t_matrix_Turn_x x.1 x.2.1).val) else none) :=
  fn_part (t := fun (x : Ar [.int .i64, .pair (.int .i64) (.int .i64)]) => t_matrix_Turn_x x.1 x.2.1) (R := (((Int × Int) × ((Int × Int) × (Int × Int))) × (((Int × Int) × ((Int × Int) × (Int × Int))) × ((Int × Int) × ((Int × Int) × (Int × Int)))))) (Ts := [.pair (.pair (.pair (.int .i64) (.int .i64)) (.pair (.pair (.int .i64) (.int .i64)) (.pair (.int .i64) (.int .i64)))) (.pair (.pair (.pair (.int .i64) (.int .i64)) (.pair (.pair (.int .i64) (.int .i64)) (.pair (.int .i64) (.int .i64)))) (.pair (.pair (.int .i64) (.int .i64)) (.pair (.pair (.int .i64) (.int .i64)) (.pair (.int .i64) (.int .i64)))))]) (mk := (fun r => (r, ()))) (mkC_ok btys_ok beqs_ok (fns_cons ok_interval_Valid (fns_cons ok_angle_CosOver (fns_cons ok_angle_SinOver (fns_nil _)))) (inl_nil _) noLoops_ok mixed) Tryz.func137 run_matrix_Turn_x
def matrix_Turn (a0 : Int) (a1 : (Int × Int)) : (((Int × Int) × ((Int × Int) × (Int × Int))) × (((Int × Int) × ((Int × Int) × (Int × Int))) × ((Int × Int) × ((Int × Int) × (Int × Int))))) := if a0 = 0 then (t_matrix_Turn_0 a1).val else if a0 = 1 then (t_matrix_Turn_1 a1).val else if a0 = 2 then (t_matrix_Turn_2 a1).val else (t_matrix_Turn_x a0 a1).val
theorem fn_matrix_Turn : FnOk Tryz.prog 137 [.int .i64, .pair (.int .i64) (.int .i64)] [.pair (.pair (.pair (.int .i64) (.int .i64)) (.pair (.pair (.int .i64) (.int .i64)) (.pair (.int .i64) (.int .i64)))) (.pair (.pair (.pair (.int .i64) (.int .i64)) (.pair (.pair (.int .i64) (.int .i64)) (.pair (.int .i64) (.int .i64)))) (.pair (.pair (.int .i64) (.int .i64)) (.pair (.pair (.int .i64) (.int .i64)) (.pair (.int .i64) (.int .i64)))))] (fun x => some ((fun r => (r, ())) (matrix_Turn x.1 x.2.1))) := by
  have hlt : ∀ z : Int, 2 < z → ¬ z < 0 := fun z h => by omega
  have hle : ∀ z : Int, ¬ z = 0 → ¬ z = 1 → ¬ z = 2 → z < 0 ∨ 2 < z := fun z h1 h2 h3 => by omega
  refine fn_or fn_matrix_Turn_0 (fn_or fn_matrix_Turn_1 (fn_or fn_matrix_Turn_2 fn_matrix_Turn_x (F := fun x : Ar [.int .i64, .pair (.int .i64) (.int .i64)] => if x.1 = 2 then some ((fun r => (r, ())) (t_matrix_Turn_2 x.2.1).val) else (if x.1 < 0 ∨ 2 < x.1 then some ((fun r => (r, ())) (t_matrix_Turn_x x.1 x.2.1).val) else none)) ?_)
    (F := fun x : Ar [.int .i64, .pair (.int .i64) (.int .i64)] => if x.1 = 1 then some ((fun r => (r, ())) (t_matrix_Turn_1 x.2.1).val) else if x.1 = 2 then some ((fun r => (r, ())) (t_matrix_Turn_2 x.2.1).val) else (if x.1 < 0 ∨ 2 < x.1 then some ((fun r => (r, ())) (t_matrix_Turn_x x.1 x.2.1).val) else none)) ?_) ?_
  · intro x r h
    dsimp only at h ⊢
    by_cases e2 : x.1 = 2
    · rw [if_pos e2] at h ⊢; exact .inl h
    · rw [if_neg e2] at h
      by_cases e3 : x.1 < 0 ∨ 2 < x.1
      · rw [if_pos e3] at h
        have hd : (t_matrix_Turn_x x.1 x.2.1).dom = true := by
          unfold t_matrix_Turn_x
          rcases e3 with e3 | e3
          · simp [Tr.dom, e3]
          · simp [Tr.dom, e3, hlt _ e3]
        rw [hd]; exact .inr h
      · rw [if_neg e3] at h; simp at h
  · intro x r h
    dsimp only at h ⊢
    by_cases e1 : x.1 = 1
    · rw [if_pos e1] at h ⊢; exact .inl h
    · rw [if_neg e1] at h; exact .inr h
  · intro x r h
    dsimp only at h ⊢
    unfold matrix_Turn at h
    by_cases e0 : x.1 = 0
    · rw [if_pos e0] at h ⊢; exact .inl h
    · rw [if_neg e0] at h
      refine .inr ?_
      by_cases e1 : x.1 = 1
      · rw [if_pos e1] at h ⊢; exact h
      · rw [if_neg e1] at h ⊢
        by_cases e2 : x.1 = 2
        · rw [if_pos e2] at h ⊢; exact h
        · rw [if_neg e2] at h ⊢
          rw [if_pos (hle _ e0 e1 e2)]; exact h
def hd_matrix_Turn : Hd := dataHd [.int .i64, .pair (.int .i64) (.int .i64)] [.pair (.pair (.pair (.int .i64) (.int .i64)) (.pair (.pair (.int .i64) (.int .i64)) (.pair (.int .i64) (.int .i64)))) (.pair (.pair (.pair (.int .i64) (.int .i64)) (.pair (.pair (.int .i64) (.int .i64)) (.pair (.int .i64) (.int .i64)))) (.pair (.pair (.int .i64) (.int .i64)) (.pair (.pair (.int .i64) (.int .i64)) (.pair (.int .i64) (.int .i64)))))] (fun x => some ((fun r => (r, ())) (matrix_Turn x.1 x.2.1)))
theorem ok_matrix_Turn : HdOk Tryz.prog 137 hd_matrix_Turn.sem ∧ Enters Tryz.prog 137 := data_ok fn_matrix_Turn Tryz.func137 (by kernel_rfl) (by kernel_rfl)

/- armplan/armplanref1.Point -/
def t_armplanref1_Point (a0 : (Int × (Int × Int))) : Tr ((Int × Int) × ((Int × Int) × (Int × Int))) :=
  let r1 : (Int × Int) := armplanref1_Of a0.1
  let r2 : (Int × Int) := armplanref1_Of a0.2.1
  let r3 : (Int × Int) := armplanref1_Of a0.2.2
  .leaf (r1, (r2, r3))
def armplanref1_Point (a0 : (Int × (Int × Int))) : ((Int × Int) × ((Int × Int) × (Int × Int))) := (t_armplanref1_Point a0).val
theorem run_armplanref1_Point : ∀ x, runF (mkC btys beqs [(63, hd_armplanref1_Of)] [] noLoops) 200 40 Tryz.f40 (argsA [.pair (.int .i64) (.pair (.int .i64) (.int .i64))] x) [] (fun v h => toRes h [.pair (.pair (.int .i64) (.int .i64)) (.pair (.pair (.int .i64) (.int .i64)) (.pair (.int .i64) (.int .i64)))] v) = (t_armplanref1_Point x.1).optA (fun r => (r, ())) := by
  intro x; kernel_rfl
theorem fn_armplanref1_Point : FnOk Tryz.prog 40 [.pair (.int .i64) (.pair (.int .i64) (.int .i64))] [.pair (.pair (.int .i64) (.int .i64)) (.pair (.pair (.int .i64) (.int .i64)) (.pair (.int .i64) (.int .i64)))] (fun x => some ((fun r => (r, ())) (armplanref1_Point x.1))) :=
  fn_tot (t := fun (x : Ar [.pair (.int .i64) (.pair (.int .i64) (.int .i64))]) => t_armplanref1_Point x.1) (R := ((Int × Int) × ((Int × Int) × (Int × Int)))) (Ts := [.pair (.pair (.int .i64) (.int .i64)) (.pair (.pair (.int .i64) (.int .i64)) (.pair (.int .i64) (.int .i64)))]) (mk := (fun r => (r, ()))) (mkC_ok btys_ok beqs_ok (fns_cons ok_armplanref1_Of (fns_nil _)) (inl_nil _) noLoops_ok mixed) Tryz.func40 run_armplanref1_Point (fun _ => by kernel_rfl)
def hd_armplanref1_Point : Hd := dataHd [.pair (.int .i64) (.pair (.int .i64) (.int .i64))] [.pair (.pair (.int .i64) (.int .i64)) (.pair (.pair (.int .i64) (.int .i64)) (.pair (.int .i64) (.int .i64)))] (fun x => some ((fun r => (r, ())) (armplanref1_Point x.1)))
theorem ok_armplanref1_Point : HdOk Tryz.prog 40 hd_armplanref1_Point.sem ∧ Enters Tryz.prog 40 := data_ok fn_armplanref1_Point Tryz.func40 (by kernel_rfl) (by kernel_rfl)

/- armplan/interval.Add -/
def t_interval_Add (a0 : (Int × Int)) (a1 : (Int × Int)) : Tr (Int × Int) :=
  let r1 : Bool := interval_both a0 a1
  .br ((!r1)) (
   .leaf (0, 0)) (
   let x2 : Int := IntKind.wrap .i64 (a0.1 + a1.1)
   let x3 : Int := IntKind.wrap .i64 (a0.2 + a1.2)
   let r4 : (Int × Int) := interval_limit x2 x3
   .leaf r4)
def interval_Add (a0 : (Int × Int)) (a1 : (Int × Int)) : (Int × Int) := (t_interval_Add a0 a1).val
theorem run_interval_Add : ∀ x, runF (mkC btys beqs [(97, hd_interval_both), (116, hd_interval_limit)] [] noLoops) 200 131 Tryz.f131 (argsA [.pair (.int .i64) (.int .i64), .pair (.int .i64) (.int .i64)] x) [] (fun v h => toRes h [.pair (.int .i64) (.int .i64)] v) = (t_interval_Add x.1 x.2.1).optA (fun r => (r, ())) := by
  intro x; kernel_rfl
theorem fn_interval_Add : FnOk Tryz.prog 131 [.pair (.int .i64) (.int .i64), .pair (.int .i64) (.int .i64)] [.pair (.int .i64) (.int .i64)] (fun x => some ((fun r => (r, ())) (interval_Add x.1 x.2.1))) :=
  fn_tot (t := fun (x : Ar [.pair (.int .i64) (.int .i64), .pair (.int .i64) (.int .i64)]) => t_interval_Add x.1 x.2.1) (R := (Int × Int)) (Ts := [.pair (.int .i64) (.int .i64)]) (mk := (fun r => (r, ()))) (mkC_ok btys_ok beqs_ok (fns_cons ok_interval_both (fns_cons ok_interval_limit (fns_nil _))) (inl_nil _) noLoops_ok mixed) Tryz.func131 run_interval_Add (fun _ => by kernel_rfl)
def hd_interval_Add : Hd := dataHd [.pair (.int .i64) (.int .i64), .pair (.int .i64) (.int .i64)] [.pair (.int .i64) (.int .i64)] (fun x => some ((fun r => (r, ())) (interval_Add x.1 x.2.1)))
theorem ok_interval_Add : HdOk Tryz.prog 131 hd_interval_Add.sem ∧ Enters Tryz.prog 131 := data_ok fn_interval_Add Tryz.func131 (by kernel_rfl) (by kernel_rfl)

/- armplan/interval.outward -/
def t_interval_outward (a0 : Int) (a1 : Int) : Tr (Int × Int) :=
  let r1 : Int := fixed_ShiftDown a0 16
  let r2 : Int := fixed_ShiftUp a1 16
  let r3 : (Int × Int) := interval_limit r1 r2
  .leaf r3
def interval_outward (a0 : Int) (a1 : Int) : (Int × Int) := (t_interval_outward a0 a1).val
theorem run_interval_outward : ∀ x, runF (mkC btys beqs [(116, hd_interval_limit), (148, hd_fixed_ShiftDown), (149, hd_fixed_ShiftUp)] [] noLoops) 200 140 Tryz.f140 (argsA [.int .i64, .int .i64] x) [] (fun v h => toRes h [.pair (.int .i64) (.int .i64)] v) = (t_interval_outward x.1 x.2.1).optA (fun r => (r, ())) := by
  intro x; kernel_rfl
theorem fn_interval_outward : FnOk Tryz.prog 140 [.int .i64, .int .i64] [.pair (.int .i64) (.int .i64)] (fun x => some ((fun r => (r, ())) (interval_outward x.1 x.2.1))) :=
  fn_tot (t := fun (x : Ar [.int .i64, .int .i64]) => t_interval_outward x.1 x.2.1) (R := (Int × Int)) (Ts := [.pair (.int .i64) (.int .i64)]) (mk := (fun r => (r, ()))) (mkC_ok btys_ok beqs_ok (fns_cons ok_interval_limit (fns_cons ok_fixed_ShiftDown (fns_cons ok_fixed_ShiftUp (fns_nil _)))) (inl_nil _) noLoops_ok mixed) Tryz.func140 run_interval_outward (fun _ => by kernel_rfl)
def hd_interval_outward : Hd := dataHd [.int .i64, .int .i64] [.pair (.int .i64) (.int .i64)] (fun x => some ((fun r => (r, ())) (interval_outward x.1 x.2.1)))
theorem ok_interval_outward : HdOk Tryz.prog 140 hd_interval_outward.sem ∧ Enters Tryz.prog 140 := data_ok fn_interval_outward Tryz.func140 (by kernel_rfl) (by kernel_rfl)

/- armplan/interval.Mul -/
def t_interval_Mul (a0 : (Int × Int)) (a1 : (Int × Int)) : Tr (Int × Int) :=
  let r1 : Bool := interval_both a0 a1
  .br ((!r1)) (
   .leaf (0, 0)) (
   let x2 : Int := IntKind.wrap .i64 (a0.1 * a1.1)
   let x3 : Int := IntKind.wrap .i64 (a0.1 * a1.2)
   let x4 : Int := IntKind.wrap .i64 (a0.2 * a1.1)
   let x5 : Int := IntKind.wrap .i64 (a0.2 * a1.2)
   let x6 : Int := if x2 < x2 then x2 else x2
   let x7 : Int := if x2 > x2 then x2 else x2
   let x8 : Int := if x3 < x6 then x3 else x6
   let x9 : Int := if x3 > x7 then x3 else x7
   let x10 : Int := if x4 < x8 then x4 else x8
   let x11 : Int := if x4 > x9 then x4 else x9
   let x12 : Int := if x5 < x10 then x5 else x10
   let x13 : Int := if x5 > x11 then x5 else x11
   let r14 : (Int × Int) := interval_outward x12 x13
   .leaf r14)
def interval_Mul (a0 : (Int × Int)) (a1 : (Int × Int)) : (Int × Int) := (t_interval_Mul a0 a1).val
theorem run_interval_Mul : ∀ x, runF (mkC btys beqs [(97, hd_interval_both), (140, hd_interval_outward)] [] noLoops) 200 130 Tryz.f130 (argsA [.pair (.int .i64) (.int .i64), .pair (.int .i64) (.int .i64)] x) [] (fun v h => toRes h [.pair (.int .i64) (.int .i64)] v) = (t_interval_Mul x.1 x.2.1).optA (fun r => (r, ())) := by
  intro x; kernel_rfl
theorem fn_interval_Mul : FnOk Tryz.prog 130 [.pair (.int .i64) (.int .i64), .pair (.int .i64) (.int .i64)] [.pair (.int .i64) (.int .i64)] (fun x => some ((fun r => (r, ())) (interval_Mul x.1 x.2.1))) :=
  fn_tot (t := fun (x : Ar [.pair (.int .i64) (.int .i64), .pair (.int .i64) (.int .i64)]) => t_interval_Mul x.1 x.2.1) (R := (Int × Int)) (Ts := [.pair (.int .i64) (.int .i64)]) (mk := (fun r => (r, ()))) (mkC_ok btys_ok beqs_ok (fns_cons ok_interval_both (fns_cons ok_interval_outward (fns_nil _))) (inl_nil _) noLoops_ok mixed) Tryz.func130 run_interval_Mul (fun _ => by kernel_rfl)
def hd_interval_Mul : Hd := dataHd [.pair (.int .i64) (.int .i64), .pair (.int .i64) (.int .i64)] [.pair (.int .i64) (.int .i64)] (fun x => some ((fun r => (r, ())) (interval_Mul x.1 x.2.1)))
theorem ok_interval_Mul : HdOk Tryz.prog 130 hd_interval_Mul.sem ∧ Enters Tryz.prog 130 := data_ok fn_interval_Mul Tryz.func130 (by kernel_rfl) (by kernel_rfl)

/- armplan/matrix.sum -/
def t_matrix_sum (a0 : ((Int × Int) × ((Int × Int) × (Int × Int)))) (a1 : ((Int × Int) × ((Int × Int) × (Int × Int)))) : Tr (Int × Int) :=
  let r1 : (Int × Int) := interval_Mul a0.1 a1.1
  let r2 : (Int × Int) := interval_Mul a0.2.1 a1.2.1
  let r3 : (Int × Int) := interval_Add r1 r2
  let r4 : (Int × Int) := interval_Mul a0.2.2 a1.2.2
  let r5 : (Int × Int) := interval_Add r3 r4
  .leaf r5
def matrix_sum (a0 : ((Int × Int) × ((Int × Int) × (Int × Int)))) (a1 : ((Int × Int) × ((Int × Int) × (Int × Int)))) : (Int × Int) := (t_matrix_sum a0 a1).val
theorem run_matrix_sum : ∀ x, runF (mkC btys beqs [(130, hd_interval_Mul), (131, hd_interval_Add)] [] noLoops) 200 115 Tryz.f115 (argsA [.pair (.pair (.int .i64) (.int .i64)) (.pair (.pair (.int .i64) (.int .i64)) (.pair (.int .i64) (.int .i64))), .pair (.pair (.int .i64) (.int .i64)) (.pair (.pair (.int .i64) (.int .i64)) (.pair (.int .i64) (.int .i64)))] x) [] (fun v h => toRes h [.pair (.int .i64) (.int .i64)] v) = (t_matrix_sum x.1 x.2.1).optA (fun r => (r, ())) := by
  intro x; kernel_rfl
theorem fn_matrix_sum : FnOk Tryz.prog 115 [.pair (.pair (.int .i64) (.int .i64)) (.pair (.pair (.int .i64) (.int .i64)) (.pair (.int .i64) (.int .i64))), .pair (.pair (.int .i64) (.int .i64)) (.pair (.pair (.int .i64) (.int .i64)) (.pair (.int .i64) (.int .i64)))] [.pair (.int .i64) (.int .i64)] (fun x => some ((fun r => (r, ())) (matrix_sum x.1 x.2.1))) :=
  fn_tot (t := fun (x : Ar [.pair (.pair (.int .i64) (.int .i64)) (.pair (.pair (.int .i64) (.int .i64)) (.pair (.int .i64) (.int .i64))), .pair (.pair (.int .i64) (.int .i64)) (.pair (.pair (.int .i64) (.int .i64)) (.pair (.int .i64) (.int .i64)))]) => t_matrix_sum x.1 x.2.1) (R := (Int × Int)) (Ts := [.pair (.int .i64) (.int .i64)]) (mk := (fun r => (r, ()))) (mkC_ok btys_ok beqs_ok (fns_cons ok_interval_Mul (fns_cons ok_interval_Add (fns_nil _))) (inl_nil _) noLoops_ok mixed) Tryz.func115 run_matrix_sum (fun _ => by kernel_rfl)
def hd_matrix_sum : Hd := dataHd [.pair (.pair (.int .i64) (.int .i64)) (.pair (.pair (.int .i64) (.int .i64)) (.pair (.int .i64) (.int .i64))), .pair (.pair (.int .i64) (.int .i64)) (.pair (.pair (.int .i64) (.int .i64)) (.pair (.int .i64) (.int .i64)))] [.pair (.int .i64) (.int .i64)] (fun x => some ((fun r => (r, ())) (matrix_sum x.1 x.2.1)))
theorem ok_matrix_sum : HdOk Tryz.prog 115 hd_matrix_sum.sem ∧ Enters Tryz.prog 115 := data_ok fn_matrix_sum Tryz.func115 (by kernel_rfl) (by kernel_rfl)

/- armplan/matrix.Apply -/
def t_matrix_Apply (a0 : (((Int × Int) × ((Int × Int) × (Int × Int))) × (((Int × Int) × ((Int × Int) × (Int × Int))) × ((Int × Int) × ((Int × Int) × (Int × Int)))))) (a1 : ((Int × Int) × ((Int × Int) × (Int × Int)))) : Tr ((Int × Int) × ((Int × Int) × (Int × Int))) :=
  let r1 : (Int × Int) := matrix_sum a0.1 a1
  let r2 : (Int × Int) := matrix_sum a0.2.1 a1
  let r3 : (Int × Int) := matrix_sum a0.2.2 a1
  .leaf (r1, (r2, r3))
def matrix_Apply (a0 : (((Int × Int) × ((Int × Int) × (Int × Int))) × (((Int × Int) × ((Int × Int) × (Int × Int))) × ((Int × Int) × ((Int × Int) × (Int × Int)))))) (a1 : ((Int × Int) × ((Int × Int) × (Int × Int)))) : ((Int × Int) × ((Int × Int) × (Int × Int))) := (t_matrix_Apply a0 a1).val
theorem run_matrix_Apply : ∀ x, runF (mkC btys beqs [(115, hd_matrix_sum)] [] noLoops) 200 105 Tryz.f105 (argsA [.pair (.pair (.pair (.int .i64) (.int .i64)) (.pair (.pair (.int .i64) (.int .i64)) (.pair (.int .i64) (.int .i64)))) (.pair (.pair (.pair (.int .i64) (.int .i64)) (.pair (.pair (.int .i64) (.int .i64)) (.pair (.int .i64) (.int .i64)))) (.pair (.pair (.int .i64) (.int .i64)) (.pair (.pair (.int .i64) (.int .i64)) (.pair (.int .i64) (.int .i64))))), .pair (.pair (.int .i64) (.int .i64)) (.pair (.pair (.int .i64) (.int .i64)) (.pair (.int .i64) (.int .i64)))] x) [] (fun v h => toRes h [.pair (.pair (.int .i64) (.int .i64)) (.pair (.pair (.int .i64) (.int .i64)) (.pair (.int .i64) (.int .i64)))] v) = (t_matrix_Apply x.1 x.2.1).optA (fun r => (r, ())) := by
  intro x; kernel_rfl
theorem fn_matrix_Apply : FnOk Tryz.prog 105 [.pair (.pair (.pair (.int .i64) (.int .i64)) (.pair (.pair (.int .i64) (.int .i64)) (.pair (.int .i64) (.int .i64)))) (.pair (.pair (.pair (.int .i64) (.int .i64)) (.pair (.pair (.int .i64) (.int .i64)) (.pair (.int .i64) (.int .i64)))) (.pair (.pair (.int .i64) (.int .i64)) (.pair (.pair (.int .i64) (.int .i64)) (.pair (.int .i64) (.int .i64))))), .pair (.pair (.int .i64) (.int .i64)) (.pair (.pair (.int .i64) (.int .i64)) (.pair (.int .i64) (.int .i64)))] [.pair (.pair (.int .i64) (.int .i64)) (.pair (.pair (.int .i64) (.int .i64)) (.pair (.int .i64) (.int .i64)))] (fun x => some ((fun r => (r, ())) (matrix_Apply x.1 x.2.1))) :=
  fn_tot (t := fun (x : Ar [.pair (.pair (.pair (.int .i64) (.int .i64)) (.pair (.pair (.int .i64) (.int .i64)) (.pair (.int .i64) (.int .i64)))) (.pair (.pair (.pair (.int .i64) (.int .i64)) (.pair (.pair (.int .i64) (.int .i64)) (.pair (.int .i64) (.int .i64)))) (.pair (.pair (.int .i64) (.int .i64)) (.pair (.pair (.int .i64) (.int .i64)) (.pair (.int .i64) (.int .i64))))), .pair (.pair (.int .i64) (.int .i64)) (.pair (.pair (.int .i64) (.int .i64)) (.pair (.int .i64) (.int .i64)))]) => t_matrix_Apply x.1 x.2.1) (R := ((Int × Int) × ((Int × Int) × (Int × Int)))) (Ts := [.pair (.pair (.int .i64) (.int .i64)) (.pair (.pair (.int .i64) (.int .i64)) (.pair (.int .i64) (.int .i64)))]) (mk := (fun r => (r, ()))) (mkC_ok btys_ok beqs_ok (fns_cons ok_matrix_sum (fns_nil _)) (inl_nil _) noLoops_ok mixed) Tryz.func105 run_matrix_Apply (fun _ => by kernel_rfl)
def hd_matrix_Apply : Hd := dataHd [.pair (.pair (.pair (.int .i64) (.int .i64)) (.pair (.pair (.int .i64) (.int .i64)) (.pair (.int .i64) (.int .i64)))) (.pair (.pair (.pair (.int .i64) (.int .i64)) (.pair (.pair (.int .i64) (.int .i64)) (.pair (.int .i64) (.int .i64)))) (.pair (.pair (.int .i64) (.int .i64)) (.pair (.pair (.int .i64) (.int .i64)) (.pair (.int .i64) (.int .i64))))), .pair (.pair (.int .i64) (.int .i64)) (.pair (.pair (.int .i64) (.int .i64)) (.pair (.int .i64) (.int .i64)))] [.pair (.pair (.int .i64) (.int .i64)) (.pair (.pair (.int .i64) (.int .i64)) (.pair (.int .i64) (.int .i64)))] (fun x => some ((fun r => (r, ())) (matrix_Apply x.1 x.2.1)))
theorem ok_matrix_Apply : HdOk Tryz.prog 105 hd_matrix_Apply.sem ∧ Enters Tryz.prog 105 := data_ok fn_matrix_Apply Tryz.func105 (by kernel_rfl) (by kernel_rfl)

/- armplan/matrix.Point -/
def t_matrix_Point (a0 : (Int × (Int × Int))) : Tr ((Int × Int) × ((Int × Int) × (Int × Int))) :=
  let r1 : (Int × Int) := interval_Of a0.1
  let r2 : (Int × Int) := interval_Of a0.2.1
  let r3 : (Int × Int) := interval_Of a0.2.2
  .leaf (r1, (r2, r3))
def matrix_Point (a0 : (Int × (Int × Int))) : ((Int × Int) × ((Int × Int) × (Int × Int))) := (t_matrix_Point a0).val
theorem run_matrix_Point : ∀ x, runF (mkC btys beqs [(106, hd_interval_Of)] [] noLoops) 200 78 Tryz.f78 (argsA [.pair (.int .i64) (.pair (.int .i64) (.int .i64))] x) [] (fun v h => toRes h [.pair (.pair (.int .i64) (.int .i64)) (.pair (.pair (.int .i64) (.int .i64)) (.pair (.int .i64) (.int .i64)))] v) = (t_matrix_Point x.1).optA (fun r => (r, ())) := by
  intro x; kernel_rfl
theorem fn_matrix_Point : FnOk Tryz.prog 78 [.pair (.int .i64) (.pair (.int .i64) (.int .i64))] [.pair (.pair (.int .i64) (.int .i64)) (.pair (.pair (.int .i64) (.int .i64)) (.pair (.int .i64) (.int .i64)))] (fun x => some ((fun r => (r, ())) (matrix_Point x.1))) :=
  fn_tot (t := fun (x : Ar [.pair (.int .i64) (.pair (.int .i64) (.int .i64))]) => t_matrix_Point x.1) (R := ((Int × Int) × ((Int × Int) × (Int × Int)))) (Ts := [.pair (.pair (.int .i64) (.int .i64)) (.pair (.pair (.int .i64) (.int .i64)) (.pair (.int .i64) (.int .i64)))]) (mk := (fun r => (r, ()))) (mkC_ok btys_ok beqs_ok (fns_cons ok_interval_Of (fns_nil _)) (inl_nil _) noLoops_ok mixed) Tryz.func78 run_matrix_Point (fun _ => by kernel_rfl)
def hd_matrix_Point : Hd := dataHd [.pair (.int .i64) (.pair (.int .i64) (.int .i64))] [.pair (.pair (.int .i64) (.int .i64)) (.pair (.pair (.int .i64) (.int .i64)) (.pair (.int .i64) (.int .i64)))] (fun x => some ((fun r => (r, ())) (matrix_Point x.1)))
theorem ok_matrix_Point : HdOk Tryz.prog 78 hd_matrix_Point.sem ∧ Enters Tryz.prog 78 := data_ok fn_matrix_Point Tryz.func78 (by kernel_rfl) (by kernel_rfl)

/- armplan/interval.Within -/
def t_interval_Within (a0 : (Int × Int)) (a1 : (Int × Int)) : Tr Bool :=
  let r1 : Bool := interval_both a0 a1
  .br (r1) (
   let x2 : Bool := decide (a1.1 ≤ a0.1)
   .br (x2) (
    let x3 : Bool := decide (a0.2 ≤ a1.2)
    .leaf x3) (
    .leaf false)) (
   .leaf false)
def interval_Within (a0 : (Int × Int)) (a1 : (Int × Int)) : Bool := (t_interval_Within a0 a1).val
theorem run_interval_Within : ∀ x, runF (mkC btys beqs [(97, hd_interval_both)] [] noLoops) 200 70 Tryz.f70 (argsA [.pair (.int .i64) (.int .i64), .pair (.int .i64) (.int .i64)] x) [] (fun v h => toRes h [.bool] v) = (t_interval_Within x.1 x.2.1).optA (fun r => (r, ())) := by
  intro x; kernel_rfl
theorem fn_interval_Within : FnOk Tryz.prog 70 [.pair (.int .i64) (.int .i64), .pair (.int .i64) (.int .i64)] [.bool] (fun x => some ((fun r => (r, ())) (interval_Within x.1 x.2.1))) :=
  fn_tot (t := fun (x : Ar [.pair (.int .i64) (.int .i64), .pair (.int .i64) (.int .i64)]) => t_interval_Within x.1 x.2.1) (R := Bool) (Ts := [.bool]) (mk := (fun r => (r, ()))) (mkC_ok btys_ok beqs_ok (fns_cons ok_interval_both (fns_nil _)) (inl_nil _) noLoops_ok mixed) Tryz.func70 run_interval_Within (fun _ => by kernel_rfl)
def hd_interval_Within : Hd := dataHd [.pair (.int .i64) (.int .i64), .pair (.int .i64) (.int .i64)] [.bool] (fun x => some ((fun r => (r, ())) (interval_Within x.1 x.2.1)))
theorem ok_interval_Within : HdOk Tryz.prog 70 hd_interval_Within.sem ∧ Enters Tryz.prog 70 := data_ok fn_interval_Within Tryz.func70 (by kernel_rfl) (by kernel_rfl)

/- armplan/armplanref1.Turn -/
def t_armplanref1_Turn (a0 : Int) (a1 : (Int × Int)) : Tr (((Int × Int) × ((Int × Int) × (Int × Int))) × (((Int × Int) × ((Int × Int) × (Int × Int))) × ((Int × Int) × ((Int × Int) × (Int × Int))))) :=
  let r1 : Bool := armplanref1_Valid a1
  .br ((!r1)) (
   .leaf (((0, 0), ((0, 0), (0, 0))), (((0, 0), ((0, 0), (0, 0))), ((0, 0), ((0, 0), (0, 0)))))) (
   let r2 : (Int × Int) := armplanref1_Of 65536
   let r3 : (Int × Int) := armplanref1_CosOver a1
   let r4 : (Int × Int) := armplanref1_SinOver a1
   let r5 : (Int × Int) := armplanref1_Neg r4
   let x6 : Bool := decide (a0 = 0)
   .br (x6) (
    .leaf ((r2, ((0, 0), (0, 0))), (((0, 0), (r3, r5)), ((0, 0), (r4, r3))))) (
    let x7 : Bool := decide (a0 = 1)
    .br (x7) (
     .leaf ((r3, ((0, 0), r4)), (((0, 0), (r2, (0, 0))), (r5, ((0, 0), r3))))) (
     let x8 : Bool := decide (a0 = 2)
     .br (x8) (
      .leaf ((r3, (r5, (0, 0))), ((r4, (r3, (0, 0))), ((0, 0), ((0, 0), r2))))) (
      .leaf (((0, 0), ((0, 0), (0, 0))), (((0, 0), ((0, 0), (0, 0))), ((0, 0), ((0, 0), (0, 0)))))))))
def armplanref1_Turn (a0 : Int) (a1 : (Int × Int)) : (((Int × Int) × ((Int × Int) × (Int × Int))) × (((Int × Int) × ((Int × Int) × (Int × Int))) × ((Int × Int) × ((Int × Int) × (Int × Int))))) := (t_armplanref1_Turn a0 a1).val
theorem run_armplanref1_Turn : ∀ x, runF (mkC btys beqs [(63, hd_armplanref1_Of), (93, hd_armplanref1_Valid), (119, hd_armplanref1_CosOver), (120, hd_armplanref1_SinOver), (121, hd_armplanref1_Neg)] [] noLoops) 200 109 Tryz.f109 (argsA [.int .i64, .pair (.int .i64) (.int .i64)] x) [] (fun v h => toRes h [.pair (.pair (.pair (.int .i64) (.int .i64)) (.pair (.pair (.int .i64) (.int .i64)) (.pair (.int .i64) (.int .i64)))) (.pair (.pair (.pair (.int .i64) (.int .i64)) (.pair (.pair (.int .i64) (.int .i64)) (.pair (.int .i64) (.int .i64)))) (.pair (.pair (.int .i64) (.int .i64)) (.pair (.pair (.int .i64) (.int .i64)) (.pair (.int .i64) (.int .i64)))))] v) = (t_armplanref1_Turn x.1 x.2.1).optA (fun r => (r, ())) := by
  intro x; kernel_rfl
theorem fn_armplanref1_Turn : FnOk Tryz.prog 109 [.int .i64, .pair (.int .i64) (.int .i64)] [.pair (.pair (.pair (.int .i64) (.int .i64)) (.pair (.pair (.int .i64) (.int .i64)) (.pair (.int .i64) (.int .i64)))) (.pair (.pair (.pair (.int .i64) (.int .i64)) (.pair (.pair (.int .i64) (.int .i64)) (.pair (.int .i64) (.int .i64)))) (.pair (.pair (.int .i64) (.int .i64)) (.pair (.pair (.int .i64) (.int .i64)) (.pair (.int .i64) (.int .i64)))))] (fun x => some ((fun r => (r, ())) (armplanref1_Turn x.1 x.2.1))) :=
  fn_tot (t := fun (x : Ar [.int .i64, .pair (.int .i64) (.int .i64)]) => t_armplanref1_Turn x.1 x.2.1) (R := (((Int × Int) × ((Int × Int) × (Int × Int))) × (((Int × Int) × ((Int × Int) × (Int × Int))) × ((Int × Int) × ((Int × Int) × (Int × Int)))))) (Ts := [.pair (.pair (.pair (.int .i64) (.int .i64)) (.pair (.pair (.int .i64) (.int .i64)) (.pair (.int .i64) (.int .i64)))) (.pair (.pair (.pair (.int .i64) (.int .i64)) (.pair (.pair (.int .i64) (.int .i64)) (.pair (.int .i64) (.int .i64)))) (.pair (.pair (.int .i64) (.int .i64)) (.pair (.pair (.int .i64) (.int .i64)) (.pair (.int .i64) (.int .i64)))))]) (mk := (fun r => (r, ()))) (mkC_ok btys_ok beqs_ok (fns_cons ok_armplanref1_Of (fns_cons ok_armplanref1_Valid (fns_cons ok_armplanref1_CosOver (fns_cons ok_armplanref1_SinOver (fns_cons ok_armplanref1_Neg (fns_nil _)))))) (inl_nil _) noLoops_ok mixed) Tryz.func109 run_armplanref1_Turn (fun _ => by kernel_rfl)
def hd_armplanref1_Turn : Hd := dataHd [.int .i64, .pair (.int .i64) (.int .i64)] [.pair (.pair (.pair (.int .i64) (.int .i64)) (.pair (.pair (.int .i64) (.int .i64)) (.pair (.int .i64) (.int .i64)))) (.pair (.pair (.pair (.int .i64) (.int .i64)) (.pair (.pair (.int .i64) (.int .i64)) (.pair (.int .i64) (.int .i64)))) (.pair (.pair (.int .i64) (.int .i64)) (.pair (.pair (.int .i64) (.int .i64)) (.pair (.int .i64) (.int .i64)))))] (fun x => some ((fun r => (r, ())) (armplanref1_Turn x.1 x.2.1)))
theorem ok_armplanref1_Turn : HdOk Tryz.prog 109 hd_armplanref1_Turn.sem ∧ Enters Tryz.prog 109 := data_ok fn_armplanref1_Turn Tryz.func109 (by kernel_rfl) (by kernel_rfl)

end Go.RX

/-
  The contracts of functions.
-/
namespace Go.RX
open Go.Proofs

def ctys : List (Nat × TRow) := [(2, ⟨.int .i64, 1, 8, [.int .i64 0], .int .i64⟩),
  (3, ⟨.int .i64, 1, 8, [.int .i64 0], .int .i64⟩),
  (32, ⟨.slice 3, 1, 24, [.slice none 0 0], .list (.int .i64)⟩),
  (46, ⟨.struct [(0, 1), (1, 1)], 2, 16, [.int .i64 0, .int .i64 0], .pair (.int .i64) (.int .i64)⟩),
  (82, ⟨.struct [(0, 1), (1, 1)], 2, 32, [.slice none 0 0, .int .i64 0], .pair (.list (.int .i64)) (.int .i64)⟩),
  (87, ⟨.arr 3 46, 6, 48, [.int .i64 0, .int .i64 0, .int .i64 0, .int .i64 0, .int .i64 0, .int .i64 0], .pair (.pair (.int .i64) (.int .i64)) (.pair (.pair (.int .i64) (.int .i64)) (.pair (.int .i64) (.int .i64)))⟩),
  (89, ⟨.arr 3 87, 18, 144, [.int .i64 0, .int .i64 0, .int .i64 0, .int .i64 0, .int .i64 0, .int .i64 0, .int .i64 0, .int .i64 0, .int .i64 0, .int .i64 0, .int .i64 0, .int .i64 0, .int .i64 0, .int .i64 0, .int .i64 0, .int .i64 0, .int .i64 0, .int .i64 0], .pair (.pair (.pair (.int .i64) (.int .i64)) (.pair (.pair (.int .i64) (.int .i64)) (.pair (.int .i64) (.int .i64)))) (.pair (.pair (.pair (.int .i64) (.int .i64)) (.pair (.pair (.int .i64) (.int .i64)) (.pair (.int .i64) (.int .i64)))) (.pair (.pair (.int .i64) (.int .i64)) (.pair (.pair (.int .i64) (.int .i64)) (.pair (.int .i64) (.int .i64)))))⟩),
  (90, ⟨.arr 3 46, 6, 48, [.int .i64 0, .int .i64 0, .int .i64 0, .int .i64 0, .int .i64 0, .int .i64 0], .pair (.pair (.int .i64) (.int .i64)) (.pair (.pair (.int .i64) (.int .i64)) (.pair (.int .i64) (.int .i64)))⟩)]
def ceqs : List (Nat × (Bool × List TK)) := []
theorem ctys_ok : tableOk Tryz.prog ctys = true := by kernel_rfl
theorem ceqs_ok : eqsOk Tryz.prog ceqs = true := by kernel_rfl

/- (*armplan/armplanmake.Source).Next -/
def t_armplanmake_Source_Next (a0 : (List (Int) × Int)) (a1 : Int) : Tr (Int × (List (Int) × Int)) :=
  let x1 : Bool := decide (((a0.1.length : Nat) : Int) ≤ a0.2)
  .br (x1) (
   .leaf (0, a0)) (
   let x2 : Int := IntKind.wrap .i64 (a0.2 + 1)
   let x3 : Int := IntKind.wrap .i64 (x2 - 1)
   .br (decide (0 ≤ x3) && decide (x3 < ((a0.1.length : Nat) : Int))) (
    let r4 : Int := armplanmake_Round (List.getD a0.1 x3.toNat (Ty.dflt (.int .i64))) a1
    .br (dom_armplanmake_Round (List.getD a0.1 x3.toNat (Ty.dflt (.int .i64))) a1) (
     .leaf (r4, (a0.1, x2))) .fail) .fail)
def armplanmake_Source_Next (a0 : (List (Int) × Int)) (a1 : Int) : (Int × (List (Int) × Int)) := (t_armplanmake_Source_Next a0 a1).val
def dom_armplanmake_Source_Next (a0 : (List (Int) × Int)) (a1 : Int) : Bool := (t_armplanmake_Source_Next a0 a1).dom
theorem run_armplanmake_Source_Next : ∀ x, runF (mkC ctys ceqs [(8, hd_armplanmake_Round)] [] noLoops) 200 18 Tryz.f18 (mkT id [⟨[0], true, false, [.d (.pair (.list (.int .i64)) (.int .i64))]⟩, ⟨[1], false, false, [.d (.int .i64)]⟩] x 0 (List.replicate 2 .top)) (mkH id [⟨[0], true, false, [.d (.pair (.list (.int .i64)) (.int .i64))]⟩, ⟨[1], false, false, [.d (.int .i64)]⟩] x 0) (endS [.int .i64] [⟨[], true, false, [.d (.pair (.list (.int .i64)) (.int .i64))]⟩]) = (t_armplanmake_Source_Next x.1.1 x.2.1.1).optA (fun (r : (Int × (List (Int) × Int))) => ((r.1, ()), ((r.2, ()), ()))) := by
  intro x; kernel_rfl
def hd_armplanmake_Source_Next : Hd := hdS 2 [⟨[0], true, false, [.d (.pair (.list (.int .i64)) (.int .i64))]⟩, ⟨[1], false, false, [.d (.int .i64)]⟩] [⟨[], true, false, [.d (.pair (.list (.int .i64)) (.int .i64))]⟩] [.int .i64] (fun x => dom_armplanmake_Source_Next x.1.1 x.2.1.1) (fun x => (fun (r : (Int × (List (Int) × Int))) => ((r.1, ()), ((r.2, ()), ()))) (armplanmake_Source_Next x.1.1 x.2.1.1)) (by kernel_rfl)
theorem fn_armplanmake_Source_Next : FnS Tryz.prog 18 2 [⟨[0], true, false, [.d (.pair (.list (.int .i64)) (.int .i64))]⟩, ⟨[1], false, false, [.d (.int .i64)]⟩] [⟨[], true, false, [.d (.pair (.list (.int .i64)) (.int .i64))]⟩] [.int .i64] (fun x => bif (fun x => dom_armplanmake_Source_Next x.1.1 x.2.1.1) x then some ((fun x => (fun (r : (Int × (List (Int) × Int))) => ((r.1, ()), ((r.2, ()), ()))) (armplanmake_Source_Next x.1.1 x.2.1.1)) x) else none) :=
  fnS_tree (np := 2) (ss := [⟨[0], true, false, [.d (.pair (.list (.int .i64)) (.int .i64))]⟩, ⟨[1], false, false, [.d (.int .i64)]⟩]) (ss1 := [⟨[], true, false, [.d (.pair (.list (.int .i64)) (.int .i64))]⟩]) (Ts := [.int .i64]) (R := (Int × (List (Int) × Int))) (dom := fun x => dom_armplanmake_Source_Next x.1.1 x.2.1.1) (t := fun (x : Sl [⟨[0], true, false, [.d (.pair (.list (.int .i64)) (.int .i64))]⟩, ⟨[1], false, false, [.d (.int .i64)]⟩]) => t_armplanmake_Source_Next x.1.1 x.2.1.1) (mk := (fun (r : (Int × (List (Int) × Int))) => ((r.1, ()), ((r.2, ()), ())))) (mkC_ok ctys_ok ceqs_ok (fns_cons ok_armplanmake_Round (fns_nil _)) (inl_nil _) noLoops_ok mixed) Tryz.func18 (by kernel_rfl) run_armplanmake_Source_Next (fun _ => .inr rfl)
theorem ok_armplanmake_Source_Next : HdOk Tryz.prog 18 hd_armplanmake_Source_Next.sem ∧ Enters Tryz.prog 18 := ⟨hdS_ok (by kernel_rfl) fn_armplanmake_Source_Next, _, Tryz.func18, by kernel_rfl, by kernel_rfl⟩

/- (*armplan/armplanmake.Source).Signed -/
def t_armplanmake_Source_Signed (a0 : (List (Int) × Int)) (a1 : Int) : Tr (Int × (List (Int) × Int)) :=
  let x1 : Int := IntKind.wrap .i64 (2 * a1)
  let x2 : Int := IntKind.wrap .i64 (x1 + 1)
  let r3 : (Int × (List (Int) × Int)) := armplanmake_Source_Next a0 x2
  .br (dom_armplanmake_Source_Next a0 x2) (
   let x4 : Int := IntKind.wrap .i64 (r3.1 - a1)
   .leaf (x4, r3.2)) .fail
def armplanmake_Source_Signed (a0 : (List (Int) × Int)) (a1 : Int) : (Int × (List (Int) × Int)) := (t_armplanmake_Source_Signed a0 a1).val
def dom_armplanmake_Source_Signed (a0 : (List (Int) × Int)) (a1 : Int) : Bool := (t_armplanmake_Source_Signed a0 a1).dom
theorem run_armplanmake_Source_Signed : ∀ x, runF (mkC ctys ceqs [(18, hd_armplanmake_Source_Next)] [] noLoops) 200 19 Tryz.f19 (mkT id [⟨[0], true, false, [.d (.pair (.list (.int .i64)) (.int .i64))]⟩, ⟨[1], false, false, [.d (.int .i64)]⟩] x 0 (List.replicate 2 .top)) (mkH id [⟨[0], true, false, [.d (.pair (.list (.int .i64)) (.int .i64))]⟩, ⟨[1], false, false, [.d (.int .i64)]⟩] x 0) (endS [.int .i64] [⟨[], true, false, [.d (.pair (.list (.int .i64)) (.int .i64))]⟩]) = (t_armplanmake_Source_Signed x.1.1 x.2.1.1).optA (fun (r : (Int × (List (Int) × Int))) => ((r.1, ()), ((r.2, ()), ()))) := by
  intro x; kernel_rfl
def hd_armplanmake_Source_Signed : Hd := hdS 2 [⟨[0], true, false, [.d (.pair (.list (.int .i64)) (.int .i64))]⟩, ⟨[1], false, false, [.d (.int .i64)]⟩] [⟨[], true, false, [.d (.pair (.list (.int .i64)) (.int .i64))]⟩] [.int .i64] (fun x => dom_armplanmake_Source_Signed x.1.1 x.2.1.1) (fun x => (fun (r : (Int × (List (Int) × Int))) => ((r.1, ()), ((r.2, ()), ()))) (armplanmake_Source_Signed x.1.1 x.2.1.1)) (by kernel_rfl)
theorem fn_armplanmake_Source_Signed : FnS Tryz.prog 19 2 [⟨[0], true, false, [.d (.pair (.list (.int .i64)) (.int .i64))]⟩, ⟨[1], false, false, [.d (.int .i64)]⟩] [⟨[], true, false, [.d (.pair (.list (.int .i64)) (.int .i64))]⟩] [.int .i64] (fun x => bif (fun x => dom_armplanmake_Source_Signed x.1.1 x.2.1.1) x then some ((fun x => (fun (r : (Int × (List (Int) × Int))) => ((r.1, ()), ((r.2, ()), ()))) (armplanmake_Source_Signed x.1.1 x.2.1.1)) x) else none) :=
  fnS_tree (np := 2) (ss := [⟨[0], true, false, [.d (.pair (.list (.int .i64)) (.int .i64))]⟩, ⟨[1], false, false, [.d (.int .i64)]⟩]) (ss1 := [⟨[], true, false, [.d (.pair (.list (.int .i64)) (.int .i64))]⟩]) (Ts := [.int .i64]) (R := (Int × (List (Int) × Int))) (dom := fun x => dom_armplanmake_Source_Signed x.1.1 x.2.1.1) (t := fun (x : Sl [⟨[0], true, false, [.d (.pair (.list (.int .i64)) (.int .i64))]⟩, ⟨[1], false, false, [.d (.int .i64)]⟩]) => t_armplanmake_Source_Signed x.1.1 x.2.1.1) (mk := (fun (r : (Int × (List (Int) × Int))) => ((r.1, ()), ((r.2, ()), ())))) (mkC_ok ctys_ok ceqs_ok (fns_cons ok_armplanmake_Source_Next (fns_nil _)) (inl_nil _) noLoops_ok mixed) Tryz.func19 (by kernel_rfl) run_armplanmake_Source_Signed (fun _ => .inr rfl)
theorem ok_armplanmake_Source_Signed : HdOk Tryz.prog 19 hd_armplanmake_Source_Signed.sem ∧ Enters Tryz.prog 19 := ⟨hdS_ok (by kernel_rfl) fn_armplanmake_Source_Signed, _, Tryz.func19, by kernel_rfl, by kernel_rfl⟩

/- armplan/matrix.Add -/
def t_matrix_Add (a0 : ((Int × Int) × ((Int × Int) × (Int × Int)))) (a1 : ((Int × Int) × ((Int × Int) × (Int × Int)))) : Tr ((Int × Int) × ((Int × Int) × (Int × Int))) :=
  let r1 : (Int × Int) := interval_Add a0.1 a1.1
  let r2 : (Int × Int) := interval_Add a0.2.1 a1.2.1
  let r3 : (Int × Int) := interval_Add a0.2.2 a1.2.2
  .leaf (r1, (r2, r3))
def matrix_Add (a0 : ((Int × Int) × ((Int × Int) × (Int × Int)))) (a1 : ((Int × Int) × ((Int × Int) × (Int × Int)))) : ((Int × Int) × ((Int × Int) × (Int × Int))) := (t_matrix_Add a0 a1).val
theorem run_matrix_Add : ∀ x, runF (mkC ctys ceqs [(131, hd_interval_Add)] [] noLoops) 200 127 Tryz.f127 (argsA [.pair (.pair (.int .i64) (.int .i64)) (.pair (.pair (.int .i64) (.int .i64)) (.pair (.int .i64) (.int .i64))), .pair (.pair (.int .i64) (.int .i64)) (.pair (.pair (.int .i64) (.int .i64)) (.pair (.int .i64) (.int .i64)))] x) [] (fun v h => toRes h [.pair (.pair (.int .i64) (.int .i64)) (.pair (.pair (.int .i64) (.int .i64)) (.pair (.int .i64) (.int .i64)))] v) = (t_matrix_Add x.1 x.2.1).optA (fun r => (r, ())) := by
  intro x; kernel_rfl
theorem fn_matrix_Add : FnOk Tryz.prog 127 [.pair (.pair (.int .i64) (.int .i64)) (.pair (.pair (.int .i64) (.int .i64)) (.pair (.int .i64) (.int .i64))), .pair (.pair (.int .i64) (.int .i64)) (.pair (.pair (.int .i64) (.int .i64)) (.pair (.int .i64) (.int .i64)))] [.pair (.pair (.int .i64) (.int .i64)) (.pair (.pair (.int .i64) (.int .i64)) (.pair (.int .i64) (.int .i64)))] (fun x => some ((fun r => (r, ())) (matrix_Add x.1 x.2.1))) :=
  fn_tot (t := fun (x : Ar [.pair (.pair (.int .i64) (.int .i64)) (.pair (.pair (.int .i64) (.int .i64)) (.pair (.int .i64) (.int .i64))), .pair (.pair (.int .i64) (.int .i64)) (.pair (.pair (.int .i64) (.int .i64)) (.pair (.int .i64) (.int .i64)))]) => t_matrix_Add x.1 x.2.1) (R := ((Int × Int) × ((Int × Int) × (Int × Int)))) (Ts := [.pair (.pair (.int .i64) (.int .i64)) (.pair (.pair (.int .i64) (.int .i64)) (.pair (.int .i64) (.int .i64)))]) (mk := (fun r => (r, ()))) (mkC_ok ctys_ok ceqs_ok (fns_cons ok_interval_Add (fns_nil _)) (inl_nil _) noLoops_ok mixed) Tryz.func127 run_matrix_Add (fun _ => by kernel_rfl)
def hd_matrix_Add : Hd := dataHd [.pair (.pair (.int .i64) (.int .i64)) (.pair (.pair (.int .i64) (.int .i64)) (.pair (.int .i64) (.int .i64))), .pair (.pair (.int .i64) (.int .i64)) (.pair (.pair (.int .i64) (.int .i64)) (.pair (.int .i64) (.int .i64)))] [.pair (.pair (.int .i64) (.int .i64)) (.pair (.pair (.int .i64) (.int .i64)) (.pair (.int .i64) (.int .i64)))] (fun x => some ((fun r => (r, ())) (matrix_Add x.1 x.2.1)))
theorem ok_matrix_Add : HdOk Tryz.prog 127 hd_matrix_Add.sem ∧ Enters Tryz.prog 127 := data_ok fn_matrix_Add Tryz.func127 (by kernel_rfl) (by kernel_rfl)

/- armplan/armplanref1.AddVec -/
def t_armplanref1_AddVec (a0 : ((Int × Int) × ((Int × Int) × (Int × Int)))) (a1 : ((Int × Int) × ((Int × Int) × (Int × Int)))) : Tr ((Int × Int) × ((Int × Int) × (Int × Int))) :=
  let r1 : (Int × Int) := armplanref1_Add a0.1 a1.1
  let r2 : (Int × Int) := armplanref1_Add a0.2.1 a1.2.1
  let r3 : (Int × Int) := armplanref1_Add a0.2.2 a1.2.2
  .leaf (r1, (r2, r3))
def armplanref1_AddVec (a0 : ((Int × Int) × ((Int × Int) × (Int × Int)))) (a1 : ((Int × Int) × ((Int × Int) × (Int × Int)))) : ((Int × Int) × ((Int × Int) × (Int × Int))) := (t_armplanref1_AddVec a0 a1).val
theorem run_armplanref1_AddVec : ∀ x, runF (mkC ctys ceqs [(65, hd_armplanref1_Add)] [] noLoops) 200 64 Tryz.f64 (argsA [.pair (.pair (.int .i64) (.int .i64)) (.pair (.pair (.int .i64) (.int .i64)) (.pair (.int .i64) (.int .i64))), .pair (.pair (.int .i64) (.int .i64)) (.pair (.pair (.int .i64) (.int .i64)) (.pair (.int .i64) (.int .i64)))] x) [] (fun v h => toRes h [.pair (.pair (.int .i64) (.int .i64)) (.pair (.pair (.int .i64) (.int .i64)) (.pair (.int .i64) (.int .i64)))] v) = (t_armplanref1_AddVec x.1 x.2.1).optA (fun r => (r, ())) := by
  intro x; kernel_rfl
theorem fn_armplanref1_AddVec : FnOk Tryz.prog 64 [.pair (.pair (.int .i64) (.int .i64)) (.pair (.pair (.int .i64) (.int .i64)) (.pair (.int .i64) (.int .i64))), .pair (.pair (.int .i64) (.int .i64)) (.pair (.pair (.int .i64) (.int .i64)) (.pair (.int .i64) (.int .i64)))] [.pair (.pair (.int .i64) (.int .i64)) (.pair (.pair (.int .i64) (.int .i64)) (.pair (.int .i64) (.int .i64)))] (fun x => some ((fun r => (r, ())) (armplanref1_AddVec x.1 x.2.1))) :=
  fn_tot (t := fun (x : Ar [.pair (.pair (.int .i64) (.int .i64)) (.pair (.pair (.int .i64) (.int .i64)) (.pair (.int .i64) (.int .i64))), .pair (.pair (.int .i64) (.int .i64)) (.pair (.pair (.int .i64) (.int .i64)) (.pair (.int .i64) (.int .i64)))]) => t_armplanref1_AddVec x.1 x.2.1) (R := ((Int × Int) × ((Int × Int) × (Int × Int)))) (Ts := [.pair (.pair (.int .i64) (.int .i64)) (.pair (.pair (.int .i64) (.int .i64)) (.pair (.int .i64) (.int .i64)))]) (mk := (fun r => (r, ()))) (mkC_ok ctys_ok ceqs_ok (fns_cons ok_armplanref1_Add (fns_nil _)) (inl_nil _) noLoops_ok mixed) Tryz.func64 run_armplanref1_AddVec (fun _ => by kernel_rfl)
def hd_armplanref1_AddVec : Hd := dataHd [.pair (.pair (.int .i64) (.int .i64)) (.pair (.pair (.int .i64) (.int .i64)) (.pair (.int .i64) (.int .i64))), .pair (.pair (.int .i64) (.int .i64)) (.pair (.pair (.int .i64) (.int .i64)) (.pair (.int .i64) (.int .i64)))] [.pair (.pair (.int .i64) (.int .i64)) (.pair (.pair (.int .i64) (.int .i64)) (.pair (.int .i64) (.int .i64)))] (fun x => some ((fun r => (r, ())) (armplanref1_AddVec x.1 x.2.1)))
theorem ok_armplanref1_AddVec : HdOk Tryz.prog 64 hd_armplanref1_AddVec.sem ∧ Enters Tryz.prog 64 := data_ok fn_armplanref1_AddVec Tryz.func64 (by kernel_rfl) (by kernel_rfl)

/- armplan/armplanref1.ApplyMat -/
def t_armplanref1_ApplyMat (a0 : (((Int × Int) × ((Int × Int) × (Int × Int))) × (((Int × Int) × ((Int × Int) × (Int × Int))) × ((Int × Int) × ((Int × Int) × (Int × Int)))))) (a1 : ((Int × Int) × ((Int × Int) × (Int × Int)))) : Tr ((Int × Int) × ((Int × Int) × (Int × Int))) :=
  let r1 : (Int × Int) := armplanref1_Mul a0.1.1 a1.1
  let r2 : (Int × Int) := armplanref1_Mul a0.1.2.1 a1.2.1
  let r3 : (Int × Int) := armplanref1_Add r1 r2
  let r4 : (Int × Int) := armplanref1_Mul a0.1.2.2 a1.2.2
  let r5 : (Int × Int) := armplanref1_Add r3 r4
  let r6 : (Int × Int) := armplanref1_Mul a0.2.1.1 a1.1
  let r7 : (Int × Int) := armplanref1_Mul a0.2.1.2.1 a1.2.1
  let r8 : (Int × Int) := armplanref1_Add r6 r7
  let r9 : (Int × Int) := armplanref1_Mul a0.2.1.2.2 a1.2.2
  let r10 : (Int × Int) := armplanref1_Add r8 r9
  let r11 : (Int × Int) := armplanref1_Mul a0.2.2.1 a1.1
  let r12 : (Int × Int) := armplanref1_Mul a0.2.2.2.1 a1.2.1
  let r13 : (Int × Int) := armplanref1_Add r11 r12
  let r14 : (Int × Int) := armplanref1_Mul a0.2.2.2.2 a1.2.2
  let r15 : (Int × Int) := armplanref1_Add r13 r14
  .leaf (r5, (r10, r15))
def armplanref1_ApplyMat (a0 : (((Int × Int) × ((Int × Int) × (Int × Int))) × (((Int × Int) × ((Int × Int) × (Int × Int))) × ((Int × Int) × ((Int × Int) × (Int × Int)))))) (a1 : ((Int × Int) × ((Int × Int) × (Int × Int)))) : ((Int × Int) × ((Int × Int) × (Int × Int))) := (t_armplanref1_ApplyMat a0 a1).val
theorem run_armplanref1_ApplyMat : ∀ x, runF (mkC ctys ceqs [(65, hd_armplanref1_Add), (66, hd_armplanref1_Mul)] [] noLoops) 200 42 Tryz.f42 (argsA [.pair (.pair (.pair (.int .i64) (.int .i64)) (.pair (.pair (.int .i64) (.int .i64)) (.pair (.int .i64) (.int .i64)))) (.pair (.pair (.pair (.int .i64) (.int .i64)) (.pair (.pair (.int .i64) (.int .i64)) (.pair (.int .i64) (.int .i64)))) (.pair (.pair (.int .i64) (.int .i64)) (.pair (.pair (.int .i64) (.int .i64)) (.pair (.int .i64) (.int .i64))))), .pair (.pair (.int .i64) (.int .i64)) (.pair (.pair (.int .i64) (.int .i64)) (.pair (.int .i64) (.int .i64)))] x) [] (fun v h => toRes h [.pair (.pair (.int .i64) (.int .i64)) (.pair (.pair (.int .i64) (.int .i64)) (.pair (.int .i64) (.int .i64)))] v) = (t_armplanref1_ApplyMat x.1 x.2.1).optA (fun r => (r, ())) := by
  intro x; kernel_rfl
theorem fn_armplanref1_ApplyMat : FnOk Tryz.prog 42 [.pair (.pair (.pair (.int .i64) (.int .i64)) (.pair (.pair (.int .i64) (.int .i64)) (.pair (.int .i64) (.int .i64)))) (.pair (.pair (.pair (.int .i64) (.int .i64)) (.pair (.pair (.int .i64) (.int .i64)) (.pair (.int .i64) (.int .i64)))) (.pair (.pair (.int .i64) (.int .i64)) (.pair (.pair (.int .i64) (.int .i64)) (.pair (.int .i64) (.int .i64))))), .pair (.pair (.int .i64) (.int .i64)) (.pair (.pair (.int .i64) (.int .i64)) (.pair (.int .i64) (.int .i64)))] [.pair (.pair (.int .i64) (.int .i64)) (.pair (.pair (.int .i64) (.int .i64)) (.pair (.int .i64) (.int .i64)))] (fun x => some ((fun r => (r, ())) (armplanref1_ApplyMat x.1 x.2.1))) :=
  fn_tot (t := fun (x : Ar [.pair (.pair (.pair (.int .i64) (.int .i64)) (.pair (.pair (.int .i64) (.int .i64)) (.pair (.int .i64) (.int .i64)))) (.pair (.pair (.pair (.int .i64) (.int .i64)) (.pair (.pair (.int .i64) (.int .i64)) (.pair (.int .i64) (.int .i64)))) (.pair (.pair (.int .i64) (.int .i64)) (.pair (.pair (.int .i64) (.int .i64)) (.pair (.int .i64) (.int .i64))))), .pair (.pair (.int .i64) (.int .i64)) (.pair (.pair (.int .i64) (.int .i64)) (.pair (.int .i64) (.int .i64)))]) => t_armplanref1_ApplyMat x.1 x.2.1) (R := ((Int × Int) × ((Int × Int) × (Int × Int)))) (Ts := [.pair (.pair (.int .i64) (.int .i64)) (.pair (.pair (.int .i64) (.int .i64)) (.pair (.int .i64) (.int .i64)))]) (mk := (fun r => (r, ()))) (mkC_ok ctys_ok ceqs_ok (fns_cons ok_armplanref1_Add (fns_cons ok_armplanref1_Mul (fns_nil _))) (inl_nil _) noLoops_ok mixed) Tryz.func42 run_armplanref1_ApplyMat (fun _ => by kernel_rfl)
def hd_armplanref1_ApplyMat : Hd := dataHd [.pair (.pair (.pair (.int .i64) (.int .i64)) (.pair (.pair (.int .i64) (.int .i64)) (.pair (.int .i64) (.int .i64)))) (.pair (.pair (.pair (.int .i64) (.int .i64)) (.pair (.pair (.int .i64) (.int .i64)) (.pair (.int .i64) (.int .i64)))) (.pair (.pair (.int .i64) (.int .i64)) (.pair (.pair (.int .i64) (.int .i64)) (.pair (.int .i64) (.int .i64))))), .pair (.pair (.int .i64) (.int .i64)) (.pair (.pair (.int .i64) (.int .i64)) (.pair (.int .i64) (.int .i64)))] [.pair (.pair (.int .i64) (.int .i64)) (.pair (.pair (.int .i64) (.int .i64)) (.pair (.int .i64) (.int .i64)))] (fun x => some ((fun r => (r, ())) (armplanref1_ApplyMat x.1 x.2.1)))
theorem ok_armplanref1_ApplyMat : HdOk Tryz.prog 42 hd_armplanref1_ApplyMat.sem ∧ Enters Tryz.prog 42 := data_ok fn_armplanref1_ApplyMat Tryz.func42 (by kernel_rfl) (by kernel_rfl)

/- armplan/matrix.Transpose -/
def t_matrix_Transpose (a0 : (((Int × Int) × ((Int × Int) × (Int × Int))) × (((Int × Int) × ((Int × Int) × (Int × Int))) × ((Int × Int) × ((Int × Int) × (Int × Int)))))) : Tr (((Int × Int) × ((Int × Int) × (Int × Int))) × (((Int × Int) × ((Int × Int) × (Int × Int))) × ((Int × Int) × ((Int × Int) × (Int × Int))))) :=
  .leaf ((a0.1.1, (a0.2.1.1, a0.2.2.1)), ((a0.1.2.1, (a0.2.1.2.1, a0.2.2.2.1)), (a0.1.2.2, (a0.2.1.2.2, a0.2.2.2.2))))
def matrix_Transpose (a0 : (((Int × Int) × ((Int × Int) × (Int × Int))) × (((Int × Int) × ((Int × Int) × (Int × Int))) × ((Int × Int) × ((Int × Int) × (Int × Int)))))) : (((Int × Int) × ((Int × Int) × (Int × Int))) × (((Int × Int) × ((Int × Int) × (Int × Int))) × ((Int × Int) × ((Int × Int) × (Int × Int))))) := (t_matrix_Transpose a0).val
theorem run_matrix_Transpose : ∀ x, runF (mkC ctys ceqs [] [] noLoops) 200 128 Tryz.f128 (argsA [.pair (.pair (.pair (.int .i64) (.int .i64)) (.pair (.pair (.int .i64) (.int .i64)) (.pair (.int .i64) (.int .i64)))) (.pair (.pair (.pair (.int .i64) (.int .i64)) (.pair (.pair (.int .i64) (.int .i64)) (.pair (.int .i64) (.int .i64)))) (.pair (.pair (.int .i64) (.int .i64)) (.pair (.pair (.int .i64) (.int .i64)) (.pair (.int .i64) (.int .i64)))))] x) [] (fun v h => toRes h [.pair (.pair (.pair (.int .i64) (.int .i64)) (.pair (.pair (.int .i64) (.int .i64)) (.pair (.int .i64) (.int .i64)))) (.pair (.pair (.pair (.int .i64) (.int .i64)) (.pair (.pair (.int .i64) (.int .i64)) (.pair (.int .i64) (.int .i64)))) (.pair (.pair (.int .i64) (.int .i64)) (.pair (.pair (.int .i64) (.int .i64)) (.pair (.int .i64) (.int .i64)))))] v) = (t_matrix_Transpose x.1).optA (fun r => (r, ())) := by
  intro x; kernel_rfl
theorem fn_matrix_Transpose : FnOk Tryz.prog 128 [.pair (.pair (.pair (.int .i64) (.int .i64)) (.pair (.pair (.int .i64) (.int .i64)) (.pair (.int .i64) (.int .i64)))) (.pair (.pair (.pair (.int .i64) (.int .i64)) (.pair (.pair (.int .i64) (.int .i64)) (.pair (.int .i64) (.int .i64)))) (.pair (.pair (.int .i64) (.int .i64)) (.pair (.pair (.int .i64) (.int .i64)) (.pair (.int .i64) (.int .i64)))))] [.pair (.pair (.pair (.int .i64) (.int .i64)) (.pair (.pair (.int .i64) (.int .i64)) (.pair (.int .i64) (.int .i64)))) (.pair (.pair (.pair (.int .i64) (.int .i64)) (.pair (.pair (.int .i64) (.int .i64)) (.pair (.int .i64) (.int .i64)))) (.pair (.pair (.int .i64) (.int .i64)) (.pair (.pair (.int .i64) (.int .i64)) (.pair (.int .i64) (.int .i64)))))] (fun x => some ((fun r => (r, ())) (matrix_Transpose x.1))) :=
  fn_tot (t := fun (x : Ar [.pair (.pair (.pair (.int .i64) (.int .i64)) (.pair (.pair (.int .i64) (.int .i64)) (.pair (.int .i64) (.int .i64)))) (.pair (.pair (.pair (.int .i64) (.int .i64)) (.pair (.pair (.int .i64) (.int .i64)) (.pair (.int .i64) (.int .i64)))) (.pair (.pair (.int .i64) (.int .i64)) (.pair (.pair (.int .i64) (.int .i64)) (.pair (.int .i64) (.int .i64)))))]) => t_matrix_Transpose x.1) (R := (((Int × Int) × ((Int × Int) × (Int × Int))) × (((Int × Int) × ((Int × Int) × (Int × Int))) × ((Int × Int) × ((Int × Int) × (Int × Int)))))) (Ts := [.pair (.pair (.pair (.int .i64) (.int .i64)) (.pair (.pair (.int .i64) (.int .i64)) (.pair (.int .i64) (.int .i64)))) (.pair (.pair (.pair (.int .i64) (.int .i64)) (.pair (.pair (.int .i64) (.int .i64)) (.pair (.int .i64) (.int .i64)))) (.pair (.pair (.int .i64) (.int .i64)) (.pair (.pair (.int .i64) (.int .i64)) (.pair (.int .i64) (.int .i64)))))]) (mk := (fun r => (r, ()))) (mkC_ok ctys_ok ceqs_ok (fns_nil _) (inl_nil _) noLoops_ok mixed) Tryz.func128 run_matrix_Transpose (fun _ => by kernel_rfl)
def hd_matrix_Transpose : Hd := dataHd [.pair (.pair (.pair (.int .i64) (.int .i64)) (.pair (.pair (.int .i64) (.int .i64)) (.pair (.int .i64) (.int .i64)))) (.pair (.pair (.pair (.int .i64) (.int .i64)) (.pair (.pair (.int .i64) (.int .i64)) (.pair (.int .i64) (.int .i64)))) (.pair (.pair (.int .i64) (.int .i64)) (.pair (.pair (.int .i64) (.int .i64)) (.pair (.int .i64) (.int .i64)))))] [.pair (.pair (.pair (.int .i64) (.int .i64)) (.pair (.pair (.int .i64) (.int .i64)) (.pair (.int .i64) (.int .i64)))) (.pair (.pair (.pair (.int .i64) (.int .i64)) (.pair (.pair (.int .i64) (.int .i64)) (.pair (.int .i64) (.int .i64)))) (.pair (.pair (.int .i64) (.int .i64)) (.pair (.pair (.int .i64) (.int .i64)) (.pair (.int .i64) (.int .i64)))))] (fun x => some ((fun r => (r, ())) (matrix_Transpose x.1)))
theorem ok_matrix_Transpose : HdOk Tryz.prog 128 hd_matrix_Transpose.sem ∧ Enters Tryz.prog 128 := data_ok fn_matrix_Transpose Tryz.func128 (by kernel_rfl) (by kernel_rfl)

/- armplan/matrix.limit -/
def t_matrix_limit (a0 : (Int × Int)) : Tr (Int × Int) :=
  let x1 : Int := if (-65536) > a0.1 then (-65536) else a0.1
  let x2 : Int := if 65536 < x1 then 65536 else x1
  let x3 : Int := if (-65536) > a0.2 then (-65536) else a0.2
  let x4 : Int := if 65536 < x3 then 65536 else x3
  .leaf (x2, x4)
def matrix_limit (a0 : (Int × Int)) : (Int × Int) := (t_matrix_limit a0).val
theorem run_matrix_limit : ∀ x, runF (mkC ctys ceqs [] [] noLoops) 200 129 Tryz.f129 (argsA [.pair (.int .i64) (.int .i64)] x) [] (fun v h => toRes h [.pair (.int .i64) (.int .i64)] v) = (t_matrix_limit x.1).optA (fun r => (r, ())) := by
  intro x; kernel_rfl
theorem fn_matrix_limit : FnOk Tryz.prog 129 [.pair (.int .i64) (.int .i64)] [.pair (.int .i64) (.int .i64)] (fun x => some ((fun r => (r, ())) (matrix_limit x.1))) :=
  fn_tot (t := fun (x : Ar [.pair (.int .i64) (.int .i64)]) => t_matrix_limit x.1) (R := (Int × Int)) (Ts := [.pair (.int .i64) (.int .i64)]) (mk := (fun r => (r, ()))) (mkC_ok ctys_ok ceqs_ok (fns_nil _) (inl_nil _) noLoops_ok mixed) Tryz.func129 run_matrix_limit (fun _ => by kernel_rfl)
def hd_matrix_limit : Hd := dataHd [.pair (.int .i64) (.int .i64)] [.pair (.int .i64) (.int .i64)] (fun x => some ((fun r => (r, ())) (matrix_limit x.1)))
theorem ok_matrix_limit : HdOk Tryz.prog 129 hd_matrix_limit.sem ∧ Enters Tryz.prog 129 := data_ok fn_matrix_limit Tryz.func129 (by kernel_rfl) (by kernel_rfl)

/- armplan/matrix.Compose -/
def t_matrix_Compose (a0 : (((Int × Int) × ((Int × Int) × (Int × Int))) × (((Int × Int) × ((Int × Int) × (Int × Int))) × ((Int × Int) × ((Int × Int) × (Int × Int)))))) (a1 : (((Int × Int) × ((Int × Int) × (Int × Int))) × (((Int × Int) × ((Int × Int) × (Int × Int))) × ((Int × Int) × ((Int × Int) × (Int × Int)))))) : Tr (((Int × Int) × ((Int × Int) × (Int × Int))) × (((Int × Int) × ((Int × Int) × (Int × Int))) × ((Int × Int) × ((Int × Int) × (Int × Int))))) :=
  let r1 : (((Int × Int) × ((Int × Int) × (Int × Int))) × (((Int × Int) × ((Int × Int) × (Int × Int))) × ((Int × Int) × ((Int × Int) × (Int × Int))))) := matrix_Transpose a1
  let r2 : (Int × Int) := matrix_sum a0.1 r1.1
  let r3 : (Int × Int) := matrix_limit r2
  let r4 : (Int × Int) := matrix_sum a0.1 r1.2.1
  let r5 : (Int × Int) := matrix_limit r4
  let r6 : (Int × Int) := matrix_sum a0.1 r1.2.2
  let r7 : (Int × Int) := matrix_limit r6
  let r8 : (Int × Int) := matrix_sum a0.2.1 r1.1
  let r9 : (Int × Int) := matrix_limit r8
  let r10 : (Int × Int) := matrix_sum a0.2.1 r1.2.1
  let r11 : (Int × Int) := matrix_limit r10
  let r12 : (Int × Int) := matrix_sum a0.2.1 r1.2.2
  let r13 : (Int × Int) := matrix_limit r12
  let r14 : (Int × Int) := matrix_sum a0.2.2 r1.1
  let r15 : (Int × Int) := matrix_limit r14
  let r16 : (Int × Int) := matrix_sum a0.2.2 r1.2.1
  let r17 : (Int × Int) := matrix_limit r16
  let r18 : (Int × Int) := matrix_sum a0.2.2 r1.2.2
  let r19 : (Int × Int) := matrix_limit r18
  .leaf ((r3, (r5, r7)), ((r9, (r11, r13)), (r15, (r17, r19))))
def matrix_Compose (a0 : (((Int × Int) × ((Int × Int) × (Int × Int))) × (((Int × Int) × ((Int × Int) × (Int × Int))) × ((Int × Int) × ((Int × Int) × (Int × Int)))))) (a1 : (((Int × Int) × ((Int × Int) × (Int × Int))) × (((Int × Int) × ((Int × Int) × (Int × Int))) × ((Int × Int) × ((Int × Int) × (Int × Int)))))) : (((Int × Int) × ((Int × Int) × (Int × Int))) × (((Int × Int) × ((Int × Int) × (Int × Int))) × ((Int × Int) × ((Int × Int) × (Int × Int))))) := (t_matrix_Compose a0 a1).val
theorem run_matrix_Compose : ∀ x, runF (mkC ctys ceqs [(115, hd_matrix_sum), (128, hd_matrix_Transpose), (129, hd_matrix_limit)] [] noLoops) 200 114 Tryz.f114 (argsA [.pair (.pair (.pair (.int .i64) (.int .i64)) (.pair (.pair (.int .i64) (.int .i64)) (.pair (.int .i64) (.int .i64)))) (.pair (.pair (.pair (.int .i64) (.int .i64)) (.pair (.pair (.int .i64) (.int .i64)) (.pair (.int .i64) (.int .i64)))) (.pair (.pair (.int .i64) (.int .i64)) (.pair (.pair (.int .i64) (.int .i64)) (.pair (.int .i64) (.int .i64))))), .pair (.pair (.pair (.int .i64) (.int .i64)) (.pair (.pair (.int .i64) (.int .i64)) (.pair (.int .i64) (.int .i64)))) (.pair (.pair (.pair (.int .i64) (.int .i64)) (.pair (.pair (.int .i64) (.int .i64)) (.pair (.int .i64) (.int .i64)))) (.pair (.pair (.int .i64) (.int .i64)) (.pair (.pair (.int .i64) (.int .i64)) (.pair (.int .i64) (.int .i64)))))] x) [] (fun v h => toRes h [.pair (.pair (.pair (.int .i64) (.int .i64)) (.pair (.pair (.int .i64) (.int .i64)) (.pair (.int .i64) (.int .i64)))) (.pair (.pair (.pair (.int .i64) (.int .i64)) (.pair (.pair (.int .i64) (.int .i64)) (.pair (.int .i64) (.int .i64)))) (.pair (.pair (.int .i64) (.int .i64)) (.pair (.pair (.int .i64) (.int .i64)) (.pair (.int .i64) (.int .i64)))))] v) = (t_matrix_Compose x.1 x.2.1).optA (fun r => (r, ())) := by
  intro x; kernel_rfl
theorem fn_matrix_Compose : FnOk Tryz.prog 114 [.pair (.pair (.pair (.int .i64) (.int .i64)) (.pair (.pair (.int .i64) (.int .i64)) (.pair (.int .i64) (.int .i64)))) (.pair (.pair (.pair (.int .i64) (.int .i64)) (.pair (.pair (.int .i64) (.int .i64)) (.pair (.int .i64) (.int .i64)))) (.pair (.pair (.int .i64) (.int .i64)) (.pair (.pair (.int .i64) (.int .i64)) (.pair (.int .i64) (.int .i64))))), .pair (.pair (.pair (.int .i64) (.int .i64)) (.pair (.pair (.int .i64) (.int .i64)) (.pair (.int .i64) (.int .i64)))) (.pair (.pair (.pair (.int .i64) (.int .i64)) (.pair (.pair (.int .i64) (.int .i64)) (.pair (.int .i64) (.int .i64)))) (.pair (.pair (.int .i64) (.int .i64)) (.pair (.pair (.int .i64) (.int .i64)) (.pair (.int .i64) (.int .i64)))))] [.pair (.pair (.pair (.int .i64) (.int .i64)) (.pair (.pair (.int .i64) (.int .i64)) (.pair (.int .i64) (.int .i64)))) (.pair (.pair (.pair (.int .i64) (.int .i64)) (.pair (.pair (.int .i64) (.int .i64)) (.pair (.int .i64) (.int .i64)))) (.pair (.pair (.int .i64) (.int .i64)) (.pair (.pair (.int .i64) (.int .i64)) (.pair (.int .i64) (.int .i64)))))] (fun x => some ((fun r => (r, ())) (matrix_Compose x.1 x.2.1))) :=
  fn_tot (t := fun (x : Ar [.pair (.pair (.pair (.int .i64) (.int .i64)) (.pair (.pair (.int .i64) (.int .i64)) (.pair (.int .i64) (.int .i64)))) (.pair (.pair (.pair (.int .i64) (.int .i64)) (.pair (.pair (.int .i64) (.int .i64)) (.pair (.int .i64) (.int .i64)))) (.pair (.pair (.int .i64) (.int .i64)) (.pair (.pair (.int .i64) (.int .i64)) (.pair (.int .i64) (.int .i64))))), .pair (.pair (.pair (.int .i64) (.int .i64)) (.pair (.pair (.int .i64) (.int .i64)) (.pair (.int .i64) (.int .i64)))) (.pair (.pair (.pair (.int .i64) (.int .i64)) (.pair (.pair (.int .i64) (.int .i64)) (.pair (.int .i64) (.int .i64)))) (.pair (.pair (.int .i64) (.int .i64)) (.pair (.pair (.int .i64) (.int .i64)) (.pair (.int .i64) (.int .i64)))))]) => t_matrix_Compose x.1 x.2.1) (R := (((Int × Int) × ((Int × Int) × (Int × Int))) × (((Int × Int) × ((Int × Int) × (Int × Int))) × ((Int × Int) × ((Int × Int) × (Int × Int)))))) (Ts := [.pair (.pair (.pair (.int .i64) (.int .i64)) (.pair (.pair (.int .i64) (.int .i64)) (.pair (.int .i64) (.int .i64)))) (.pair (.pair (.pair (.int .i64) (.int .i64)) (.pair (.pair (.int .i64) (.int .i64)) (.pair (.int .i64) (.int .i64)))) (.pair (.pair (.int .i64) (.int .i64)) (.pair (.pair (.int .i64) (.int .i64)) (.pair (.int .i64) (.int .i64)))))]) (mk := (fun r => (r, ()))) (mkC_ok ctys_ok ceqs_ok (fns_cons ok_matrix_sum (fns_cons ok_matrix_Transpose (fns_cons ok_matrix_limit (fns_nil _)))) (inl_nil _) noLoops_ok mixed) Tryz.func114 run_matrix_Compose (fun _ => by kernel_rfl)
def hd_matrix_Compose : Hd := dataHd [.pair (.pair (.pair (.int .i64) (.int .i64)) (.pair (.pair (.int .i64) (.int .i64)) (.pair (.int .i64) (.int .i64)))) (.pair (.pair (.pair (.int .i64) (.int .i64)) (.pair (.pair (.int .i64) (.int .i64)) (.pair (.int .i64) (.int .i64)))) (.pair (.pair (.int .i64) (.int .i64)) (.pair (.pair (.int .i64) (.int .i64)) (.pair (.int .i64) (.int .i64))))), .pair (.pair (.pair (.int .i64) (.int .i64)) (.pair (.pair (.int .i64) (.int .i64)) (.pair (.int .i64) (.int .i64)))) (.pair (.pair (.pair (.int .i64) (.int .i64)) (.pair (.pair (.int .i64) (.int .i64)) (.pair (.int .i64) (.int .i64)))) (.pair (.pair (.int .i64) (.int .i64)) (.pair (.pair (.int .i64) (.int .i64)) (.pair (.int .i64) (.int .i64)))))] [.pair (.pair (.pair (.int .i64) (.int .i64)) (.pair (.pair (.int .i64) (.int .i64)) (.pair (.int .i64) (.int .i64)))) (.pair (.pair (.pair (.int .i64) (.int .i64)) (.pair (.pair (.int .i64) (.int .i64)) (.pair (.int .i64) (.int .i64)))) (.pair (.pair (.int .i64) (.int .i64)) (.pair (.pair (.int .i64) (.int .i64)) (.pair (.int .i64) (.int .i64)))))] (fun x => some ((fun r => (r, ())) (matrix_Compose x.1 x.2.1)))
theorem ok_matrix_Compose : HdOk Tryz.prog 114 hd_matrix_Compose.sem ∧ Enters Tryz.prog 114 := data_ok fn_matrix_Compose Tryz.func114 (by kernel_rfl) (by kernel_rfl)

/- armplan/armplanref1.Unit -/
def t_armplanref1_Unit : Tr (((Int × Int) × ((Int × Int) × (Int × Int))) × (((Int × Int) × ((Int × Int) × (Int × Int))) × ((Int × Int) × ((Int × Int) × (Int × Int))))) :=
  let r1 : (Int × Int) := armplanref1_Of 65536
  .leaf ((r1, ((0, 0), (0, 0))), (((0, 0), (r1, (0, 0))), ((0, 0), ((0, 0), r1))))
def armplanref1_Unit : (((Int × Int) × ((Int × Int) × (Int × Int))) × (((Int × Int) × ((Int × Int) × (Int × Int))) × ((Int × Int) × ((Int × Int) × (Int × Int))))) := t_armplanref1_Unit.val
theorem run_armplanref1_Unit : ∀ x, runF (mkC ctys ceqs [(63, hd_armplanref1_Of)] [] noLoops) 200 108 Tryz.f108 (argsA [] x) [] (fun v h => toRes h [.pair (.pair (.pair (.int .i64) (.int .i64)) (.pair (.pair (.int .i64) (.int .i64)) (.pair (.int .i64) (.int .i64)))) (.pair (.pair (.pair (.int .i64) (.int .i64)) (.pair (.pair (.int .i64) (.int .i64)) (.pair (.int .i64) (.int .i64)))) (.pair (.pair (.int .i64) (.int .i64)) (.pair (.pair (.int .i64) (.int .i64)) (.pair (.int .i64) (.int .i64)))))] v) = (t_armplanref1_Unit ).optA (fun r => (r, ())) := by
  intro x; kernel_rfl
theorem fn_armplanref1_Unit : FnOk Tryz.prog 108 [] [.pair (.pair (.pair (.int .i64) (.int .i64)) (.pair (.pair (.int .i64) (.int .i64)) (.pair (.int .i64) (.int .i64)))) (.pair (.pair (.pair (.int .i64) (.int .i64)) (.pair (.pair (.int .i64) (.int .i64)) (.pair (.int .i64) (.int .i64)))) (.pair (.pair (.int .i64) (.int .i64)) (.pair (.pair (.int .i64) (.int .i64)) (.pair (.int .i64) (.int .i64)))))] (fun _ => some ((fun r => (r, ())) armplanref1_Unit)) :=
  fn_tot (t := fun (_ : Ar []) => t_armplanref1_Unit ) (R := (((Int × Int) × ((Int × Int) × (Int × Int))) × (((Int × Int) × ((Int × Int) × (Int × Int))) × ((Int × Int) × ((Int × Int) × (Int × Int)))))) (Ts := [.pair (.pair (.pair (.int .i64) (.int .i64)) (.pair (.pair (.int .i64) (.int .i64)) (.pair (.int .i64) (.int .i64)))) (.pair (.pair (.pair (.int .i64) (.int .i64)) (.pair (.pair (.int .i64) (.int .i64)) (.pair (.int .i64) (.int .i64)))) (.pair (.pair (.int .i64) (.int .i64)) (.pair (.pair (.int .i64) (.int .i64)) (.pair (.int .i64) (.int .i64)))))]) (mk := (fun r => (r, ()))) (mkC_ok ctys_ok ceqs_ok (fns_cons ok_armplanref1_Of (fns_nil _)) (inl_nil _) noLoops_ok mixed) Tryz.func108 run_armplanref1_Unit (fun _ => by kernel_rfl)
def hd_armplanref1_Unit : Hd := dataHd [] [.pair (.pair (.pair (.int .i64) (.int .i64)) (.pair (.pair (.int .i64) (.int .i64)) (.pair (.int .i64) (.int .i64)))) (.pair (.pair (.pair (.int .i64) (.int .i64)) (.pair (.pair (.int .i64) (.int .i64)) (.pair (.int .i64) (.int .i64)))) (.pair (.pair (.int .i64) (.int .i64)) (.pair (.pair (.int .i64) (.int .i64)) (.pair (.int .i64) (.int .i64)))))] (fun _ => some ((fun r => (r, ())) armplanref1_Unit))
theorem ok_armplanref1_Unit : HdOk Tryz.prog 108 hd_armplanref1_Unit.sem ∧ Enters Tryz.prog 108 := data_ok fn_armplanref1_Unit Tryz.func108 (by kernel_rfl) (by kernel_rfl)

/- armplan/matrix.Identity -/
def t_matrix_Identity : Tr (((Int × Int) × ((Int × Int) × (Int × Int))) × (((Int × Int) × ((Int × Int) × (Int × Int))) × ((Int × Int) × ((Int × Int) × (Int × Int))))) :=
  let r1 : (Int × Int) := matrix_one
  let r2 : (Int × Int) := matrix_one
  let r3 : (Int × Int) := matrix_one
  .leaf ((r1, ((0, 0), (0, 0))), (((0, 0), (r2, (0, 0))), ((0, 0), ((0, 0), r3))))
def matrix_Identity : (((Int × Int) × ((Int × Int) × (Int × Int))) × (((Int × Int) × ((Int × Int) × (Int × Int))) × ((Int × Int) × ((Int × Int) × (Int × Int))))) := t_matrix_Identity.val
theorem run_matrix_Identity : ∀ x, runF (mkC ctys ceqs [(139, hd_matrix_one)] [] noLoops) 200 125 Tryz.f125 (argsA [] x) [] (fun v h => toRes h [.pair (.pair (.pair (.int .i64) (.int .i64)) (.pair (.pair (.int .i64) (.int .i64)) (.pair (.int .i64) (.int .i64)))) (.pair (.pair (.pair (.int .i64) (.int .i64)) (.pair (.pair (.int .i64) (.int .i64)) (.pair (.int .i64) (.int .i64)))) (.pair (.pair (.int .i64) (.int .i64)) (.pair (.pair (.int .i64) (.int .i64)) (.pair (.int .i64) (.int .i64)))))] v) = (t_matrix_Identity ).optA (fun r => (r, ())) := by
  intro x; kernel_rfl
theorem fn_matrix_Identity : FnOk Tryz.prog 125 [] [.pair (.pair (.pair (.int .i64) (.int .i64)) (.pair (.pair (.int .i64) (.int .i64)) (.pair (.int .i64) (.int .i64)))) (.pair (.pair (.pair (.int .i64) (.int .i64)) (.pair (.pair (.int .i64) (.int .i64)) (.pair (.int .i64) (.int .i64)))) (.pair (.pair (.int .i64) (.int .i64)) (.pair (.pair (.int .i64) (.int .i64)) (.pair (.int .i64) (.int .i64)))))] (fun _ => some ((fun r => (r, ())) matrix_Identity)) :=
  fn_tot (t := fun (_ : Ar []) => t_matrix_Identity ) (R := (((Int × Int) × ((Int × Int) × (Int × Int))) × (((Int × Int) × ((Int × Int) × (Int × Int))) × ((Int × Int) × ((Int × Int) × (Int × Int)))))) (Ts := [.pair (.pair (.pair (.int .i64) (.int .i64)) (.pair (.pair (.int .i64) (.int .i64)) (.pair (.int .i64) (.int .i64)))) (.pair (.pair (.pair (.int .i64) (.int .i64)) (.pair (.pair (.int .i64) (.int .i64)) (.pair (.int .i64) (.int .i64)))) (.pair (.pair (.int .i64) (.int .i64)) (.pair (.pair (.int .i64) (.int .i64)) (.pair (.int .i64) (.int .i64)))))]) (mk := (fun r => (r, ()))) (mkC_ok ctys_ok ceqs_ok (fns_cons ok_matrix_one (fns_nil _)) (inl_nil _) noLoops_ok mixed) Tryz.func125 run_matrix_Identity (fun _ => by kernel_rfl)
def hd_matrix_Identity : Hd := dataHd [] [.pair (.pair (.pair (.int .i64) (.int .i64)) (.pair (.pair (.int .i64) (.int .i64)) (.pair (.int .i64) (.int .i64)))) (.pair (.pair (.pair (.int .i64) (.int .i64)) (.pair (.pair (.int .i64) (.int .i64)) (.pair (.int .i64) (.int .i64)))) (.pair (.pair (.int .i64) (.int .i64)) (.pair (.pair (.int .i64) (.int .i64)) (.pair (.int .i64) (.int .i64)))))] (fun _ => some ((fun r => (r, ())) matrix_Identity))
theorem ok_matrix_Identity : HdOk Tryz.prog 125 hd_matrix_Identity.sem ∧ Enters Tryz.prog 125 := data_ok fn_matrix_Identity Tryz.func125 (by kernel_rfl) (by kernel_rfl)

/- armplan/armplanref1.ComposeMat -/
def t_armplanref1_ComposeMat (a0 : (((Int × Int) × ((Int × Int) × (Int × Int))) × (((Int × Int) × ((Int × Int) × (Int × Int))) × ((Int × Int) × ((Int × Int) × (Int × Int)))))) (a1 : (((Int × Int) × ((Int × Int) × (Int × Int))) × (((Int × Int) × ((Int × Int) × (Int × Int))) × ((Int × Int) × ((Int × Int) × (Int × Int)))))) : Tr (((Int × Int) × ((Int × Int) × (Int × Int))) × (((Int × Int) × ((Int × Int) × (Int × Int))) × ((Int × Int) × ((Int × Int) × (Int × Int))))) :=
  let r1 : (Int × Int) := armplanref1_Mul a0.1.1 a1.1.1
  let r2 : (Int × Int) := armplanref1_Mul a0.1.2.1 a1.2.1.1
  let r3 : (Int × Int) := armplanref1_Add r1 r2
  let r4 : (Int × Int) := armplanref1_Mul a0.1.2.2 a1.2.2.1
  let r5 : (Int × Int) := armplanref1_Add r3 r4
  let x6 : Int := if 65536 < r5.1 then 65536 else r5.1
  let x7 : Int := if x6 > (-65536) then x6 else (-65536)
  let x8 : Int := if 65536 < r5.2 then 65536 else r5.2
  let x9 : Int := if x8 > (-65536) then x8 else (-65536)
  let r10 : (Int × Int) := armplanref1_Mul a0.1.1 a1.1.2.1
  let r11 : (Int × Int) := armplanref1_Mul a0.1.2.1 a1.2.1.2.1
  let r12 : (Int × Int) := armplanref1_Add r10 r11
  let r13 : (Int × Int) := armplanref1_Mul a0.1.2.2 a1.2.2.2.1
  let r14 : (Int × Int) := armplanref1_Add r12 r13
  let x15 : Int := if 65536 < r14.1 then 65536 else r14.1
  let x16 : Int := if x15 > (-65536) then x15 else (-65536)
  let x17 : Int := if 65536 < r14.2 then 65536 else r14.2
  let x18 : Int := if x17 > (-65536) then x17 else (-65536)
  let r19 : (Int × Int) := armplanref1_Mul a0.1.1 a1.1.2.2
  let r20 : (Int × Int) := armplanref1_Mul a0.1.2.1 a1.2.1.2.2
  let r21 : (Int × Int) := armplanref1_Add r19 r20
  let r22 : (Int × Int) := armplanref1_Mul a0.1.2.2 a1.2.2.2.2
  let r23 : (Int × Int) := armplanref1_Add r21 r22
  let x24 : Int := if 65536 < r23.1 then 65536 else r23.1
  let x25 : Int := if x24 > (-65536) then x24 else (-65536)
  let x26 : Int := if 65536 < r23.2 then 65536 else r23.2
  let x27 : Int := if x26 > (-65536) then x26 else (-65536)
  let r28 : (Int × Int) := armplanref1_Mul a0.2.1.1 a1.1.1
  let r29 : (Int × Int) := armplanref1_Mul a0.2.1.2.1 a1.2.1.1
  let r30 : (Int × Int) := armplanref1_Add r28 r29
  let r31 : (Int × Int) := armplanref1_Mul a0.2.1.2.2 a1.2.2.1
  let r32 : (Int × Int) := armplanref1_Add r30 r31
  let x33 : Int := if 65536 < r32.1 then 65536 else r32.1
  let x34 : Int := if x33 > (-65536) then x33 else (-65536)
  let x35 : Int := if 65536 < r32.2 then 65536 else r32.2
  let x36 : Int := if x35 > (-65536) then x35 else (-65536)
  let r37 : (Int × Int) := armplanref1_Mul a0.2.1.1 a1.1.2.1
  let r38 : (Int × Int) := armplanref1_Mul a0.2.1.2.1 a1.2.1.2.1
  let r39 : (Int × Int) := armplanref1_Add r37 r38
  let r40 : (Int × Int) := armplanref1_Mul a0.2.1.2.2 a1.2.2.2.1
  let r41 : (Int × Int) := armplanref1_Add r39 r40
  let x42 : Int := if 65536 < r41.1 then 65536 else r41.1
  let x43 : Int := if x42 > (-65536) then x42 else (-65536)
  let x44 : Int := if 65536 < r41.2 then 65536 else r41.2
  let x45 : Int := if x44 > (-65536) then x44 else (-65536)
  let r46 : (Int × Int) := armplanref1_Mul a0.2.1.1 a1.1.2.2
  let r47 : (Int × Int) := armplanref1_Mul a0.2.1.2.1 a1.2.1.2.2
  let r48 : (Int × Int) := armplanref1_Add r46 r47
  let r49 : (Int × Int) := armplanref1_Mul a0.2.1.2.2 a1.2.2.2.2
  let r50 : (Int × Int) := armplanref1_Add r48 r49
  let x51 : Int := if 65536 < r50.1 then 65536 else r50.1
  let x52 : Int := if x51 > (-65536) then x51 else (-65536)
  let x53 : Int := if 65536 < r50.2 then 65536 else r50.2
  let x54 : Int := if x53 > (-65536) then x53 else (-65536)
  let r55 : (Int × Int) := armplanref1_Mul a0.2.2.1 a1.1.1
  let r56 : (Int × Int) := armplanref1_Mul a0.2.2.2.1 a1.2.1.1
  let r57 : (Int × Int) := armplanref1_Add r55 r56
  let r58 : (Int × Int) := armplanref1_Mul a0.2.2.2.2 a1.2.2.1
  let r59 : (Int × Int) := armplanref1_Add r57 r58
  let x60 : Int := if 65536 < r59.1 then 65536 else r59.1
  let x61 : Int := if x60 > (-65536) then x60 else (-65536)
  let x62 : Int := if 65536 < r59.2 then 65536 else r59.2
  let x63 : Int := if x62 > (-65536) then x62 else (-65536)
  let r64 : (Int × Int) := armplanref1_Mul a0.2.2.1 a1.1.2.1
  let r65 : (Int × Int) := armplanref1_Mul a0.2.2.2.1 a1.2.1.2.1
  let r66 : (Int × Int) := armplanref1_Add r64 r65
  let r67 : (Int × Int) := armplanref1_Mul a0.2.2.2.2 a1.2.2.2.1
  let r68 : (Int × Int) := armplanref1_Add r66 r67
  let x69 : Int := if 65536 < r68.1 then 65536 else r68.1
  let x70 : Int := if x69 > (-65536) then x69 else (-65536)
  let x71 : Int := if 65536 < r68.2 then 65536 else r68.2
  let x72 : Int := if x71 > (-65536) then x71 else (-65536)
  let r73 : (Int × Int) := armplanref1_Mul a0.2.2.1 a1.1.2.2
  let r74 : (Int × Int) := armplanref1_Mul a0.2.2.2.1 a1.2.1.2.2
  let r75 : (Int × Int) := armplanref1_Add r73 r74
  let r76 : (Int × Int) := armplanref1_Mul a0.2.2.2.2 a1.2.2.2.2
  let r77 : (Int × Int) := armplanref1_Add r75 r76
  let x78 : Int := if 65536 < r77.1 then 65536 else r77.1
  let x79 : Int := if x78 > (-65536) then x78 else (-65536)
  let x80 : Int := if 65536 < r77.2 then 65536 else r77.2
  let x81 : Int := if x80 > (-65536) then x80 else (-65536)
  .leaf (((x7, x9), ((x16, x18), (x25, x27))), (((x34, x36), ((x43, x45), (x52, x54))), ((x61, x63), ((x70, x72), (x79, x81)))))
def armplanref1_ComposeMat (a0 : (((Int × Int) × ((Int × Int) × (Int × Int))) × (((Int × Int) × ((Int × Int) × (Int × Int))) × ((Int × Int) × ((Int × Int) × (Int × Int)))))) (a1 : (((Int × Int) × ((Int × Int) × (Int × Int))) × (((Int × Int) × ((Int × Int) × (Int × Int))) × ((Int × Int) × ((Int × Int) × (Int × Int)))))) : (((Int × Int) × ((Int × Int) × (Int × Int))) × (((Int × Int) × ((Int × Int) × (Int × Int))) × ((Int × Int) × ((Int × Int) × (Int × Int))))) := (t_armplanref1_ComposeMat a0 a1).val
theorem run_armplanref1_ComposeMat : ∀ x, runF (mkC ctys ceqs [(65, hd_armplanref1_Add), (66, hd_armplanref1_Mul)] [] noLoops) 200 91 Tryz.f91 (argsA [.pair (.pair (.pair (.int .i64) (.int .i64)) (.pair (.pair (.int .i64) (.int .i64)) (.pair (.int .i64) (.int .i64)))) (.pair (.pair (.pair (.int .i64) (.int .i64)) (.pair (.pair (.int .i64) (.int .i64)) (.pair (.int .i64) (.int .i64)))) (.pair (.pair (.int .i64) (.int .i64)) (.pair (.pair (.int .i64) (.int .i64)) (.pair (.int .i64) (.int .i64))))), .pair (.pair (.pair (.int .i64) (.int .i64)) (.pair (.pair (.int .i64) (.int .i64)) (.pair (.int .i64) (.int .i64)))) (.pair (.pair (.pair (.int .i64) (.int .i64)) (.pair (.pair (.int .i64) (.int .i64)) (.pair (.int .i64) (.int .i64)))) (.pair (.pair (.int .i64) (.int .i64)) (.pair (.pair (.int .i64) (.int .i64)) (.pair (.int .i64) (.int .i64)))))] x) [] (fun v h => toRes h [.pair (.pair (.pair (.int .i64) (.int .i64)) (.pair (.pair (.int .i64) (.int .i64)) (.pair (.int .i64) (.int .i64)))) (.pair (.pair (.pair (.int .i64) (.int .i64)) (.pair (.pair (.int .i64) (.int .i64)) (.pair (.int .i64) (.int .i64)))) (.pair (.pair (.int .i64) (.int .i64)) (.pair (.pair (.int .i64) (.int .i64)) (.pair (.int .i64) (.int .i64)))))] v) = (t_armplanref1_ComposeMat x.1 x.2.1).optA (fun r => (r, ())) := by
  intro x; kernel_rfl
theorem fn_armplanref1_ComposeMat : FnOk Tryz.prog 91 [.pair (.pair (.pair (.int .i64) (.int .i64)) (.pair (.pair (.int .i64) (.int .i64)) (.pair (.int .i64) (.int .i64)))) (.pair (.pair (.pair (.int .i64) (.int .i64)) (.pair (.pair (.int .i64) (.int .i64)) (.pair (.int .i64) (.int .i64)))) (.pair (.pair (.int .i64) (.int .i64)) (.pair (.pair (.int .i64) (.int .i64)) (.pair (.int .i64) (.int .i64))))), .pair (.pair (.pair (.int .i64) (.int .i64)) (.pair (.pair (.int .i64) (.int .i64)) (.pair (.int .i64) (.int .i64)))) (.pair (.pair (.pair (.int .i64) (.int .i64)) (.pair (.pair (.int .i64) (.int .i64)) (.pair (.int .i64) (.int .i64)))) (.pair (.pair (.int .i64) (.int .i64)) (.pair (.pair (.int .i64) (.int .i64)) (.pair (.int .i64) (.int .i64)))))] [.pair (.pair (.pair (.int .i64) (.int .i64)) (.pair (.pair (.int .i64) (.int .i64)) (.pair (.int .i64) (.int .i64)))) (.pair (.pair (.pair (.int .i64) (.int .i64)) (.pair (.pair (.int .i64) (.int .i64)) (.pair (.int .i64) (.int .i64)))) (.pair (.pair (.int .i64) (.int .i64)) (.pair (.pair (.int .i64) (.int .i64)) (.pair (.int .i64) (.int .i64)))))] (fun x => some ((fun r => (r, ())) (armplanref1_ComposeMat x.1 x.2.1))) :=
  fn_tot (t := fun (x : Ar [.pair (.pair (.pair (.int .i64) (.int .i64)) (.pair (.pair (.int .i64) (.int .i64)) (.pair (.int .i64) (.int .i64)))) (.pair (.pair (.pair (.int .i64) (.int .i64)) (.pair (.pair (.int .i64) (.int .i64)) (.pair (.int .i64) (.int .i64)))) (.pair (.pair (.int .i64) (.int .i64)) (.pair (.pair (.int .i64) (.int .i64)) (.pair (.int .i64) (.int .i64))))), .pair (.pair (.pair (.int .i64) (.int .i64)) (.pair (.pair (.int .i64) (.int .i64)) (.pair (.int .i64) (.int .i64)))) (.pair (.pair (.pair (.int .i64) (.int .i64)) (.pair (.pair (.int .i64) (.int .i64)) (.pair (.int .i64) (.int .i64)))) (.pair (.pair (.int .i64) (.int .i64)) (.pair (.pair (.int .i64) (.int .i64)) (.pair (.int .i64) (.int .i64)))))]) => t_armplanref1_ComposeMat x.1 x.2.1) (R := (((Int × Int) × ((Int × Int) × (Int × Int))) × (((Int × Int) × ((Int × Int) × (Int × Int))) × ((Int × Int) × ((Int × Int) × (Int × Int)))))) (Ts := [.pair (.pair (.pair (.int .i64) (.int .i64)) (.pair (.pair (.int .i64) (.int .i64)) (.pair (.int .i64) (.int .i64)))) (.pair (.pair (.pair (.int .i64) (.int .i64)) (.pair (.pair (.int .i64) (.int .i64)) (.pair (.int .i64) (.int .i64)))) (.pair (.pair (.int .i64) (.int .i64)) (.pair (.pair (.int .i64) (.int .i64)) (.pair (.int .i64) (.int .i64)))))]) (mk := (fun r => (r, ()))) (mkC_ok ctys_ok ceqs_ok (fns_cons ok_armplanref1_Add (fns_cons ok_armplanref1_Mul (fns_nil _))) (inl_nil _) noLoops_ok mixed) Tryz.func91 run_armplanref1_ComposeMat (fun _ => by kernel_rfl)
def hd_armplanref1_ComposeMat : Hd := dataHd [.pair (.pair (.pair (.int .i64) (.int .i64)) (.pair (.pair (.int .i64) (.int .i64)) (.pair (.int .i64) (.int .i64)))) (.pair (.pair (.pair (.int .i64) (.int .i64)) (.pair (.pair (.int .i64) (.int .i64)) (.pair (.int .i64) (.int .i64)))) (.pair (.pair (.int .i64) (.int .i64)) (.pair (.pair (.int .i64) (.int .i64)) (.pair (.int .i64) (.int .i64))))), .pair (.pair (.pair (.int .i64) (.int .i64)) (.pair (.pair (.int .i64) (.int .i64)) (.pair (.int .i64) (.int .i64)))) (.pair (.pair (.pair (.int .i64) (.int .i64)) (.pair (.pair (.int .i64) (.int .i64)) (.pair (.int .i64) (.int .i64)))) (.pair (.pair (.int .i64) (.int .i64)) (.pair (.pair (.int .i64) (.int .i64)) (.pair (.int .i64) (.int .i64)))))] [.pair (.pair (.pair (.int .i64) (.int .i64)) (.pair (.pair (.int .i64) (.int .i64)) (.pair (.int .i64) (.int .i64)))) (.pair (.pair (.pair (.int .i64) (.int .i64)) (.pair (.pair (.int .i64) (.int .i64)) (.pair (.int .i64) (.int .i64)))) (.pair (.pair (.int .i64) (.int .i64)) (.pair (.pair (.int .i64) (.int .i64)) (.pair (.int .i64) (.int .i64)))))] (fun x => some ((fun r => (r, ())) (armplanref1_ComposeMat x.1 x.2.1)))
theorem ok_armplanref1_ComposeMat : HdOk Tryz.prog 91 hd_armplanref1_ComposeMat.sem ∧ Enters Tryz.prog 91 := data_ok fn_armplanref1_ComposeMat Tryz.func91 (by kernel_rfl) (by kernel_rfl)

end Go.RX

/-
  The contracts of functions.
-/
namespace Go.RX
open Go.Proofs

def dtys : List (Nat × TRow) := [(46, ⟨.struct [(0, 1), (1, 1)], 2, 16, [.int .i64 0, .int .i64 0], .pair (.int .i64) (.int .i64)⟩),
  (87, ⟨.arr 3 46, 6, 48, [.int .i64 0, .int .i64 0, .int .i64 0, .int .i64 0, .int .i64 0, .int .i64 0], .pair (.pair (.int .i64) (.int .i64)) (.pair (.pair (.int .i64) (.int .i64)) (.pair (.int .i64) (.int .i64)))⟩),
  (89, ⟨.arr 3 87, 18, 144, [.int .i64 0, .int .i64 0, .int .i64 0, .int .i64 0, .int .i64 0, .int .i64 0, .int .i64 0, .int .i64 0, .int .i64 0, .int .i64 0, .int .i64 0, .int .i64 0, .int .i64 0, .int .i64 0, .int .i64 0, .int .i64 0, .int .i64 0, .int .i64 0], .pair (.pair (.pair (.int .i64) (.int .i64)) (.pair (.pair (.int .i64) (.int .i64)) (.pair (.int .i64) (.int .i64)))) (.pair (.pair (.pair (.int .i64) (.int .i64)) (.pair (.pair (.int .i64) (.int .i64)) (.pair (.int .i64) (.int .i64)))) (.pair (.pair (.int .i64) (.int .i64)) (.pair (.pair (.int .i64) (.int .i64)) (.pair (.int .i64) (.int .i64)))))⟩),
  (90, ⟨.arr 3 46, 6, 48, [.int .i64 0, .int .i64 0, .int .i64 0, .int .i64 0, .int .i64 0, .int .i64 0], .pair (.pair (.int .i64) (.int .i64)) (.pair (.pair (.int .i64) (.int .i64)) (.pair (.int .i64) (.int .i64)))⟩),
  (92, ⟨.struct [(0, 18), (18, 6)], 24, 192, [.int .i64 0, .int .i64 0, .int .i64 0, .int .i64 0, .int .i64 0, .int .i64 0, .int .i64 0, .int .i64 0, .int .i64 0, .int .i64 0, .int .i64 0, .int .i64 0, .int .i64 0, .int .i64 0, .int .i64 0, .int .i64 0, .int .i64 0, .int .i64 0, .int .i64 0, .int .i64 0, .int .i64 0, .int .i64 0, .int .i64 0, .int .i64 0], .pair (.pair (.pair (.pair (.int .i64) (.int .i64)) (.pair (.pair (.int .i64) (.int .i64)) (.pair (.int .i64) (.int .i64)))) (.pair (.pair (.pair (.int .i64) (.int .i64)) (.pair (.pair (.int .i64) (.int .i64)) (.pair (.int .i64) (.int .i64)))) (.pair (.pair (.int .i64) (.int .i64)) (.pair (.pair (.int .i64) (.int .i64)) (.pair (.int .i64) (.int .i64)))))) (.pair (.pair (.int .i64) (.int .i64)) (.pair (.pair (.int .i64) (.int .i64)) (.pair (.int .i64) (.int .i64))))⟩)]
def deqs : List (Nat × (Bool × List TK)) := []
theorem dtys_ok : tableOk Tryz.prog dtys = true := by kernel_rfl
theorem deqs_ok : eqsOk Tryz.prog deqs = true := by kernel_rfl

/- armplan/armplanref1.Shift -/
def t_armplanref1_Shift (a0 : ((Int × Int) × ((Int × Int) × (Int × Int)))) : Tr ((((Int × Int) × ((Int × Int) × (Int × Int))) × (((Int × Int) × ((Int × Int) × (Int × Int))) × ((Int × Int) × ((Int × Int) × (Int × Int))))) × ((Int × Int) × ((Int × Int) × (Int × Int)))) :=
  let r1 : (((Int × Int) × ((Int × Int) × (Int × Int))) × (((Int × Int) × ((Int × Int) × (Int × Int))) × ((Int × Int) × ((Int × Int) × (Int × Int))))) := armplanref1_Unit
  .leaf (r1, a0)
def armplanref1_Shift (a0 : ((Int × Int) × ((Int × Int) × (Int × Int)))) : ((((Int × Int) × ((Int × Int) × (Int × Int))) × (((Int × Int) × ((Int × Int) × (Int × Int))) × ((Int × Int) × ((Int × Int) × (Int × Int))))) × ((Int × Int) × ((Int × Int) × (Int × Int)))) := (t_armplanref1_Shift a0).val
theorem run_armplanref1_Shift : ∀ x, runF (mkC dtys deqs [(108, hd_armplanref1_Unit)] [] noLoops) 200 90 Tryz.f90 (argsA [.pair (.pair (.int .i64) (.int .i64)) (.pair (.pair (.int .i64) (.int .i64)) (.pair (.int .i64) (.int .i64)))] x) [] (fun v h => toRes h [.pair (.pair (.pair (.pair (.int .i64) (.int .i64)) (.pair (.pair (.int .i64) (.int .i64)) (.pair (.int .i64) (.int .i64)))) (.pair (.pair (.pair (.int .i64) (.int .i64)) (.pair (.pair (.int .i64) (.int .i64)) (.pair (.int .i64) (.int .i64)))) (.pair (.pair (.int .i64) (.int .i64)) (.pair (.pair (.int .i64) (.int .i64)) (.pair (.int .i64) (.int .i64)))))) (.pair (.pair (.int .i64) (.int .i64)) (.pair (.pair (.int .i64) (.int .i64)) (.pair (.int .i64) (.int .i64))))] v) = (t_armplanref1_Shift x.1).optA (fun r => (r, ())) := by
  intro x; kernel_rfl
theorem fn_armplanref1_Shift : FnOk Tryz.prog 90 [.pair (.pair (.int .i64) (.int .i64)) (.pair (.pair (.int .i64) (.int .i64)) (.pair (.int .i64) (.int .i64)))] [.pair (.pair (.pair (.pair (.int .i64) (.int .i64)) (.pair (.pair (.int .i64) (.int .i64)) (.pair (.int .i64) (.int .i64)))) (.pair (.pair (.pair (.int .i64) (.int .i64)) (.pair (.pair (.int .i64) (.int .i64)) (.pair (.int .i64) (.int .i64)))) (.pair (.pair (.int .i64) (.int .i64)) (.pair (.pair (.int .i64) (.int .i64)) (.pair (.int .i64) (.int .i64)))))) (.pair (.pair (.int .i64) (.int .i64)) (.pair (.pair (.int .i64) (.int .i64)) (.pair (.int .i64) (.int .i64))))] (fun x => some ((fun r => (r, ())) (armplanref1_Shift x.1))) :=
  fn_tot (t := fun (x : Ar [.pair (.pair (.int .i64) (.int .i64)) (.pair (.pair (.int .i64) (.int .i64)) (.pair (.int .i64) (.int .i64)))]) => t_armplanref1_Shift x.1) (R := ((((Int × Int) × ((Int × Int) × (Int × Int))) × (((Int × Int) × ((Int × Int) × (Int × Int))) × ((Int × Int) × ((Int × Int) × (Int × Int))))) × ((Int × Int) × ((Int × Int) × (Int × Int))))) (Ts := [.pair (.pair (.pair (.pair (.int .i64) (.int .i64)) (.pair (.pair (.int .i64) (.int .i64)) (.pair (.int .i64) (.int .i64)))) (.pair (.pair (.pair (.int .i64) (.int .i64)) (.pair (.pair (.int .i64) (.int .i64)) (.pair (.int .i64) (.int .i64)))) (.pair (.pair (.int .i64) (.int .i64)) (.pair (.pair (.int .i64) (.int .i64)) (.pair (.int .i64) (.int .i64)))))) (.pair (.pair (.int .i64) (.int .i64)) (.pair (.pair (.int .i64) (.int .i64)) (.pair (.int .i64) (.int .i64))))]) (mk := (fun r => (r, ()))) (mkC_ok dtys_ok deqs_ok (fns_cons ok_armplanref1_Unit (fns_nil _)) (inl_nil _) noLoops_ok mixed) Tryz.func90 run_armplanref1_Shift (fun _ => by kernel_rfl)
def hd_armplanref1_Shift : Hd := dataHd [.pair (.pair (.int .i64) (.int .i64)) (.pair (.pair (.int .i64) (.int .i64)) (.pair (.int .i64) (.int .i64)))] [.pair (.pair (.pair (.pair (.int .i64) (.int .i64)) (.pair (.pair (.int .i64) (.int .i64)) (.pair (.int .i64) (.int .i64)))) (.pair (.pair (.pair (.int .i64) (.int .i64)) (.pair (.pair (.int .i64) (.int .i64)) (.pair (.int .i64) (.int .i64)))) (.pair (.pair (.int .i64) (.int .i64)) (.pair (.pair (.int .i64) (.int .i64)) (.pair (.int .i64) (.int .i64)))))) (.pair (.pair (.int .i64) (.int .i64)) (.pair (.pair (.int .i64) (.int .i64)) (.pair (.int .i64) (.int .i64))))] (fun x => some ((fun r => (r, ())) (armplanref1_Shift x.1)))
theorem ok_armplanref1_Shift : HdOk Tryz.prog 90 hd_armplanref1_Shift.sem ∧ Enters Tryz.prog 90 := data_ok fn_armplanref1_Shift Tryz.func90 (by kernel_rfl) (by kernel_rfl)

/- armplan/armplanref1.TurnPose -/
def t_armplanref1_TurnPose (a0 : Int) (a1 : (Int × Int)) : Tr ((((Int × Int) × ((Int × Int) × (Int × Int))) × (((Int × Int) × ((Int × Int) × (Int × Int))) × ((Int × Int) × ((Int × Int) × (Int × Int))))) × ((Int × Int) × ((Int × Int) × (Int × Int)))) :=
  let r1 : (((Int × Int) × ((Int × Int) × (Int × Int))) × (((Int × Int) × ((Int × Int) × (Int × Int))) × ((Int × Int) × ((Int × Int) × (Int × Int))))) := armplanref1_Turn a0 a1
  .leaf (r1, ((0, 0), ((0, 0), (0, 0))))
def armplanref1_TurnPose (a0 : Int) (a1 : (Int × Int)) : ((((Int × Int) × ((Int × Int) × (Int × Int))) × (((Int × Int) × ((Int × Int) × (Int × Int))) × ((Int × Int) × ((Int × Int) × (Int × Int))))) × ((Int × Int) × ((Int × Int) × (Int × Int)))) := (t_armplanref1_TurnPose a0 a1).val
theorem run_armplanref1_TurnPose : ∀ x, runF (mkC dtys deqs [(109, hd_armplanref1_Turn)] [] noLoops) 200 89 Tryz.f89 (argsA [.int .i64, .pair (.int .i64) (.int .i64)] x) [] (fun v h => toRes h [.pair (.pair (.pair (.pair (.int .i64) (.int .i64)) (.pair (.pair (.int .i64) (.int .i64)) (.pair (.int .i64) (.int .i64)))) (.pair (.pair (.pair (.int .i64) (.int .i64)) (.pair (.pair (.int .i64) (.int .i64)) (.pair (.int .i64) (.int .i64)))) (.pair (.pair (.int .i64) (.int .i64)) (.pair (.pair (.int .i64) (.int .i64)) (.pair (.int .i64) (.int .i64)))))) (.pair (.pair (.int .i64) (.int .i64)) (.pair (.pair (.int .i64) (.int .i64)) (.pair (.int .i64) (.int .i64))))] v) = (t_armplanref1_TurnPose x.1 x.2.1).optA (fun r => (r, ())) := by
  intro x; kernel_rfl
theorem fn_armplanref1_TurnPose : FnOk Tryz.prog 89 [.int .i64, .pair (.int .i64) (.int .i64)] [.pair (.pair (.pair (.pair (.int .i64) (.int .i64)) (.pair (.pair (.int .i64) (.int .i64)) (.pair (.int .i64) (.int .i64)))) (.pair (.pair (.pair (.int .i64) (.int .i64)) (.pair (.pair (.int .i64) (.int .i64)) (.pair (.int .i64) (.int .i64)))) (.pair (.pair (.int .i64) (.int .i64)) (.pair (.pair (.int .i64) (.int .i64)) (.pair (.int .i64) (.int .i64)))))) (.pair (.pair (.int .i64) (.int .i64)) (.pair (.pair (.int .i64) (.int .i64)) (.pair (.int .i64) (.int .i64))))] (fun x => some ((fun r => (r, ())) (armplanref1_TurnPose x.1 x.2.1))) :=
  fn_tot (t := fun (x : Ar [.int .i64, .pair (.int .i64) (.int .i64)]) => t_armplanref1_TurnPose x.1 x.2.1) (R := ((((Int × Int) × ((Int × Int) × (Int × Int))) × (((Int × Int) × ((Int × Int) × (Int × Int))) × ((Int × Int) × ((Int × Int) × (Int × Int))))) × ((Int × Int) × ((Int × Int) × (Int × Int))))) (Ts := [.pair (.pair (.pair (.pair (.int .i64) (.int .i64)) (.pair (.pair (.int .i64) (.int .i64)) (.pair (.int .i64) (.int .i64)))) (.pair (.pair (.pair (.int .i64) (.int .i64)) (.pair (.pair (.int .i64) (.int .i64)) (.pair (.int .i64) (.int .i64)))) (.pair (.pair (.int .i64) (.int .i64)) (.pair (.pair (.int .i64) (.int .i64)) (.pair (.int .i64) (.int .i64)))))) (.pair (.pair (.int .i64) (.int .i64)) (.pair (.pair (.int .i64) (.int .i64)) (.pair (.int .i64) (.int .i64))))]) (mk := (fun r => (r, ()))) (mkC_ok dtys_ok deqs_ok (fns_cons ok_armplanref1_Turn (fns_nil _)) (inl_nil _) noLoops_ok mixed) Tryz.func89 run_armplanref1_TurnPose (fun _ => by kernel_rfl)
def hd_armplanref1_TurnPose : Hd := dataHd [.int .i64, .pair (.int .i64) (.int .i64)] [.pair (.pair (.pair (.pair (.int .i64) (.int .i64)) (.pair (.pair (.int .i64) (.int .i64)) (.pair (.int .i64) (.int .i64)))) (.pair (.pair (.pair (.int .i64) (.int .i64)) (.pair (.pair (.int .i64) (.int .i64)) (.pair (.int .i64) (.int .i64)))) (.pair (.pair (.int .i64) (.int .i64)) (.pair (.pair (.int .i64) (.int .i64)) (.pair (.int .i64) (.int .i64)))))) (.pair (.pair (.int .i64) (.int .i64)) (.pair (.pair (.int .i64) (.int .i64)) (.pair (.int .i64) (.int .i64))))] (fun x => some ((fun r => (r, ())) (armplanref1_TurnPose x.1 x.2.1)))
theorem ok_armplanref1_TurnPose : HdOk Tryz.prog 89 hd_armplanref1_TurnPose.sem ∧ Enters Tryz.prog 89 := data_ok fn_armplanref1_TurnPose Tryz.func89 (by kernel_rfl) (by kernel_rfl)

/- armplan/armplanref1.Compose -/
def t_armplanref1_Compose (a0 : ((((Int × Int) × ((Int × Int) × (Int × Int))) × (((Int × Int) × ((Int × Int) × (Int × Int))) × ((Int × Int) × ((Int × Int) × (Int × Int))))) × ((Int × Int) × ((Int × Int) × (Int × Int))))) (a1 : ((((Int × Int) × ((Int × Int) × (Int × Int))) × (((Int × Int) × ((Int × Int) × (Int × Int))) × ((Int × Int) × ((Int × Int) × (Int × Int))))) × ((Int × Int) × ((Int × Int) × (Int × Int))))) : Tr ((((Int × Int) × ((Int × Int) × (Int × Int))) × (((Int × Int) × ((Int × Int) × (Int × Int))) × ((Int × Int) × ((Int × Int) × (Int × Int))))) × ((Int × Int) × ((Int × Int) × (Int × Int)))) :=
  let r1 : (((Int × Int) × ((Int × Int) × (Int × Int))) × (((Int × Int) × ((Int × Int) × (Int × Int))) × ((Int × Int) × ((Int × Int) × (Int × Int))))) := armplanref1_ComposeMat a0.1 a1.1
  let r2 : ((Int × Int) × ((Int × Int) × (Int × Int))) := armplanref1_ApplyMat a0.1 a1.2
  let r3 : ((Int × Int) × ((Int × Int) × (Int × Int))) := armplanref1_AddVec a0.2 r2
  .leaf (r1, r3)
def armplanref1_Compose (a0 : ((((Int × Int) × ((Int × Int) × (Int × Int))) × (((Int × Int) × ((Int × Int) × (Int × Int))) × ((Int × Int) × ((Int × Int) × (Int × Int))))) × ((Int × Int) × ((Int × Int) × (Int × Int))))) (a1 : ((((Int × Int) × ((Int × Int) × (Int × Int))) × (((Int × Int) × ((Int × Int) × (Int × Int))) × ((Int × Int) × ((Int × Int) × (Int × Int))))) × ((Int × Int) × ((Int × Int) × (Int × Int))))) : ((((Int × Int) × ((Int × Int) × (Int × Int))) × (((Int × Int) × ((Int × Int) × (Int × Int))) × ((Int × Int) × ((Int × Int) × (Int × Int))))) × ((Int × Int) × ((Int × Int) × (Int × Int)))) := (t_armplanref1_Compose a0 a1).val
theorem run_armplanref1_Compose : ∀ x, runF (mkC dtys deqs [(42, hd_armplanref1_ApplyMat), (64, hd_armplanref1_AddVec), (91, hd_armplanref1_ComposeMat)] [] noLoops) 200 62 Tryz.f62 (argsA [.pair (.pair (.pair (.pair (.int .i64) (.int .i64)) (.pair (.pair (.int .i64) (.int .i64)) (.pair (.int .i64) (.int .i64)))) (.pair (.pair (.pair (.int .i64) (.int .i64)) (.pair (.pair (.int .i64) (.int .i64)) (.pair (.int .i64) (.int .i64)))) (.pair (.pair (.int .i64) (.int .i64)) (.pair (.pair (.int .i64) (.int .i64)) (.pair (.int .i64) (.int .i64)))))) (.pair (.pair (.int .i64) (.int .i64)) (.pair (.pair (.int .i64) (.int .i64)) (.pair (.int .i64) (.int .i64)))), .pair (.pair (.pair (.pair (.int .i64) (.int .i64)) (.pair (.pair (.int .i64) (.int .i64)) (.pair (.int .i64) (.int .i64)))) (.pair (.pair (.pair (.int .i64) (.int .i64)) (.pair (.pair (.int .i64) (.int .i64)) (.pair (.int .i64) (.int .i64)))) (.pair (.pair (.int .i64) (.int .i64)) (.pair (.pair (.int .i64) (.int .i64)) (.pair (.int .i64) (.int .i64)))))) (.pair (.pair (.int .i64) (.int .i64)) (.pair (.pair (.int .i64) (.int .i64)) (.pair (.int .i64) (.int .i64))))] x) [] (fun v h => toRes h [.pair (.pair (.pair (.pair (.int .i64) (.int .i64)) (.pair (.pair (.int .i64) (.int .i64)) (.pair (.int .i64) (.int .i64)))) (.pair (.pair (.pair (.int .i64) (.int .i64)) (.pair (.pair (.int .i64) (.int .i64)) (.pair (.int .i64) (.int .i64)))) (.pair (.pair (.int .i64) (.int .i64)) (.pair (.pair (.int .i64) (.int .i64)) (.pair (.int .i64) (.int .i64)))))) (.pair (.pair (.int .i64) (.int .i64)) (.pair (.pair (.int .i64) (.int .i64)) (.pair (.int .i64) (.int .i64))))] v) = (t_armplanref1_Compose x.1 x.2.1).optA (fun r => (r, ())) := by
  intro x; kernel_rfl
theorem fn_armplanref1_Compose : FnOk Tryz.prog 62 [.pair (.pair (.pair (.pair (.int .i64) (.int .i64)) (.pair (.pair (.int .i64) (.int .i64)) (.pair (.int .i64) (.int .i64)))) (.pair (.pair (.pair (.int .i64) (.int .i64)) (.pair (.pair (.int .i64) (.int .i64)) (.pair (.int .i64) (.int .i64)))) (.pair (.pair (.int .i64) (.int .i64)) (.pair (.pair (.int .i64) (.int .i64)) (.pair (.int .i64) (.int .i64)))))) (.pair (.pair (.int .i64) (.int .i64)) (.pair (.pair (.int .i64) (.int .i64)) (.pair (.int .i64) (.int .i64)))), .pair (.pair (.pair (.pair (.int .i64) (.int .i64)) (.pair (.pair (.int .i64) (.int .i64)) (.pair (.int .i64) (.int .i64)))) (.pair (.pair (.pair (.int .i64) (.int .i64)) (.pair (.pair (.int .i64) (.int .i64)) (.pair (.int .i64) (.int .i64)))) (.pair (.pair (.int .i64) (.int .i64)) (.pair (.pair (.int .i64) (.int .i64)) (.pair (.int .i64) (.int .i64)))))) (.pair (.pair (.int .i64) (.int .i64)) (.pair (.pair (.int .i64) (.int .i64)) (.pair (.int .i64) (.int .i64))))] [.pair (.pair (.pair (.pair (.int .i64) (.int .i64)) (.pair (.pair (.int .i64) (.int .i64)) (.pair (.int .i64) (.int .i64)))) (.pair (.pair (.pair (.int .i64) (.int .i64)) (.pair (.pair (.int .i64) (.int .i64)) (.pair (.int .i64) (.int .i64)))) (.pair (.pair (.int .i64) (.int .i64)) (.pair (.pair (.int .i64) (.int .i64)) (.pair (.int .i64) (.int .i64)))))) (.pair (.pair (.int .i64) (.int .i64)) (.pair (.pair (.int .i64) (.int .i64)) (.pair (.int .i64) (.int .i64))))] (fun x => some ((fun r => (r, ())) (armplanref1_Compose x.1 x.2.1))) :=
  fn_tot (t := fun (x : Ar [.pair (.pair (.pair (.pair (.int .i64) (.int .i64)) (.pair (.pair (.int .i64) (.int .i64)) (.pair (.int .i64) (.int .i64)))) (.pair (.pair (.pair (.int .i64) (.int .i64)) (.pair (.pair (.int .i64) (.int .i64)) (.pair (.int .i64) (.int .i64)))) (.pair (.pair (.int .i64) (.int .i64)) (.pair (.pair (.int .i64) (.int .i64)) (.pair (.int .i64) (.int .i64)))))) (.pair (.pair (.int .i64) (.int .i64)) (.pair (.pair (.int .i64) (.int .i64)) (.pair (.int .i64) (.int .i64)))), .pair (.pair (.pair (.pair (.int .i64) (.int .i64)) (.pair (.pair (.int .i64) (.int .i64)) (.pair (.int .i64) (.int .i64)))) (.pair (.pair (.pair (.int .i64) (.int .i64)) (.pair (.pair (.int .i64) (.int .i64)) (.pair (.int .i64) (.int .i64)))) (.pair (.pair (.int .i64) (.int .i64)) (.pair (.pair (.int .i64) (.int .i64)) (.pair (.int .i64) (.int .i64)))))) (.pair (.pair (.int .i64) (.int .i64)) (.pair (.pair (.int .i64) (.int .i64)) (.pair (.int .i64) (.int .i64))))]) => t_armplanref1_Compose x.1 x.2.1) (R := ((((Int × Int) × ((Int × Int) × (Int × Int))) × (((Int × Int) × ((Int × Int) × (Int × Int))) × ((Int × Int) × ((Int × Int) × (Int × Int))))) × ((Int × Int) × ((Int × Int) × (Int × Int))))) (Ts := [.pair (.pair (.pair (.pair (.int .i64) (.int .i64)) (.pair (.pair (.int .i64) (.int .i64)) (.pair (.int .i64) (.int .i64)))) (.pair (.pair (.pair (.int .i64) (.int .i64)) (.pair (.pair (.int .i64) (.int .i64)) (.pair (.int .i64) (.int .i64)))) (.pair (.pair (.int .i64) (.int .i64)) (.pair (.pair (.int .i64) (.int .i64)) (.pair (.int .i64) (.int .i64)))))) (.pair (.pair (.int .i64) (.int .i64)) (.pair (.pair (.int .i64) (.int .i64)) (.pair (.int .i64) (.int .i64))))]) (mk := (fun r => (r, ()))) (mkC_ok dtys_ok deqs_ok (fns_cons ok_armplanref1_ApplyMat (fns_cons ok_armplanref1_AddVec (fns_cons ok_armplanref1_ComposeMat (fns_nil _)))) (inl_nil _) noLoops_ok mixed) Tryz.func62 run_armplanref1_Compose (fun _ => by kernel_rfl)
def hd_armplanref1_Compose : Hd := dataHd [.pair (.pair (.pair (.pair (.int .i64) (.int .i64)) (.pair (.pair (.int .i64) (.int .i64)) (.pair (.int .i64) (.int .i64)))) (.pair (.pair (.pair (.int .i64) (.int .i64)) (.pair (.pair (.int .i64) (.int .i64)) (.pair (.int .i64) (.int .i64)))) (.pair (.pair (.int .i64) (.int .i64)) (.pair (.pair (.int .i64) (.int .i64)) (.pair (.int .i64) (.int .i64)))))) (.pair (.pair (.int .i64) (.int .i64)) (.pair (.pair (.int .i64) (.int .i64)) (.pair (.int .i64) (.int .i64)))), .pair (.pair (.pair (.pair (.int .i64) (.int .i64)) (.pair (.pair (.int .i64) (.int .i64)) (.pair (.int .i64) (.int .i64)))) (.pair (.pair (.pair (.int .i64) (.int .i64)) (.pair (.pair (.int .i64) (.int .i64)) (.pair (.int .i64) (.int .i64)))) (.pair (.pair (.int .i64) (.int .i64)) (.pair (.pair (.int .i64) (.int .i64)) (.pair (.int .i64) (.int .i64)))))) (.pair (.pair (.int .i64) (.int .i64)) (.pair (.pair (.int .i64) (.int .i64)) (.pair (.int .i64) (.int .i64))))] [.pair (.pair (.pair (.pair (.int .i64) (.int .i64)) (.pair (.pair (.int .i64) (.int .i64)) (.pair (.int .i64) (.int .i64)))) (.pair (.pair (.pair (.int .i64) (.int .i64)) (.pair (.pair (.int .i64) (.int .i64)) (.pair (.int .i64) (.int .i64)))) (.pair (.pair (.int .i64) (.int .i64)) (.pair (.pair (.int .i64) (.int .i64)) (.pair (.int .i64) (.int .i64)))))) (.pair (.pair (.int .i64) (.int .i64)) (.pair (.pair (.int .i64) (.int .i64)) (.pair (.int .i64) (.int .i64))))] (fun x => some ((fun r => (r, ())) (armplanref1_Compose x.1 x.2.1)))
theorem ok_armplanref1_Compose : HdOk Tryz.prog 62 hd_armplanref1_Compose.sem ∧ Enters Tryz.prog 62 := data_ok fn_armplanref1_Compose Tryz.func62 (by kernel_rfl) (by kernel_rfl)

/- armplan/pose.Apply -/
def t_pose_Apply (a0 : ((((Int × Int) × ((Int × Int) × (Int × Int))) × (((Int × Int) × ((Int × Int) × (Int × Int))) × ((Int × Int) × ((Int × Int) × (Int × Int))))) × ((Int × Int) × ((Int × Int) × (Int × Int))))) (a1 : ((Int × Int) × ((Int × Int) × (Int × Int)))) : Tr ((Int × Int) × ((Int × Int) × (Int × Int))) :=
  let r1 : ((Int × Int) × ((Int × Int) × (Int × Int))) := matrix_Apply a0.1 a1
  let r2 : ((Int × Int) × ((Int × Int) × (Int × Int))) := matrix_Add a0.2 r1
  .leaf r2
def pose_Apply (a0 : ((((Int × Int) × ((Int × Int) × (Int × Int))) × (((Int × Int) × ((Int × Int) × (Int × Int))) × ((Int × Int) × ((Int × Int) × (Int × Int))))) × ((Int × Int) × ((Int × Int) × (Int × Int))))) (a1 : ((Int × Int) × ((Int × Int) × (Int × Int)))) : ((Int × Int) × ((Int × Int) × (Int × Int))) := (t_pose_Apply a0 a1).val
theorem run_pose_Apply : ∀ x, runF (mkC dtys deqs [(105, hd_matrix_Apply), (127, hd_matrix_Add)] [(113, Tryz.f113), (126, Tryz.f126)] noLoops) 200 104 Tryz.f104 (argsA [.pair (.pair (.pair (.pair (.int .i64) (.int .i64)) (.pair (.pair (.int .i64) (.int .i64)) (.pair (.int .i64) (.int .i64)))) (.pair (.pair (.pair (.int .i64) (.int .i64)) (.pair (.pair (.int .i64) (.int .i64)) (.pair (.int .i64) (.int .i64)))) (.pair (.pair (.int .i64) (.int .i64)) (.pair (.pair (.int .i64) (.int .i64)) (.pair (.int .i64) (.int .i64)))))) (.pair (.pair (.int .i64) (.int .i64)) (.pair (.pair (.int .i64) (.int .i64)) (.pair (.int .i64) (.int .i64)))), .pair (.pair (.int .i64) (.int .i64)) (.pair (.pair (.int .i64) (.int .i64)) (.pair (.int .i64) (.int .i64)))] x) [] (fun v h => toRes h [.pair (.pair (.int .i64) (.int .i64)) (.pair (.pair (.int .i64) (.int .i64)) (.pair (.int .i64) (.int .i64)))] v) = (t_pose_Apply x.1 x.2.1).optA (fun r => (r, ())) := by
  intro x; kernel_rfl
theorem fn_pose_Apply : FnOk Tryz.prog 104 [.pair (.pair (.pair (.pair (.int .i64) (.int .i64)) (.pair (.pair (.int .i64) (.int .i64)) (.pair (.int .i64) (.int .i64)))) (.pair (.pair (.pair (.int .i64) (.int .i64)) (.pair (.pair (.int .i64) (.int .i64)) (.pair (.int .i64) (.int .i64)))) (.pair (.pair (.int .i64) (.int .i64)) (.pair (.pair (.int .i64) (.int .i64)) (.pair (.int .i64) (.int .i64)))))) (.pair (.pair (.int .i64) (.int .i64)) (.pair (.pair (.int .i64) (.int .i64)) (.pair (.int .i64) (.int .i64)))), .pair (.pair (.int .i64) (.int .i64)) (.pair (.pair (.int .i64) (.int .i64)) (.pair (.int .i64) (.int .i64)))] [.pair (.pair (.int .i64) (.int .i64)) (.pair (.pair (.int .i64) (.int .i64)) (.pair (.int .i64) (.int .i64)))] (fun x => some ((fun r => (r, ())) (pose_Apply x.1 x.2.1))) :=
  fn_tot (t := fun (x : Ar [.pair (.pair (.pair (.pair (.int .i64) (.int .i64)) (.pair (.pair (.int .i64) (.int .i64)) (.pair (.int .i64) (.int .i64)))) (.pair (.pair (.pair (.int .i64) (.int .i64)) (.pair (.pair (.int .i64) (.int .i64)) (.pair (.int .i64) (.int .i64)))) (.pair (.pair (.int .i64) (.int .i64)) (.pair (.pair (.int .i64) (.int .i64)) (.pair (.int .i64) (.int .i64)))))) (.pair (.pair (.int .i64) (.int .i64)) (.pair (.pair (.int .i64) (.int .i64)) (.pair (.int .i64) (.int .i64)))), .pair (.pair (.int .i64) (.int .i64)) (.pair (.pair (.int .i64) (.int .i64)) (.pair (.int .i64) (.int .i64)))]) => t_pose_Apply x.1 x.2.1) (R := ((Int × Int) × ((Int × Int) × (Int × Int)))) (Ts := [.pair (.pair (.int .i64) (.int .i64)) (.pair (.pair (.int .i64) (.int .i64)) (.pair (.int .i64) (.int .i64)))]) (mk := (fun r => (r, ()))) (mkC_ok dtys_ok deqs_ok (fns_cons ok_matrix_Apply (fns_cons ok_matrix_Add (fns_nil _))) (inl_cons Tryz.func113 (by kernel_rfl) (inl_cons Tryz.func126 (by kernel_rfl) (inl_nil _))) noLoops_ok mixed) Tryz.func104 run_pose_Apply (fun _ => by kernel_rfl)
def hd_pose_Apply : Hd := dataHd [.pair (.pair (.pair (.pair (.int .i64) (.int .i64)) (.pair (.pair (.int .i64) (.int .i64)) (.pair (.int .i64) (.int .i64)))) (.pair (.pair (.pair (.int .i64) (.int .i64)) (.pair (.pair (.int .i64) (.int .i64)) (.pair (.int .i64) (.int .i64)))) (.pair (.pair (.int .i64) (.int .i64)) (.pair (.pair (.int .i64) (.int .i64)) (.pair (.int .i64) (.int .i64)))))) (.pair (.pair (.int .i64) (.int .i64)) (.pair (.pair (.int .i64) (.int .i64)) (.pair (.int .i64) (.int .i64)))), .pair (.pair (.int .i64) (.int .i64)) (.pair (.pair (.int .i64) (.int .i64)) (.pair (.int .i64) (.int .i64)))] [.pair (.pair (.int .i64) (.int .i64)) (.pair (.pair (.int .i64) (.int .i64)) (.pair (.int .i64) (.int .i64)))] (fun x => some ((fun r => (r, ())) (pose_Apply x.1 x.2.1)))
theorem ok_pose_Apply : HdOk Tryz.prog 104 hd_pose_Apply.sem ∧ Enters Tryz.prog 104 := data_ok fn_pose_Apply Tryz.func104 (by kernel_rfl) (by kernel_rfl)

/- armplan/pose.Compose -/
def t_pose_Compose (a0 : ((((Int × Int) × ((Int × Int) × (Int × Int))) × (((Int × Int) × ((Int × Int) × (Int × Int))) × ((Int × Int) × ((Int × Int) × (Int × Int))))) × ((Int × Int) × ((Int × Int) × (Int × Int))))) (a1 : ((((Int × Int) × ((Int × Int) × (Int × Int))) × (((Int × Int) × ((Int × Int) × (Int × Int))) × ((Int × Int) × ((Int × Int) × (Int × Int))))) × ((Int × Int) × ((Int × Int) × (Int × Int))))) : Tr ((((Int × Int) × ((Int × Int) × (Int × Int))) × (((Int × Int) × ((Int × Int) × (Int × Int))) × ((Int × Int) × ((Int × Int) × (Int × Int))))) × ((Int × Int) × ((Int × Int) × (Int × Int)))) :=
  let r1 : (((Int × Int) × ((Int × Int) × (Int × Int))) × (((Int × Int) × ((Int × Int) × (Int × Int))) × ((Int × Int) × ((Int × Int) × (Int × Int))))) := matrix_Compose a0.1 a1.1
  let r2 : ((Int × Int) × ((Int × Int) × (Int × Int))) := matrix_Apply a0.1 a1.2
  let r3 : ((Int × Int) × ((Int × Int) × (Int × Int))) := matrix_Add a0.2 r2
  .leaf (r1, r3)
def pose_Compose (a0 : ((((Int × Int) × ((Int × Int) × (Int × Int))) × (((Int × Int) × ((Int × Int) × (Int × Int))) × ((Int × Int) × ((Int × Int) × (Int × Int))))) × ((Int × Int) × ((Int × Int) × (Int × Int))))) (a1 : ((((Int × Int) × ((Int × Int) × (Int × Int))) × (((Int × Int) × ((Int × Int) × (Int × Int))) × ((Int × Int) × ((Int × Int) × (Int × Int))))) × ((Int × Int) × ((Int × Int) × (Int × Int))))) : ((((Int × Int) × ((Int × Int) × (Int × Int))) × (((Int × Int) × ((Int × Int) × (Int × Int))) × ((Int × Int) × ((Int × Int) × (Int × Int))))) × ((Int × Int) × ((Int × Int) × (Int × Int)))) := (t_pose_Compose a0 a1).val
theorem run_pose_Compose : ∀ x, runF (mkC dtys deqs [(105, hd_matrix_Apply), (114, hd_matrix_Compose), (127, hd_matrix_Add)] [(113, Tryz.f113), (126, Tryz.f126)] noLoops) 200 102 Tryz.f102 (argsA [.pair (.pair (.pair (.pair (.int .i64) (.int .i64)) (.pair (.pair (.int .i64) (.int .i64)) (.pair (.int .i64) (.int .i64)))) (.pair (.pair (.pair (.int .i64) (.int .i64)) (.pair (.pair (.int .i64) (.int .i64)) (.pair (.int .i64) (.int .i64)))) (.pair (.pair (.int .i64) (.int .i64)) (.pair (.pair (.int .i64) (.int .i64)) (.pair (.int .i64) (.int .i64)))))) (.pair (.pair (.int .i64) (.int .i64)) (.pair (.pair (.int .i64) (.int .i64)) (.pair (.int .i64) (.int .i64)))), .pair (.pair (.pair (.pair (.int .i64) (.int .i64)) (.pair (.pair (.int .i64) (.int .i64)) (.pair (.int .i64) (.int .i64)))) (.pair (.pair (.pair (.int .i64) (.int .i64)) (.pair (.pair (.int .i64) (.int .i64)) (.pair (.int .i64) (.int .i64)))) (.pair (.pair (.int .i64) (.int .i64)) (.pair (.pair (.int .i64) (.int .i64)) (.pair (.int .i64) (.int .i64)))))) (.pair (.pair (.int .i64) (.int .i64)) (.pair (.pair (.int .i64) (.int .i64)) (.pair (.int .i64) (.int .i64))))] x) [] (fun v h => toRes h [.pair (.pair (.pair (.pair (.int .i64) (.int .i64)) (.pair (.pair (.int .i64) (.int .i64)) (.pair (.int .i64) (.int .i64)))) (.pair (.pair (.pair (.int .i64) (.int .i64)) (.pair (.pair (.int .i64) (.int .i64)) (.pair (.int .i64) (.int .i64)))) (.pair (.pair (.int .i64) (.int .i64)) (.pair (.pair (.int .i64) (.int .i64)) (.pair (.int .i64) (.int .i64)))))) (.pair (.pair (.int .i64) (.int .i64)) (.pair (.pair (.int .i64) (.int .i64)) (.pair (.int .i64) (.int .i64))))] v) = (t_pose_Compose x.1 x.2.1).optA (fun r => (r, ())) := by
  intro x; kernel_rfl
theorem fn_pose_Compose : FnOk Tryz.prog 102 [.pair (.pair (.pair (.pair (.int .i64) (.int .i64)) (.pair (.pair (.int .i64) (.int .i64)) (.pair (.int .i64) (.int .i64)))) (.pair (.pair (.pair (.int .i64) (.int .i64)) (.pair (.pair (.int .i64) (.int .i64)) (.pair (.int .i64) (.int .i64)))) (.pair (.pair (.int .i64) (.int .i64)) (.pair (.pair (.int .i64) (.int .i64)) (.pair (.int .i64) (.int .i64)))))) (.pair (.pair (.int .i64) (.int .i64)) (.pair (.pair (.int .i64) (.int .i64)) (.pair (.int .i64) (.int .i64)))), .pair (.pair (.pair (.pair (.int .i64) (.int .i64)) (.pair (.pair (.int .i64) (.int .i64)) (.pair (.int .i64) (.int .i64)))) (.pair (.pair (.pair (.int .i64) (.int .i64)) (.pair (.pair (.int .i64) (.int .i64)) (.pair (.int .i64) (.int .i64)))) (.pair (.pair (.int .i64) (.int .i64)) (.pair (.pair (.int .i64) (.int .i64)) (.pair (.int .i64) (.int .i64)))))) (.pair (.pair (.int .i64) (.int .i64)) (.pair (.pair (.int .i64) (.int .i64)) (.pair (.int .i64) (.int .i64))))] [.pair (.pair (.pair (.pair (.int .i64) (.int .i64)) (.pair (.pair (.int .i64) (.int .i64)) (.pair (.int .i64) (.int .i64)))) (.pair (.pair (.pair (.int .i64) (.int .i64)) (.pair (.pair (.int .i64) (.int .i64)) (.pair (.int .i64) (.int .i64)))) (.pair (.pair (.int .i64) (.int .i64)) (.pair (.pair (.int .i64) (.int .i64)) (.pair (.int .i64) (.int .i64)))))) (.pair (.pair (.int .i64) (.int .i64)) (.pair (.pair (.int .i64) (.int .i64)) (.pair (.int .i64) (.int .i64))))] (fun x => some ((fun r => (r, ())) (pose_Compose x.1 x.2.1))) :=
  fn_tot (t := fun (x : Ar [.pair (.pair (.pair (.pair (.int .i64) (.int .i64)) (.pair (.pair (.int .i64) (.int .i64)) (.pair (.int .i64) (.int .i64)))) (.pair (.pair (.pair (.int .i64) (.int .i64)) (.pair (.pair (.int .i64) (.int .i64)) (.pair (.int .i64) (.int .i64)))) (.pair (.pair (.int .i64) (.int .i64)) (.pair (.pair (.int .i64) (.int .i64)) (.pair (.int .i64) (.int .i64)))))) (.pair (.pair (.int .i64) (.int .i64)) (.pair (.pair (.int .i64) (.int .i64)) (.pair (.int .i64) (.int .i64)))), .pair (.pair (.pair (.pair (.int .i64) (.int .i64)) (.pair (.pair (.int .i64) (.int .i64)) (.pair (.int .i64) (.int .i64)))) (.pair (.pair (.pair (.int .i64) (.int .i64)) (.pair (.pair (.int .i64) (.int .i64)) (.pair (.int .i64) (.int .i64)))) (.pair (.pair (.int .i64) (.int .i64)) (.pair (.pair (.int .i64) (.int .i64)) (.pair (.int .i64) (.int .i64)))))) (.pair (.pair (.int .i64) (.int .i64)) (.pair (.pair (.int .i64) (.int .i64)) (.pair (.int .i64) (.int .i64))))]) => t_pose_Compose x.1 x.2.1) (R := ((((Int × Int) × ((Int × Int) × (Int × Int))) × (((Int × Int) × ((Int × Int) × (Int × Int))) × ((Int × Int) × ((Int × Int) × (Int × Int))))) × ((Int × Int) × ((Int × Int) × (Int × Int))))) (Ts := [.pair (.pair (.pair (.pair (.int .i64) (.int .i64)) (.pair (.pair (.int .i64) (.int .i64)) (.pair (.int .i64) (.int .i64)))) (.pair (.pair (.pair (.int .i64) (.int .i64)) (.pair (.pair (.int .i64) (.int .i64)) (.pair (.int .i64) (.int .i64)))) (.pair (.pair (.int .i64) (.int .i64)) (.pair (.pair (.int .i64) (.int .i64)) (.pair (.int .i64) (.int .i64)))))) (.pair (.pair (.int .i64) (.int .i64)) (.pair (.pair (.int .i64) (.int .i64)) (.pair (.int .i64) (.int .i64))))]) (mk := (fun r => (r, ()))) (mkC_ok dtys_ok deqs_ok (fns_cons ok_matrix_Apply (fns_cons ok_matrix_Compose (fns_cons ok_matrix_Add (fns_nil _)))) (inl_cons Tryz.func113 (by kernel_rfl) (inl_cons Tryz.func126 (by kernel_rfl) (inl_nil _))) noLoops_ok mixed) Tryz.func102 run_pose_Compose (fun _ => by kernel_rfl)
def hd_pose_Compose : Hd := dataHd [.pair (.pair (.pair (.pair (.int .i64) (.int .i64)) (.pair (.pair (.int .i64) (.int .i64)) (.pair (.int .i64) (.int .i64)))) (.pair (.pair (.pair (.int .i64) (.int .i64)) (.pair (.pair (.int .i64) (.int .i64)) (.pair (.int .i64) (.int .i64)))) (.pair (.pair (.int .i64) (.int .i64)) (.pair (.pair (.int .i64) (.int .i64)) (.pair (.int .i64) (.int .i64)))))) (.pair (.pair (.int .i64) (.int .i64)) (.pair (.pair (.int .i64) (.int .i64)) (.pair (.int .i64) (.int .i64)))), .pair (.pair (.pair (.pair (.int .i64) (.int .i64)) (.pair (.pair (.int .i64) (.int .i64)) (.pair (.int .i64) (.int .i64)))) (.pair (.pair (.pair (.int .i64) (.int .i64)) (.pair (.pair (.int .i64) (.int .i64)) (.pair (.int .i64) (.int .i64)))) (.pair (.pair (.int .i64) (.int .i64)) (.pair (.pair (.int .i64) (.int .i64)) (.pair (.int .i64) (.int .i64)))))) (.pair (.pair (.int .i64) (.int .i64)) (.pair (.pair (.int .i64) (.int .i64)) (.pair (.int .i64) (.int .i64))))] [.pair (.pair (.pair (.pair (.int .i64) (.int .i64)) (.pair (.pair (.int .i64) (.int .i64)) (.pair (.int .i64) (.int .i64)))) (.pair (.pair (.pair (.int .i64) (.int .i64)) (.pair (.pair (.int .i64) (.int .i64)) (.pair (.int .i64) (.int .i64)))) (.pair (.pair (.int .i64) (.int .i64)) (.pair (.pair (.int .i64) (.int .i64)) (.pair (.int .i64) (.int .i64)))))) (.pair (.pair (.int .i64) (.int .i64)) (.pair (.pair (.int .i64) (.int .i64)) (.pair (.int .i64) (.int .i64))))] (fun x => some ((fun r => (r, ())) (pose_Compose x.1 x.2.1)))
theorem ok_pose_Compose : HdOk Tryz.prog 102 hd_pose_Compose.sem ∧ Enters Tryz.prog 102 := data_ok fn_pose_Compose Tryz.func102 (by kernel_rfl) (by kernel_rfl)

/- armplan/pose.Shift -/
def t_pose_Shift (a0 : ((Int × Int) × ((Int × Int) × (Int × Int)))) : Tr ((((Int × Int) × ((Int × Int) × (Int × Int))) × (((Int × Int) × ((Int × Int) × (Int × Int))) × ((Int × Int) × ((Int × Int) × (Int × Int))))) × ((Int × Int) × ((Int × Int) × (Int × Int)))) :=
  let r1 : (((Int × Int) × ((Int × Int) × (Int × Int))) × (((Int × Int) × ((Int × Int) × (Int × Int))) × ((Int × Int) × ((Int × Int) × (Int × Int))))) := matrix_Identity
  .leaf (r1, a0)
def pose_Shift (a0 : ((Int × Int) × ((Int × Int) × (Int × Int)))) : ((((Int × Int) × ((Int × Int) × (Int × Int))) × (((Int × Int) × ((Int × Int) × (Int × Int))) × ((Int × Int) × ((Int × Int) × (Int × Int))))) × ((Int × Int) × ((Int × Int) × (Int × Int)))) := (t_pose_Shift a0).val
theorem run_pose_Shift : ∀ x, runF (mkC dtys deqs [(125, hd_matrix_Identity)] [] noLoops) 200 112 Tryz.f112 (argsA [.pair (.pair (.int .i64) (.int .i64)) (.pair (.pair (.int .i64) (.int .i64)) (.pair (.int .i64) (.int .i64)))] x) [] (fun v h => toRes h [.pair (.pair (.pair (.pair (.int .i64) (.int .i64)) (.pair (.pair (.int .i64) (.int .i64)) (.pair (.int .i64) (.int .i64)))) (.pair (.pair (.pair (.int .i64) (.int .i64)) (.pair (.pair (.int .i64) (.int .i64)) (.pair (.int .i64) (.int .i64)))) (.pair (.pair (.int .i64) (.int .i64)) (.pair (.pair (.int .i64) (.int .i64)) (.pair (.int .i64) (.int .i64)))))) (.pair (.pair (.int .i64) (.int .i64)) (.pair (.pair (.int .i64) (.int .i64)) (.pair (.int .i64) (.int .i64))))] v) = (t_pose_Shift x.1).optA (fun r => (r, ())) := by
  intro x; kernel_rfl
theorem fn_pose_Shift : FnOk Tryz.prog 112 [.pair (.pair (.int .i64) (.int .i64)) (.pair (.pair (.int .i64) (.int .i64)) (.pair (.int .i64) (.int .i64)))] [.pair (.pair (.pair (.pair (.int .i64) (.int .i64)) (.pair (.pair (.int .i64) (.int .i64)) (.pair (.int .i64) (.int .i64)))) (.pair (.pair (.pair (.int .i64) (.int .i64)) (.pair (.pair (.int .i64) (.int .i64)) (.pair (.int .i64) (.int .i64)))) (.pair (.pair (.int .i64) (.int .i64)) (.pair (.pair (.int .i64) (.int .i64)) (.pair (.int .i64) (.int .i64)))))) (.pair (.pair (.int .i64) (.int .i64)) (.pair (.pair (.int .i64) (.int .i64)) (.pair (.int .i64) (.int .i64))))] (fun x => some ((fun r => (r, ())) (pose_Shift x.1))) :=
  fn_tot (t := fun (x : Ar [.pair (.pair (.int .i64) (.int .i64)) (.pair (.pair (.int .i64) (.int .i64)) (.pair (.int .i64) (.int .i64)))]) => t_pose_Shift x.1) (R := ((((Int × Int) × ((Int × Int) × (Int × Int))) × (((Int × Int) × ((Int × Int) × (Int × Int))) × ((Int × Int) × ((Int × Int) × (Int × Int))))) × ((Int × Int) × ((Int × Int) × (Int × Int))))) (Ts := [.pair (.pair (.pair (.pair (.int .i64) (.int .i64)) (.pair (.pair (.int .i64) (.int .i64)) (.pair (.int .i64) (.int .i64)))) (.pair (.pair (.pair (.int .i64) (.int .i64)) (.pair (.pair (.int .i64) (.int .i64)) (.pair (.int .i64) (.int .i64)))) (.pair (.pair (.int .i64) (.int .i64)) (.pair (.pair (.int .i64) (.int .i64)) (.pair (.int .i64) (.int .i64)))))) (.pair (.pair (.int .i64) (.int .i64)) (.pair (.pair (.int .i64) (.int .i64)) (.pair (.int .i64) (.int .i64))))]) (mk := (fun r => (r, ()))) (mkC_ok dtys_ok deqs_ok (fns_cons ok_matrix_Identity (fns_nil _)) (inl_nil _) noLoops_ok mixed) Tryz.func112 run_pose_Shift (fun _ => by kernel_rfl)
def hd_pose_Shift : Hd := dataHd [.pair (.pair (.int .i64) (.int .i64)) (.pair (.pair (.int .i64) (.int .i64)) (.pair (.int .i64) (.int .i64)))] [.pair (.pair (.pair (.pair (.int .i64) (.int .i64)) (.pair (.pair (.int .i64) (.int .i64)) (.pair (.int .i64) (.int .i64)))) (.pair (.pair (.pair (.int .i64) (.int .i64)) (.pair (.pair (.int .i64) (.int .i64)) (.pair (.int .i64) (.int .i64)))) (.pair (.pair (.int .i64) (.int .i64)) (.pair (.pair (.int .i64) (.int .i64)) (.pair (.int .i64) (.int .i64)))))) (.pair (.pair (.int .i64) (.int .i64)) (.pair (.pair (.int .i64) (.int .i64)) (.pair (.int .i64) (.int .i64))))] (fun x => some ((fun r => (r, ())) (pose_Shift x.1)))
theorem ok_pose_Shift : HdOk Tryz.prog 112 hd_pose_Shift.sem ∧ Enters Tryz.prog 112 := data_ok fn_pose_Shift Tryz.func112 (by kernel_rfl) (by kernel_rfl)

/- armplan/pose.Turn -/
def t_pose_Turn (a0 : Int) (a1 : (Int × Int)) : Tr ((((Int × Int) × ((Int × Int) × (Int × Int))) × (((Int × Int) × ((Int × Int) × (Int × Int))) × ((Int × Int) × ((Int × Int) × (Int × Int))))) × ((Int × Int) × ((Int × Int) × (Int × Int)))) :=
  let r1 : (((Int × Int) × ((Int × Int) × (Int × Int))) × (((Int × Int) × ((Int × Int) × (Int × Int))) × ((Int × Int) × ((Int × Int) × (Int × Int))))) := matrix_Turn a0 a1
  .leaf (r1, ((0, 0), ((0, 0), (0, 0))))
def pose_Turn (a0 : Int) (a1 : (Int × Int)) : ((((Int × Int) × ((Int × Int) × (Int × Int))) × (((Int × Int) × ((Int × Int) × (Int × Int))) × ((Int × Int) × ((Int × Int) × (Int × Int))))) × ((Int × Int) × ((Int × Int) × (Int × Int)))) := (t_pose_Turn a0 a1).val
theorem run_pose_Turn : ∀ x, runF (mkC dtys deqs [(137, hd_matrix_Turn)] [] noLoops) 200 122 Tryz.f122 (argsA [.int .i64, .pair (.int .i64) (.int .i64)] x) [] (fun v h => toRes h [.pair (.pair (.pair (.pair (.int .i64) (.int .i64)) (.pair (.pair (.int .i64) (.int .i64)) (.pair (.int .i64) (.int .i64)))) (.pair (.pair (.pair (.int .i64) (.int .i64)) (.pair (.pair (.int .i64) (.int .i64)) (.pair (.int .i64) (.int .i64)))) (.pair (.pair (.int .i64) (.int .i64)) (.pair (.pair (.int .i64) (.int .i64)) (.pair (.int .i64) (.int .i64)))))) (.pair (.pair (.int .i64) (.int .i64)) (.pair (.pair (.int .i64) (.int .i64)) (.pair (.int .i64) (.int .i64))))] v) = (t_pose_Turn x.1 x.2.1).optA (fun r => (r, ())) := by
  intro x; kernel_rfl
theorem fn_pose_Turn : FnOk Tryz.prog 122 [.int .i64, .pair (.int .i64) (.int .i64)] [.pair (.pair (.pair (.pair (.int .i64) (.int .i64)) (.pair (.pair (.int .i64) (.int .i64)) (.pair (.int .i64) (.int .i64)))) (.pair (.pair (.pair (.int .i64) (.int .i64)) (.pair (.pair (.int .i64) (.int .i64)) (.pair (.int .i64) (.int .i64)))) (.pair (.pair (.int .i64) (.int .i64)) (.pair (.pair (.int .i64) (.int .i64)) (.pair (.int .i64) (.int .i64)))))) (.pair (.pair (.int .i64) (.int .i64)) (.pair (.pair (.int .i64) (.int .i64)) (.pair (.int .i64) (.int .i64))))] (fun x => some ((fun r => (r, ())) (pose_Turn x.1 x.2.1))) :=
  fn_tot (t := fun (x : Ar [.int .i64, .pair (.int .i64) (.int .i64)]) => t_pose_Turn x.1 x.2.1) (R := ((((Int × Int) × ((Int × Int) × (Int × Int))) × (((Int × Int) × ((Int × Int) × (Int × Int))) × ((Int × Int) × ((Int × Int) × (Int × Int))))) × ((Int × Int) × ((Int × Int) × (Int × Int))))) (Ts := [.pair (.pair (.pair (.pair (.int .i64) (.int .i64)) (.pair (.pair (.int .i64) (.int .i64)) (.pair (.int .i64) (.int .i64)))) (.pair (.pair (.pair (.int .i64) (.int .i64)) (.pair (.pair (.int .i64) (.int .i64)) (.pair (.int .i64) (.int .i64)))) (.pair (.pair (.int .i64) (.int .i64)) (.pair (.pair (.int .i64) (.int .i64)) (.pair (.int .i64) (.int .i64)))))) (.pair (.pair (.int .i64) (.int .i64)) (.pair (.pair (.int .i64) (.int .i64)) (.pair (.int .i64) (.int .i64))))]) (mk := (fun r => (r, ()))) (mkC_ok dtys_ok deqs_ok (fns_cons ok_matrix_Turn (fns_nil _)) (inl_nil _) noLoops_ok mixed) Tryz.func122 run_pose_Turn (fun _ => by kernel_rfl)
def hd_pose_Turn : Hd := dataHd [.int .i64, .pair (.int .i64) (.int .i64)] [.pair (.pair (.pair (.pair (.int .i64) (.int .i64)) (.pair (.pair (.int .i64) (.int .i64)) (.pair (.int .i64) (.int .i64)))) (.pair (.pair (.pair (.int .i64) (.int .i64)) (.pair (.pair (.int .i64) (.int .i64)) (.pair (.int .i64) (.int .i64)))) (.pair (.pair (.int .i64) (.int .i64)) (.pair (.pair (.int .i64) (.int .i64)) (.pair (.int .i64) (.int .i64)))))) (.pair (.pair (.int .i64) (.int .i64)) (.pair (.pair (.int .i64) (.int .i64)) (.pair (.int .i64) (.int .i64))))] (fun x => some ((fun r => (r, ())) (pose_Turn x.1 x.2.1)))
theorem ok_pose_Turn : HdOk Tryz.prog 122 hd_pose_Turn.sem ∧ Enters Tryz.prog 122 := data_ok fn_pose_Turn Tryz.func122 (by kernel_rfl) (by kernel_rfl)

/- armplan/pose.Identity -/
def t_pose_Identity : Tr ((((Int × Int) × ((Int × Int) × (Int × Int))) × (((Int × Int) × ((Int × Int) × (Int × Int))) × ((Int × Int) × ((Int × Int) × (Int × Int))))) × ((Int × Int) × ((Int × Int) × (Int × Int)))) :=
  let r1 : (((Int × Int) × ((Int × Int) × (Int × Int))) × (((Int × Int) × ((Int × Int) × (Int × Int))) × ((Int × Int) × ((Int × Int) × (Int × Int))))) := matrix_Identity
  .leaf (r1, ((0, 0), ((0, 0), (0, 0))))
def pose_Identity : ((((Int × Int) × ((Int × Int) × (Int × Int))) × (((Int × Int) × ((Int × Int) × (Int × Int))) × ((Int × Int) × ((Int × Int) × (Int × Int))))) × ((Int × Int) × ((Int × Int) × (Int × Int)))) := t_pose_Identity.val
theorem run_pose_Identity : ∀ x, runF (mkC dtys deqs [(125, hd_matrix_Identity)] [] noLoops) 200 138 Tryz.f138 (argsA [] x) [] (fun v h => toRes h [.pair (.pair (.pair (.pair (.int .i64) (.int .i64)) (.pair (.pair (.int .i64) (.int .i64)) (.pair (.int .i64) (.int .i64)))) (.pair (.pair (.pair (.int .i64) (.int .i64)) (.pair (.pair (.int .i64) (.int .i64)) (.pair (.int .i64) (.int .i64)))) (.pair (.pair (.int .i64) (.int .i64)) (.pair (.pair (.int .i64) (.int .i64)) (.pair (.int .i64) (.int .i64)))))) (.pair (.pair (.int .i64) (.int .i64)) (.pair (.pair (.int .i64) (.int .i64)) (.pair (.int .i64) (.int .i64))))] v) = (t_pose_Identity ).optA (fun r => (r, ())) := by
  intro x; kernel_rfl
theorem fn_pose_Identity : FnOk Tryz.prog 138 [] [.pair (.pair (.pair (.pair (.int .i64) (.int .i64)) (.pair (.pair (.int .i64) (.int .i64)) (.pair (.int .i64) (.int .i64)))) (.pair (.pair (.pair (.int .i64) (.int .i64)) (.pair (.pair (.int .i64) (.int .i64)) (.pair (.int .i64) (.int .i64)))) (.pair (.pair (.int .i64) (.int .i64)) (.pair (.pair (.int .i64) (.int .i64)) (.pair (.int .i64) (.int .i64)))))) (.pair (.pair (.int .i64) (.int .i64)) (.pair (.pair (.int .i64) (.int .i64)) (.pair (.int .i64) (.int .i64))))] (fun _ => some ((fun r => (r, ())) pose_Identity)) :=
  fn_tot (t := fun (_ : Ar []) => t_pose_Identity ) (R := ((((Int × Int) × ((Int × Int) × (Int × Int))) × (((Int × Int) × ((Int × Int) × (Int × Int))) × ((Int × Int) × ((Int × Int) × (Int × Int))))) × ((Int × Int) × ((Int × Int) × (Int × Int))))) (Ts := [.pair (.pair (.pair (.pair (.int .i64) (.int .i64)) (.pair (.pair (.int .i64) (.int .i64)) (.pair (.int .i64) (.int .i64)))) (.pair (.pair (.pair (.int .i64) (.int .i64)) (.pair (.pair (.int .i64) (.int .i64)) (.pair (.int .i64) (.int .i64)))) (.pair (.pair (.int .i64) (.int .i64)) (.pair (.pair (.int .i64) (.int .i64)) (.pair (.int .i64) (.int .i64)))))) (.pair (.pair (.int .i64) (.int .i64)) (.pair (.pair (.int .i64) (.int .i64)) (.pair (.int .i64) (.int .i64))))]) (mk := (fun r => (r, ()))) (mkC_ok dtys_ok deqs_ok (fns_cons ok_matrix_Identity (fns_nil _)) (inl_nil _) noLoops_ok mixed) Tryz.func138 run_pose_Identity (fun _ => by kernel_rfl)
def hd_pose_Identity : Hd := dataHd [] [.pair (.pair (.pair (.pair (.int .i64) (.int .i64)) (.pair (.pair (.int .i64) (.int .i64)) (.pair (.int .i64) (.int .i64)))) (.pair (.pair (.pair (.int .i64) (.int .i64)) (.pair (.pair (.int .i64) (.int .i64)) (.pair (.int .i64) (.int .i64)))) (.pair (.pair (.int .i64) (.int .i64)) (.pair (.pair (.int .i64) (.int .i64)) (.pair (.int .i64) (.int .i64)))))) (.pair (.pair (.int .i64) (.int .i64)) (.pair (.pair (.int .i64) (.int .i64)) (.pair (.int .i64) (.int .i64))))] (fun _ => some ((fun r => (r, ())) pose_Identity))
theorem ok_pose_Identity : HdOk Tryz.prog 138 hd_pose_Identity.sem ∧ Enters Tryz.prog 138 := data_ok fn_pose_Identity Tryz.func138 (by kernel_rfl) (by kernel_rfl)

/- armplan/armplanref1.Rest -/
def t_armplanref1_Rest : Tr ((((Int × Int) × ((Int × Int) × (Int × Int))) × (((Int × Int) × ((Int × Int) × (Int × Int))) × ((Int × Int) × ((Int × Int) × (Int × Int))))) × ((Int × Int) × ((Int × Int) × (Int × Int)))) :=
  let r1 : (((Int × Int) × ((Int × Int) × (Int × Int))) × (((Int × Int) × ((Int × Int) × (Int × Int))) × ((Int × Int) × ((Int × Int) × (Int × Int))))) := armplanref1_Unit
  .leaf (r1, ((0, 0), ((0, 0), (0, 0))))
def armplanref1_Rest : ((((Int × Int) × ((Int × Int) × (Int × Int))) × (((Int × Int) × ((Int × Int) × (Int × Int))) × ((Int × Int) × ((Int × Int) × (Int × Int))))) × ((Int × Int) × ((Int × Int) × (Int × Int)))) := t_armplanref1_Rest.val
theorem run_armplanref1_Rest : ∀ x, runF (mkC dtys deqs [(108, hd_armplanref1_Unit)] [] noLoops) 200 88 Tryz.f88 (argsA [] x) [] (fun v h => toRes h [.pair (.pair (.pair (.pair (.int .i64) (.int .i64)) (.pair (.pair (.int .i64) (.int .i64)) (.pair (.int .i64) (.int .i64)))) (.pair (.pair (.pair (.int .i64) (.int .i64)) (.pair (.pair (.int .i64) (.int .i64)) (.pair (.int .i64) (.int .i64)))) (.pair (.pair (.int .i64) (.int .i64)) (.pair (.pair (.int .i64) (.int .i64)) (.pair (.int .i64) (.int .i64)))))) (.pair (.pair (.int .i64) (.int .i64)) (.pair (.pair (.int .i64) (.int .i64)) (.pair (.int .i64) (.int .i64))))] v) = (t_armplanref1_Rest ).optA (fun r => (r, ())) := by
  intro x; kernel_rfl
theorem fn_armplanref1_Rest : FnOk Tryz.prog 88 [] [.pair (.pair (.pair (.pair (.int .i64) (.int .i64)) (.pair (.pair (.int .i64) (.int .i64)) (.pair (.int .i64) (.int .i64)))) (.pair (.pair (.pair (.int .i64) (.int .i64)) (.pair (.pair (.int .i64) (.int .i64)) (.pair (.int .i64) (.int .i64)))) (.pair (.pair (.int .i64) (.int .i64)) (.pair (.pair (.int .i64) (.int .i64)) (.pair (.int .i64) (.int .i64)))))) (.pair (.pair (.int .i64) (.int .i64)) (.pair (.pair (.int .i64) (.int .i64)) (.pair (.int .i64) (.int .i64))))] (fun _ => some ((fun r => (r, ())) armplanref1_Rest)) :=
  fn_tot (t := fun (_ : Ar []) => t_armplanref1_Rest ) (R := ((((Int × Int) × ((Int × Int) × (Int × Int))) × (((Int × Int) × ((Int × Int) × (Int × Int))) × ((Int × Int) × ((Int × Int) × (Int × Int))))) × ((Int × Int) × ((Int × Int) × (Int × Int))))) (Ts := [.pair (.pair (.pair (.pair (.int .i64) (.int .i64)) (.pair (.pair (.int .i64) (.int .i64)) (.pair (.int .i64) (.int .i64)))) (.pair (.pair (.pair (.int .i64) (.int .i64)) (.pair (.pair (.int .i64) (.int .i64)) (.pair (.int .i64) (.int .i64)))) (.pair (.pair (.int .i64) (.int .i64)) (.pair (.pair (.int .i64) (.int .i64)) (.pair (.int .i64) (.int .i64)))))) (.pair (.pair (.int .i64) (.int .i64)) (.pair (.pair (.int .i64) (.int .i64)) (.pair (.int .i64) (.int .i64))))]) (mk := (fun r => (r, ()))) (mkC_ok dtys_ok deqs_ok (fns_cons ok_armplanref1_Unit (fns_nil _)) (inl_nil _) noLoops_ok mixed) Tryz.func88 run_armplanref1_Rest (fun _ => by kernel_rfl)
def hd_armplanref1_Rest : Hd := dataHd [] [.pair (.pair (.pair (.pair (.int .i64) (.int .i64)) (.pair (.pair (.int .i64) (.int .i64)) (.pair (.int .i64) (.int .i64)))) (.pair (.pair (.pair (.int .i64) (.int .i64)) (.pair (.pair (.int .i64) (.int .i64)) (.pair (.int .i64) (.int .i64)))) (.pair (.pair (.int .i64) (.int .i64)) (.pair (.pair (.int .i64) (.int .i64)) (.pair (.int .i64) (.int .i64)))))) (.pair (.pair (.int .i64) (.int .i64)) (.pair (.pair (.int .i64) (.int .i64)) (.pair (.int .i64) (.int .i64))))] (fun _ => some ((fun r => (r, ())) armplanref1_Rest))
theorem ok_armplanref1_Rest : HdOk Tryz.prog 88 hd_armplanref1_Rest.sem ∧ Enters Tryz.prog 88 := data_ok fn_armplanref1_Rest Tryz.func88 (by kernel_rfl) (by kernel_rfl)

/- armplan/armplanref1.Apply -/
def t_armplanref1_Apply (a0 : ((((Int × Int) × ((Int × Int) × (Int × Int))) × (((Int × Int) × ((Int × Int) × (Int × Int))) × ((Int × Int) × ((Int × Int) × (Int × Int))))) × ((Int × Int) × ((Int × Int) × (Int × Int))))) (a1 : ((Int × Int) × ((Int × Int) × (Int × Int)))) : Tr ((Int × Int) × ((Int × Int) × (Int × Int))) :=
  let r1 : ((Int × Int) × ((Int × Int) × (Int × Int))) := armplanref1_ApplyMat a0.1 a1
  let r2 : ((Int × Int) × ((Int × Int) × (Int × Int))) := armplanref1_AddVec a0.2 r1
  .leaf r2
def armplanref1_Apply (a0 : ((((Int × Int) × ((Int × Int) × (Int × Int))) × (((Int × Int) × ((Int × Int) × (Int × Int))) × ((Int × Int) × ((Int × Int) × (Int × Int))))) × ((Int × Int) × ((Int × Int) × (Int × Int))))) (a1 : ((Int × Int) × ((Int × Int) × (Int × Int)))) : ((Int × Int) × ((Int × Int) × (Int × Int))) := (t_armplanref1_Apply a0 a1).val
theorem run_armplanref1_Apply : ∀ x, runF (mkC dtys deqs [(42, hd_armplanref1_ApplyMat), (64, hd_armplanref1_AddVec)] [] noLoops) 200 41 Tryz.f41 (argsA [.pair (.pair (.pair (.pair (.int .i64) (.int .i64)) (.pair (.pair (.int .i64) (.int .i64)) (.pair (.int .i64) (.int .i64)))) (.pair (.pair (.pair (.int .i64) (.int .i64)) (.pair (.pair (.int .i64) (.int .i64)) (.pair (.int .i64) (.int .i64)))) (.pair (.pair (.int .i64) (.int .i64)) (.pair (.pair (.int .i64) (.int .i64)) (.pair (.int .i64) (.int .i64)))))) (.pair (.pair (.int .i64) (.int .i64)) (.pair (.pair (.int .i64) (.int .i64)) (.pair (.int .i64) (.int .i64)))), .pair (.pair (.int .i64) (.int .i64)) (.pair (.pair (.int .i64) (.int .i64)) (.pair (.int .i64) (.int .i64)))] x) [] (fun v h => toRes h [.pair (.pair (.int .i64) (.int .i64)) (.pair (.pair (.int .i64) (.int .i64)) (.pair (.int .i64) (.int .i64)))] v) = (t_armplanref1_Apply x.1 x.2.1).optA (fun r => (r, ())) := by
  intro x; kernel_rfl
theorem fn_armplanref1_Apply : FnOk Tryz.prog 41 [.pair (.pair (.pair (.pair (.int .i64) (.int .i64)) (.pair (.pair (.int .i64) (.int .i64)) (.pair (.int .i64) (.int .i64)))) (.pair (.pair (.pair (.int .i64) (.int .i64)) (.pair (.pair (.int .i64) (.int .i64)) (.pair (.int .i64) (.int .i64)))) (.pair (.pair (.int .i64) (.int .i64)) (.pair (.pair (.int .i64) (.int .i64)) (.pair (.int .i64) (.int .i64)))))) (.pair (.pair (.int .i64) (.int .i64)) (.pair (.pair (.int .i64) (.int .i64)) (.pair (.int .i64) (.int .i64)))), .pair (.pair (.int .i64) (.int .i64)) (.pair (.pair (.int .i64) (.int .i64)) (.pair (.int .i64) (.int .i64)))] [.pair (.pair (.int .i64) (.int .i64)) (.pair (.pair (.int .i64) (.int .i64)) (.pair (.int .i64) (.int .i64)))] (fun x => some ((fun r => (r, ())) (armplanref1_Apply x.1 x.2.1))) :=
  fn_tot (t := fun (x : Ar [.pair (.pair (.pair (.pair (.int .i64) (.int .i64)) (.pair (.pair (.int .i64) (.int .i64)) (.pair (.int .i64) (.int .i64)))) (.pair (.pair (.pair (.int .i64) (.int .i64)) (.pair (.pair (.int .i64) (.int .i64)) (.pair (.int .i64) (.int .i64)))) (.pair (.pair (.int .i64) (.int .i64)) (.pair (.pair (.int .i64) (.int .i64)) (.pair (.int .i64) (.int .i64)))))) (.pair (.pair (.int .i64) (.int .i64)) (.pair (.pair (.int .i64) (.int .i64)) (.pair (.int .i64) (.int .i64)))), .pair (.pair (.int .i64) (.int .i64)) (.pair (.pair (.int .i64) (.int .i64)) (.pair (.int .i64) (.int .i64)))]) => t_armplanref1_Apply x.1 x.2.1) (R := ((Int × Int) × ((Int × Int) × (Int × Int)))) (Ts := [.pair (.pair (.int .i64) (.int .i64)) (.pair (.pair (.int .i64) (.int .i64)) (.pair (.int .i64) (.int .i64)))]) (mk := (fun r => (r, ()))) (mkC_ok dtys_ok deqs_ok (fns_cons ok_armplanref1_ApplyMat (fns_cons ok_armplanref1_AddVec (fns_nil _))) (inl_nil _) noLoops_ok mixed) Tryz.func41 run_armplanref1_Apply (fun _ => by kernel_rfl)
def hd_armplanref1_Apply : Hd := dataHd [.pair (.pair (.pair (.pair (.int .i64) (.int .i64)) (.pair (.pair (.int .i64) (.int .i64)) (.pair (.int .i64) (.int .i64)))) (.pair (.pair (.pair (.int .i64) (.int .i64)) (.pair (.pair (.int .i64) (.int .i64)) (.pair (.int .i64) (.int .i64)))) (.pair (.pair (.int .i64) (.int .i64)) (.pair (.pair (.int .i64) (.int .i64)) (.pair (.int .i64) (.int .i64)))))) (.pair (.pair (.int .i64) (.int .i64)) (.pair (.pair (.int .i64) (.int .i64)) (.pair (.int .i64) (.int .i64)))), .pair (.pair (.int .i64) (.int .i64)) (.pair (.pair (.int .i64) (.int .i64)) (.pair (.int .i64) (.int .i64)))] [.pair (.pair (.int .i64) (.int .i64)) (.pair (.pair (.int .i64) (.int .i64)) (.pair (.int .i64) (.int .i64)))] (fun x => some ((fun r => (r, ())) (armplanref1_Apply x.1 x.2.1)))
theorem ok_armplanref1_Apply : HdOk Tryz.prog 41 hd_armplanref1_Apply.sem ∧ Enters Tryz.prog 41 := data_ok fn_armplanref1_Apply Tryz.func41 (by kernel_rfl) (by kernel_rfl)

end Go.RX

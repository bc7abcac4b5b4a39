/-
  The contracts of functions.
-/
import Derived.Test.YtkekddbdbfdjeaaGreatG4
namespace Go.RX
open Go.Proofs

def htys : List (Nat × TRow) := [(2, ⟨.int .i64, 1, 8, [.int .i64 0], .int .i64⟩),
  (3, ⟨.int .i64, 1, 8, [.int .i64 0], .int .i64⟩),
  (22, ⟨.slice 80, 1, 24, [.slice none 0 0], .list (TJoint)⟩),
  (25, ⟨.struct [(0, 1), (1, 1)], 2, 48, [.slice none 0 0, .slice none 0 0], TRobot⟩),
  (26, ⟨.slice 54, 1, 24, [.slice none 0 0], .list (TShape)⟩),
  (29, ⟨.struct [(0, 2), (2, 1), (3, 1)], 4, 96, [.slice none 0 0, .slice none 0 0, .slice none 0 0, .slice none 0 0], TScene⟩),
  (30, ⟨.slice 44, 1, 24, [.slice none 0 0], .list (.pair (.int .i64) (.int .i64))⟩),
  (38, ⟨.slice 50, 1, 24, [.slice none 0 0], .list (TPose)⟩),
  (40, ⟨.slice 51, 1, 24, [.slice none 0 0], .list (.list (TIVec))⟩),
  (44, ⟨.struct [(0, 1), (1, 1)], 2, 16, [.int .i64 0, .int .i64 0], .pair (.int .i64) (.int .i64)⟩),
  (48, ⟨.arr 3 44, 6, 48, [.int .i64 0, .int .i64 0, .int .i64 0, .int .i64 0, .int .i64 0, .int .i64 0], TIVec⟩),
  (50, ⟨.struct [(0, 18), (18, 6)], 24, 192, [.int .i64 0, .int .i64 0, .int .i64 0, .int .i64 0, .int .i64 0, .int .i64 0, .int .i64 0, .int .i64 0, .int .i64 0, .int .i64 0, .int .i64 0, .int .i64 0, .int .i64 0, .int .i64 0, .int .i64 0, .int .i64 0, .int .i64 0, .int .i64 0, .int .i64 0, .int .i64 0, .int .i64 0, .int .i64 0, .int .i64 0, .int .i64 0], TPose⟩),
  (51, ⟨.slice 48, 1, 24, [.slice none 0 0], .list (TIVec)⟩),
  (52, ⟨.slice 66, 1, 24, [.slice none 0 0], .list (TVec)⟩),
  (54, ⟨.struct [(0, 1), (1, 1), (2, 1)], 3, 40, [.int .i64 0, .int .i64 0, .slice none 0 0], TShape⟩),
  (60, ⟨.slice 2, 1, 24, [.slice none 0 0], .list (.int .i64)⟩),
  (66, ⟨.arr 3 2, 3, 24, [.int .i64 0, .int .i64 0, .int .i64 0], TVec⟩),
  (80, ⟨.struct [(0, 1), (1, 1), (2, 1), (3, 3), (6, 1), (7, 1), (8, 1), (9, 1), (10, 1), (11, 1)], 12, 104, [.string (ByteArray.mk #[]), .int .i64 0, .int .i64 0, .int .i64 0, .int .i64 0, .int .i64 0, .int .i64 0, .int .i64 0, .int .i64 0, .int .i64 0, .int .i64 0, .int .i64 0], TJoint⟩),
  (91, ⟨.struct [(0, 2), (2, 1), (3, 1)], 4, 96, [.slice none 0 0, .slice none 0 0, .slice none 0 0, .slice none 0 0], TTree⟩)]
def heqs : List (Nat × (Bool × List TK)) := []
theorem htys_ok : tableOk Tryz.prog htys = true := by kernel_rfl
theorem heqs_ok : eqsOk Tryz.prog heqs = true := by kernel_rfl

/- armplan/kinematics.isBox$1 -/
def t_kinematics_isBox_1 (a0 : (Int × Int)) : Tr Bool :=
  let r1 : Bool := interval_Valid a0
  .leaf (!r1)
def kinematics_isBox_1 (a0 : (Int × Int)) : Bool := (t_kinematics_isBox_1 a0).val
theorem run_kinematics_isBox_1 : ∀ x, runF (mkC htys heqs [(72, hd_interval_Valid)] [] noLoops) 200 71 Tryz.f71 (argsA [.pair (.int .i64) (.int .i64)] x) [] (fun v h => toRes h [.bool] v) = (t_kinematics_isBox_1 x.1).optA (fun r => (r, ())) := by
  intro x; kernel_rfl
theorem fn_kinematics_isBox_1 : FnOk Tryz.prog 71 [.pair (.int .i64) (.int .i64)] [.bool] (fun x => some ((fun r => (r, ())) (kinematics_isBox_1 x.1))) :=
  fn_tot (t := fun (x : Ar [.pair (.int .i64) (.int .i64)]) => t_kinematics_isBox_1 x.1) (R := Bool) (Ts := [.bool]) (mk := (fun r => (r, ()))) (mkC_ok htys_ok heqs_ok (fns_cons ok_interval_Valid (fns_nil _)) (inl_nil _) noLoops_ok mixed) Tryz.func71 run_kinematics_isBox_1 (fun _ => by kernel_rfl)
def hd_kinematics_isBox_1 : Hd := dataHd [.pair (.int .i64) (.int .i64)] [.bool] (fun x => some ((fun r => (r, ())) (kinematics_isBox_1 x.1)))
theorem ok_kinematics_isBox_1 : HdOk Tryz.prog 71 hd_kinematics_isBox_1.sem ∧ Enters Tryz.prog 71 := data_ok fn_kinematics_isBox_1 Tryz.func71 (by kernel_rfl) (by kernel_rfl)

/- loop 0 of slices.IndexFunc[[]armplan/api.Interval,armplan/api.Interval] -/
abbrev ss_kinematics_isBox_slices_IndexFunc___api_Interval_api_Interval__L0 : List Slot := [⟨[0], false, false, [.d (.list (.pair (.int .i64) (.int .i64)))]⟩, ⟨[7], false, false, [.d (.int .i64)]⟩, ⟨[8], false, false, [.d (.int .i64)]⟩]
abbrev os_kinematics_isBox_slices_IndexFunc___api_Interval_api_Interval__L0 : List (Exit × List Slot) := [(.exit 0, []), (.ret, [⟨[4], false, false, [.d (.int .i64)]⟩])]
def t_kinematics_isBox_slices_IndexFunc___api_Interval_api_Interval__L0 (a0 : List ((Int × Int))) (a1 : Int) (a2 : Int) : Tr (Sl ss_kinematics_isBox_slices_IndexFunc___api_Interval_api_Interval__L0 ⊕ Outs os_kinematics_isBox_slices_IndexFunc___api_Interval_api_Interval__L0) :=
  let x1 : Bool := decide (a2 < a1)
  .br (x1) (
   .br (decide (0 ≤ a2) && decide (a2 < ((a0.length : Nat) : Int))) (
    let r2 : Bool := kinematics_isBox_1 (List.getD a0 a2.toNat (Ty.dflt (.pair (.int .i64) (.int .i64))))
    .br (r2) (
     .leaf (.inr (.inr ((a2, ()), ())))) (
     let x3 : Int := IntKind.wrap .i64 (a2 + 1)
     .leaf (.inl ((a0, ()), (a1, ()), (x3, ()), ())))) .fail) (
   .leaf (.inr (.inl ())))
def step_kinematics_isBox_slices_IndexFunc___api_Interval_api_Interval__L0 : Sl ss_kinematics_isBox_slices_IndexFunc___api_Interval_api_Interval__L0 → Option (Sl ss_kinematics_isBox_slices_IndexFunc___api_Interval_api_Interval__L0 ⊕ Outs os_kinematics_isBox_slices_IndexFunc___api_Interval_api_Interval__L0) := fun x => (t_kinematics_isBox_slices_IndexFunc___api_Interval_api_Interval__L0 x.1.1 x.2.1.1 x.2.2.1.1).optA id
theorem run_kinematics_isBox_slices_IndexFunc___api_Interval_api_Interval__L0 : ∀ (x : Sl ss_kinematics_isBox_slices_IndexFunc___api_Interval_api_Interval__L0) (vs : Nat → Value), run (mkC htys heqs [(71, hd_kinematics_isBox_1)] [] noLoops) 200 103 (loopBody 0 (Tryz.f103.body.getD .skip)) (mkSt ss_kinematics_isBox_slices_IndexFunc___api_Interval_api_Interval__L0 x (baseT 19 [1] [(1, ⟨71, [], []⟩)] vs)) (endK ss_kinematics_isBox_slices_IndexFunc___api_Interval_api_Interval__L0 os_kinematics_isBox_slices_IndexFunc___api_Interval_api_Interval__L0 19 [1]) = (t_kinematics_isBox_slices_IndexFunc___api_Interval_api_Interval__L0 x.1.1 x.2.1.1 x.2.2.1.1).optA fun r => (r, [1].map (keptA [(1, ⟨71, [], []⟩)] vs)) := by
  intro x vs; kernel_rfl
instance inh_kinematics_isBox_slices_IndexFunc___api_Interval_api_Interval__L0 : Inhabited (Outs os_kinematics_isBox_slices_IndexFunc___api_Interval_api_Interval__L0) := ⟨outsDflt os_kinematics_isBox_slices_IndexFunc___api_Interval_api_Interval__L0⟩
def dom_kinematics_isBox_slices_IndexFunc___api_Interval_api_Interval__L0 (x : Sl ss_kinematics_isBox_slices_IndexFunc___api_Interval_api_Interval__L0) : Bool := (loopN step_kinematics_isBox_slices_IndexFunc___api_Interval_api_Interval__L0 rounds x).isSome
def val_kinematics_isBox_slices_IndexFunc___api_Interval_api_Interval__L0 (x : Sl ss_kinematics_isBox_slices_IndexFunc___api_Interval_api_Interval__L0) : Outs os_kinematics_isBox_slices_IndexFunc___api_Interval_api_Interval__L0 := (loopN step_kinematics_isBox_slices_IndexFunc___api_Interval_api_Interval__L0 rounds x).getD default
def loop_kinematics_isBox_slices_IndexFunc___api_Interval_api_Interval__L0 : LoopD := mkLoop ss_kinematics_isBox_slices_IndexFunc___api_Interval_api_Interval__L0 os_kinematics_isBox_slices_IndexFunc___api_Interval_api_Interval__L0 19 [1] [(1, ⟨71, [], []⟩)] step_kinematics_isBox_slices_IndexFunc___api_Interval_api_Interval__L0 dom_kinematics_isBox_slices_IndexFunc___api_Interval_api_Interval__L0 val_kinematics_isBox_slices_IndexFunc___api_Interval_api_Interval__L0 (loop_hv step_kinematics_isBox_slices_IndexFunc___api_Interval_api_Interval__L0)
theorem lok_kinematics_isBox_slices_IndexFunc___api_Interval_api_Interval__L0 : LoopOk Tryz.prog (loopLH loop_kinematics_isBox_slices_IndexFunc___api_Interval_api_Interval__L0 0) 0 (.loop (loopBody 0 (Tryz.f103.body.getD .skip))) := loop_in (D := loop_kinematics_isBox_slices_IndexFunc___api_Interval_api_Interval__L0) (n := 200) (cur := 103) (mkC_ok htys_ok heqs_ok (fns_cons ok_kinematics_isBox_1 (fns_nil _)) (inl_nil _) noLoops_ok mixed) Tryz.func103 (by kernel_rfl) (turns_of run_kinematics_isBox_slices_IndexFunc___api_Interval_api_Interval__L0) (by kernel_rfl) (by kernel_rfl) (by kernel_rfl)

/- armplan/kinematics.isBox -/
def t_kinematics_isBox (a0 : DRobot) (a1 : List ((Int × Int))) : Tr Bool :=
  let x1 : Bool := decide (((a1.length : Nat) : Int) = ((a0.1.length : Nat) : Int))
  .br (x1) (
   let r2 : Outs os_kinematics_isBox_slices_IndexFunc___api_Interval_api_Interval__L0 := val_kinematics_isBox_slices_IndexFunc___api_Interval_api_Interval__L0 ((a1, ()), (((a1.length : Nat) : Int), ()), (0, ()), ())
   .br (dom_kinematics_isBox_slices_IndexFunc___api_Interval_api_Interval__L0 ((a1, ()), (((a1.length : Nat) : Int), ()), (0, ()), ())) (
    let r3 := getL r2
    let r4 := getR r2
    .br (isL r2) (
     .leaf true) (
     let y5 : Int := r4.1.1
     let x6 : Bool := decide (0 ≤ y5)
     .leaf (!x6))) .fail) (
   .leaf false)
def kinematics_isBox (a0 : DRobot) (a1 : List ((Int × Int))) : Bool := (t_kinematics_isBox a0 a1).val
def dom_kinematics_isBox (a0 : DRobot) (a1 : List ((Int × Int))) : Bool := (t_kinematics_isBox a0 a1).dom
theorem run_kinematics_isBox : ∀ x, runF (mkC htys heqs [] [(70, Tryz.f70), (103, Tryz.f103)] (lpOne 103 0 (loopLH loop_kinematics_isBox_slices_IndexFunc___api_Interval_api_Interval__L0 0) noLoops)) 200 38 Tryz.f38 (argsA [TRobot, .list (.pair (.int .i64) (.int .i64))] x) [] (fun v h => toRes h [.bool] v) = (t_kinematics_isBox x.1 x.2.1).optA (fun r => (r, ())) := by
  intro x; kernel_rfl
theorem fn_kinematics_isBox : FnOk Tryz.prog 38 [TRobot, .list (.pair (.int .i64) (.int .i64))] [.bool] (fun x => bif dom_kinematics_isBox x.1 x.2.1 then some ((fun r => (r, ())) (kinematics_isBox x.1 x.2.1)) else none) :=
  fn_part (t := fun (x : Ar [TRobot, .list (.pair (.int .i64) (.int .i64))]) => t_kinematics_isBox x.1 x.2.1) (R := Bool) (Ts := [.bool]) (mk := (fun r => (r, ()))) (mkC_ok htys_ok heqs_ok (fns_nil _) (inl_cons Tryz.func70 (by kernel_rfl) (inl_cons Tryz.func103 (by kernel_rfl) (inl_nil _))) (lpOne_ok (b := loopBody 0 (Tryz.f103.body.getD .skip)) Tryz.func103 (by kernel_rfl) lok_kinematics_isBox_slices_IndexFunc___api_Interval_api_Interval__L0 noLoops_ok) mixed) Tryz.func38 run_kinematics_isBox
def hd_kinematics_isBox : Hd := guardHd [TRobot, .list (.pair (.int .i64) (.int .i64))] [.bool] (fun x => dom_kinematics_isBox x.1 x.2.1) (fun x => (fun r => (r, ())) (kinematics_isBox x.1 x.2.1))
theorem ok_kinematics_isBox : HdOk Tryz.prog 38 hd_kinematics_isBox.sem ∧ Enters Tryz.prog 38 := guard_ok fn_kinematics_isBox Tryz.func38 (by kernel_rfl) (by kernel_rfl)

/- (*armplan/kinematics.tree).add -/
def t_kinematics_tree_add (a0 : DRobot) (a1 : List ((Int × Int))) (a2 : List (DPose)) : Tr (DRobot × List ((Int × Int)) × List (DPose)) :=
  .br (decide (0 ≤ ((a2.length : Nat) : Int)) && decide (((a2.length : Nat) : Int) < ((a0.1.length : Nat) : Int))) (
   .br (decide (0 ≤ ((a2.length : Nat) : Int)) && decide (((a2.length : Nat) : Int) < ((a1.length : Nat) : Int))) (
    let r1 : DPose := kinematics_Joint (List.getD a0.1 (((a2.length : Nat) : Int)).toNat (Ty.dflt (TJoint))) (List.getD a1 (((a2.length : Nat) : Int)).toNat (Ty.dflt (.pair (.int .i64) (.int .i64))))
    .br (dom_kinematics_Joint (List.getD a0.1 (((a2.length : Nat) : Int)).toNat (Ty.dflt (TJoint))) (List.getD a1 (((a2.length : Nat) : Int)).toNat (Ty.dflt (.pair (.int .i64) (.int .i64))))) (
     let x2 : Bool := !decide (((((List.getD a0.1 (((a2.length : Nat) : Int)).toNat (Ty.dflt (TJoint)))).2).2).1 = (-1))
     .br (x2) (
      .br (decide (0 ≤ ((((List.getD a0.1 (((a2.length : Nat) : Int)).toNat (Ty.dflt (TJoint)))).2).2).1) && decide (((((List.getD a0.1 (((a2.length : Nat) : Int)).toNat (Ty.dflt (TJoint)))).2).2).1 < ((a2.length : Nat) : Int))) (
       let r3 : DPose := pose_Compose (List.getD a2 (((((List.getD a0.1 (((a2.length : Nat) : Int)).toNat (Ty.dflt (TJoint)))).2).2).1).toNat (Ty.dflt (TPose))) r1
       .br (room (a2.length + [r3].length)) (
        .leaf (a0, a1, (a2 ++ [r3]))) .fail) .fail) (
      .br (room (a2.length + [r1].length)) (
       .leaf (a0, a1, (a2 ++ [r1]))) .fail)) .fail) .fail) .fail
def kinematics_tree_add (a0 : DRobot) (a1 : List ((Int × Int))) (a2 : List (DPose)) : (DRobot × List ((Int × Int)) × List (DPose)) := (t_kinematics_tree_add a0 a1 a2).val
def dom_kinematics_tree_add (a0 : DRobot) (a1 : List ((Int × Int))) (a2 : List (DPose)) : Bool := (t_kinematics_tree_add a0 a1 a2).dom
theorem run_kinematics_tree_add : ∀ x, runF (mkC htys heqs [(29, hd_kinematics_Joint), (53, hd_pose_Compose)] [] noLoops) 200 39 Tryz.f39 (mkT id [⟨[0], true, false, [.d (TRobot), .d (.list (.pair (.int .i64) (.int .i64))), .v 50 (TPose)]⟩] x 0 (List.replicate 1 .top)) (mkH id [⟨[0], true, false, [.d (TRobot), .d (.list (.pair (.int .i64) (.int .i64))), .v 50 (TPose)]⟩] x 0) (endS [] [⟨[], true, false, [.d (TRobot), .d (.list (.pair (.int .i64) (.int .i64))), .v 50 (TPose)]⟩]) = (t_kinematics_tree_add x.1.1 x.1.2.1 x.1.2.2.1).optA (fun (r : (DRobot × List ((Int × Int)) × List (DPose))) => ((), ((r.1, r.2.1, r.2.2, ()), ()))) := by
  intro x; kernel_rfl
def hd_kinematics_tree_add : Hd := hdS 1 [⟨[0], true, false, [.d (TRobot), .d (.list (.pair (.int .i64) (.int .i64))), .v 50 (TPose)]⟩] [⟨[], true, false, [.d (TRobot), .d (.list (.pair (.int .i64) (.int .i64))), .v 50 (TPose)]⟩] [] (fun x => dom_kinematics_tree_add x.1.1 x.1.2.1 x.1.2.2.1) (fun x => (fun (r : (DRobot × List ((Int × Int)) × List (DPose))) => ((), ((r.1, r.2.1, r.2.2, ()), ()))) (kinematics_tree_add x.1.1 x.1.2.1 x.1.2.2.1)) (by kernel_rfl)
theorem fn_kinematics_tree_add : FnS Tryz.prog 39 1 [⟨[0], true, false, [.d (TRobot), .d (.list (.pair (.int .i64) (.int .i64))), .v 50 (TPose)]⟩] [⟨[], true, false, [.d (TRobot), .d (.list (.pair (.int .i64) (.int .i64))), .v 50 (TPose)]⟩] [] (fun x => bif (fun x => dom_kinematics_tree_add x.1.1 x.1.2.1 x.1.2.2.1) x then some ((fun x => (fun (r : (DRobot × List ((Int × Int)) × List (DPose))) => ((), ((r.1, r.2.1, r.2.2, ()), ()))) (kinematics_tree_add x.1.1 x.1.2.1 x.1.2.2.1)) x) else none) :=
  fnS_tree (np := 1) (ss := [⟨[0], true, false, [.d (TRobot), .d (.list (.pair (.int .i64) (.int .i64))), .v 50 (TPose)]⟩]) (ss1 := [⟨[], true, false, [.d (TRobot), .d (.list (.pair (.int .i64) (.int .i64))), .v 50 (TPose)]⟩]) (Ts := []) (R := (DRobot × List ((Int × Int)) × List (DPose))) (dom := fun x => dom_kinematics_tree_add x.1.1 x.1.2.1 x.1.2.2.1) (t := fun (x : Sl [⟨[0], true, false, [.d (TRobot), .d (.list (.pair (.int .i64) (.int .i64))), .v 50 (TPose)]⟩]) => t_kinematics_tree_add x.1.1 x.1.2.1 x.1.2.2.1) (mk := (fun (r : (DRobot × List ((Int × Int)) × List (DPose))) => ((), ((r.1, r.2.1, r.2.2, ()), ())))) (mkC_ok htys_ok heqs_ok (fns_cons ok_kinematics_Joint (fns_cons ok_pose_Compose (fns_nil _))) (inl_nil _) noLoops_ok mixed) Tryz.func39 (by kernel_rfl) run_kinematics_tree_add (fun _ => .inr rfl)
theorem ok_kinematics_tree_add : HdOk Tryz.prog 39 hd_kinematics_tree_add.sem ∧ Enters Tryz.prog 39 := ⟨hdS_ok (by kernel_rfl) fn_kinematics_tree_add, _, Tryz.func39, by kernel_rfl, by kernel_rfl⟩

/- loop 0 of armplan/kinematics.Links -/
abbrev ss_kinematics_Links_L0 : List Slot := [⟨[5], true, false, [.d (TRobot), .d (.list (.pair (.int .i64) (.int .i64))), .v 50 (TPose)]⟩, ⟨[22], false, false, [.d (.int .i64)]⟩, ⟨[23], false, false, [.d (.int .i64)]⟩]
abbrev os_kinematics_Links_L0 : List (Exit × List Slot) := [(.exit 0, [⟨[5], true, false, [.d (TRobot), .d (.list (.pair (.int .i64) (.int .i64))), .v 50 (TPose)]⟩])]
def t_kinematics_Links_L0 (a0 : DRobot) (a1 : List ((Int × Int))) (a2 : List (DPose)) (a3 : Int) (a4 : Int) : Tr (Sl ss_kinematics_Links_L0 ⊕ Outs os_kinematics_Links_L0) :=
  let x1 : Bool := decide (a4 < a3)
  .br (x1) (
   let r2 : (DRobot × List ((Int × Int)) × List (DPose)) := kinematics_tree_add a0 a1 a2
   .br (dom_kinematics_tree_add a0 a1 a2) (
    let x3 : Int := IntKind.wrap .i64 (a4 + 1)
    .leaf (.inl ((r2.1, r2.2.1, r2.2.2, ()), (a3, ()), (x3, ()), ()))) .fail) (
   .leaf (.inr ((a0, a1, a2, ()), ())))
def step_kinematics_Links_L0 : Sl ss_kinematics_Links_L0 → Option (Sl ss_kinematics_Links_L0 ⊕ Outs os_kinematics_Links_L0) := fun x => (t_kinematics_Links_L0 x.1.1 x.1.2.1 x.1.2.2.1 x.2.1.1 x.2.2.1.1).optA id
theorem run_kinematics_Links_L0 : ∀ (x : Sl ss_kinematics_Links_L0) (vs : Nat → Value), run (mkC htys heqs [(39, hd_kinematics_tree_add)] [] noLoops) 200 12 (loopBody 0 (Tryz.f12.body.getD .skip)) (mkSt ss_kinematics_Links_L0 x (baseT 30 [6] [(6, ⟨39, [0], []⟩)] vs)) (endK ss_kinematics_Links_L0 os_kinematics_Links_L0 30 [6]) = (t_kinematics_Links_L0 x.1.1 x.1.2.1 x.1.2.2.1 x.2.1.1 x.2.2.1.1).optA fun r => (r, [6].map (keptA [(6, ⟨39, [0], []⟩)] vs)) := by
  intro x vs; kernel_rfl
instance inh_kinematics_Links_L0 : Inhabited (Outs os_kinematics_Links_L0) := ⟨outsDflt os_kinematics_Links_L0⟩
def dom_kinematics_Links_L0 (x : Sl ss_kinematics_Links_L0) : Bool := (loopN step_kinematics_Links_L0 rounds x).isSome
def val_kinematics_Links_L0 (x : Sl ss_kinematics_Links_L0) : Outs os_kinematics_Links_L0 := (loopN step_kinematics_Links_L0 rounds x).getD default
def loop_kinematics_Links_L0 : LoopD := mkLoop ss_kinematics_Links_L0 os_kinematics_Links_L0 30 [6] [(6, ⟨39, [0], []⟩)] step_kinematics_Links_L0 dom_kinematics_Links_L0 val_kinematics_Links_L0 (loop_hv step_kinematics_Links_L0)
theorem lok_kinematics_Links_L0 : LoopOk Tryz.prog (loopLH loop_kinematics_Links_L0 0) 0 (.loop (loopBody 0 (Tryz.f12.body.getD .skip))) := loop_in (D := loop_kinematics_Links_L0) (n := 200) (cur := 12) (mkC_ok htys_ok heqs_ok (fns_cons ok_kinematics_tree_add (fns_nil _)) (inl_nil _) noLoops_ok mixed) Tryz.func12 (by kernel_rfl) (turns_of run_kinematics_Links_L0) (by kernel_rfl) (by kernel_rfl) (by kernel_rfl)

/- armplan/kinematics.Links -/
def t_kinematics_Links (a0 : DRobot) (a1 : List ((Int × Int))) : Tr (List (DPose)) :=
  let r1 : Int := robot_Check a0
  .br (dom_robot_Check a0) (
   let x2 : Bool := !decide (r1 = 0)
   .br (x2) (
    .leaf []) (
    let r3 : Bool := kinematics_isBox a0 a1
    .br (dom_kinematics_isBox a0 a1) (
     .br ((!r3)) (
      .leaf []) (
      let r4 : Outs os_kinematics_Links_L0 := val_kinematics_Links_L0 ((a0, a1, [], ()), (((a0.1.length : Nat) : Int), ()), (0, ()), ())
      .br (dom_kinematics_Links_L0 ((a0, a1, [], ()), (((a0.1.length : Nat) : Int), ()), (0, ()), ())) (
       let y5 : DRobot := r4.1.1
       let y6 : List ((Int × Int)) := r4.1.2.1
       let y7 : List (DPose) := r4.1.2.2.1
       .leaf y7) .fail)) .fail)) .fail
def kinematics_Links (a0 : DRobot) (a1 : List ((Int × Int))) : List (DPose) := (t_kinematics_Links a0 a1).val
def dom_kinematics_Links (a0 : DRobot) (a1 : List ((Int × Int))) : Bool := (t_kinematics_Links a0 a1).dom
theorem run_kinematics_Links : ∀ x, runF (mkC htys heqs [(37, hd_robot_Check), (38, hd_kinematics_isBox)] [] (lpOne 12 0 (loopLH loop_kinematics_Links_L0 0) noLoops)) 200 12 Tryz.f12 (argsA [TRobot, .list (.pair (.int .i64) (.int .i64))] x) [] (fun v h => toRes h [.list (TPose)] v) = (t_kinematics_Links x.1 x.2.1).optA (fun r => (r, ())) := by
  intro x; kernel_rfl
theorem fn_kinematics_Links : FnOk Tryz.prog 12 [TRobot, .list (.pair (.int .i64) (.int .i64))] [.list (TPose)] (fun x => bif dom_kinematics_Links x.1 x.2.1 then some ((fun r => (r, ())) (kinematics_Links x.1 x.2.1)) else none) :=
  fn_part (t := fun (x : Ar [TRobot, .list (.pair (.int .i64) (.int .i64))]) => t_kinematics_Links x.1 x.2.1) (R := List (DPose)) (Ts := [.list (TPose)]) (mk := (fun r => (r, ()))) (mkC_ok htys_ok heqs_ok (fns_cons ok_robot_Check (fns_cons ok_kinematics_isBox (fns_nil _))) (inl_nil _) (lpOne_ok (b := loopBody 0 (Tryz.f12.body.getD .skip)) Tryz.func12 (by kernel_rfl) lok_kinematics_Links_L0 noLoops_ok) mixed) Tryz.func12 run_kinematics_Links
def hd_kinematics_Links : Hd := guardHd [TRobot, .list (.pair (.int .i64) (.int .i64))] [.list (TPose)] (fun x => dom_kinematics_Links x.1 x.2.1) (fun x => (fun r => (r, ())) (kinematics_Links x.1 x.2.1))
theorem ok_kinematics_Links : HdOk Tryz.prog 12 hd_kinematics_Links.sem ∧ Enters Tryz.prog 12 := guard_ok fn_kinematics_Links Tryz.func12 (by kernel_rfl) (by kernel_rfl)

/- armplan/shape.long$1 -/
def t_shape_long_1 (a0 : Int) : Tr Bool :=
  let x1 : Bool := decide (a0 < (-4194304))
  .br (x1) (
   .leaf true) (
   let x2 : Bool := decide (4194304 < a0)
   .leaf x2)
def shape_long_1 (a0 : Int) : Bool := (t_shape_long_1 a0).val
theorem run_shape_long_1 : ∀ x, runF (mkC htys heqs [] [] noLoops) 200 123 Tryz.f123 (argsA [.int .i64] x) [] (fun v h => toRes h [.bool] v) = (t_shape_long_1 x.1).optA (fun r => (r, ())) := by
  intro x; kernel_rfl
theorem fn_shape_long_1 : FnOk Tryz.prog 123 [.int .i64] [.bool] (fun x => some ((fun r => (r, ())) (shape_long_1 x.1))) :=
  fn_tot (t := fun (x : Ar [.int .i64]) => t_shape_long_1 x.1) (R := Bool) (Ts := [.bool]) (mk := (fun r => (r, ()))) (mkC_ok htys_ok heqs_ok (fns_nil _) (inl_nil _) noLoops_ok mixed) Tryz.func123 run_shape_long_1 (fun _ => by kernel_rfl)
def hd_shape_long_1 : Hd := dataHd [.int .i64] [.bool] (fun x => some ((fun r => (r, ())) (shape_long_1 x.1)))
theorem ok_shape_long_1 : HdOk Tryz.prog 123 hd_shape_long_1.sem ∧ Enters Tryz.prog 123 := data_ok fn_shape_long_1 Tryz.func123 (by kernel_rfl) (by kernel_rfl)

/- armplan/shape.long -/
def t_shape_long (a0 : DVec) : Tr Bool :=
  let r1 : Bool := shape_long_1 a0.1
  .br (r1) (
   .leaf true) (
   let r2 : Bool := shape_long_1 a0.2.1
   .br (r2) (
    .leaf true) (
    let r3 : Bool := shape_long_1 a0.2.2
    .br (r3) (
     .leaf true) (
     .leaf false)))
def shape_long (a0 : DVec) : Bool := (t_shape_long a0).val
theorem run_shape_long : ∀ x, runF (mkC htys heqs [(123, hd_shape_long_1)] [(105, Tryz.f105), (122, Tryz.f122)] noLoops) 200 108 Tryz.f108 (argsA [TVec] x) [] (fun v h => toRes h [.bool] v) = (t_shape_long x.1).optA (fun r => (r, ())) := by
  intro x; kernel_rfl
theorem fn_shape_long : FnOk Tryz.prog 108 [TVec] [.bool] (fun x => some ((fun r => (r, ())) (shape_long x.1))) :=
  fn_tot (t := fun (x : Ar [TVec]) => t_shape_long x.1) (R := Bool) (Ts := [.bool]) (mk := (fun r => (r, ()))) (mkC_ok htys_ok heqs_ok (fns_cons ok_shape_long_1 (fns_nil _)) (inl_cons Tryz.func105 (by kernel_rfl) (inl_cons Tryz.func122 (by kernel_rfl) (inl_nil _))) noLoops_ok mixed) Tryz.func108 run_shape_long (fun _ => by kernel_rfl)
def hd_shape_long : Hd := dataHd [TVec] [.bool] (fun x => some ((fun r => (r, ())) (shape_long x.1)))
theorem ok_shape_long : HdOk Tryz.prog 108 hd_shape_long.sem ∧ Enters Tryz.prog 108 := data_ok fn_shape_long Tryz.func108 (by kernel_rfl) (by kernel_rfl)

/- loop 0 of slices.IndexFunc[[]armplan/api.Vec,armplan/api.Vec] -/
abbrev ss_shape_Check_slices_IndexFunc___api_Vec_api_Vec__L0 : List Slot := [⟨[0], false, false, [.d (.list (TVec))]⟩, ⟨[7], false, false, [.d (.int .i64)]⟩, ⟨[8], false, false, [.d (.int .i64)]⟩]
abbrev os_shape_Check_slices_IndexFunc___api_Vec_api_Vec__L0 : List (Exit × List Slot) := [(.exit 0, []), (.ret, [⟨[4], false, false, [.d (.int .i64)]⟩])]
def t_shape_Check_slices_IndexFunc___api_Vec_api_Vec__L0 (a0 : List (DVec)) (a1 : Int) (a2 : Int) : Tr (Sl ss_shape_Check_slices_IndexFunc___api_Vec_api_Vec__L0 ⊕ Outs os_shape_Check_slices_IndexFunc___api_Vec_api_Vec__L0) :=
  let x1 : Bool := decide (a2 < a1)
  .br (x1) (
   .br (decide (0 ≤ a2) && decide (a2 < ((a0.length : Nat) : Int))) (
    let r2 : Bool := shape_long (List.getD a0 a2.toNat (Ty.dflt (TVec)))
    .br (r2) (
     .leaf (.inr (.inr ((a2, ()), ())))) (
     let x3 : Int := IntKind.wrap .i64 (a2 + 1)
     .leaf (.inl ((a0, ()), (a1, ()), (x3, ()), ())))) .fail) (
   .leaf (.inr (.inl ())))
def step_shape_Check_slices_IndexFunc___api_Vec_api_Vec__L0 : Sl ss_shape_Check_slices_IndexFunc___api_Vec_api_Vec__L0 → Option (Sl ss_shape_Check_slices_IndexFunc___api_Vec_api_Vec__L0 ⊕ Outs os_shape_Check_slices_IndexFunc___api_Vec_api_Vec__L0) := fun x => (t_shape_Check_slices_IndexFunc___api_Vec_api_Vec__L0 x.1.1 x.2.1.1 x.2.2.1.1).optA id
theorem run_shape_Check_slices_IndexFunc___api_Vec_api_Vec__L0 : ∀ (x : Sl ss_shape_Check_slices_IndexFunc___api_Vec_api_Vec__L0) (vs : Nat → Value), run (mkC htys heqs [(108, hd_shape_long)] [] noLoops) 200 104 (loopBody 0 (Tryz.f104.body.getD .skip)) (mkSt ss_shape_Check_slices_IndexFunc___api_Vec_api_Vec__L0 x (baseT 19 [1] [(1, ⟨108, [], []⟩)] vs)) (endK ss_shape_Check_slices_IndexFunc___api_Vec_api_Vec__L0 os_shape_Check_slices_IndexFunc___api_Vec_api_Vec__L0 19 [1]) = (t_shape_Check_slices_IndexFunc___api_Vec_api_Vec__L0 x.1.1 x.2.1.1 x.2.2.1.1).optA fun r => (r, [1].map (keptA [(1, ⟨108, [], []⟩)] vs)) := by
  intro x vs; kernel_rfl
instance inh_shape_Check_slices_IndexFunc___api_Vec_api_Vec__L0 : Inhabited (Outs os_shape_Check_slices_IndexFunc___api_Vec_api_Vec__L0) := ⟨outsDflt os_shape_Check_slices_IndexFunc___api_Vec_api_Vec__L0⟩
def dom_shape_Check_slices_IndexFunc___api_Vec_api_Vec__L0 (x : Sl ss_shape_Check_slices_IndexFunc___api_Vec_api_Vec__L0) : Bool := (loopN step_shape_Check_slices_IndexFunc___api_Vec_api_Vec__L0 rounds x).isSome
def val_shape_Check_slices_IndexFunc___api_Vec_api_Vec__L0 (x : Sl ss_shape_Check_slices_IndexFunc___api_Vec_api_Vec__L0) : Outs os_shape_Check_slices_IndexFunc___api_Vec_api_Vec__L0 := (loopN step_shape_Check_slices_IndexFunc___api_Vec_api_Vec__L0 rounds x).getD default
def loop_shape_Check_slices_IndexFunc___api_Vec_api_Vec__L0 : LoopD := mkLoop ss_shape_Check_slices_IndexFunc___api_Vec_api_Vec__L0 os_shape_Check_slices_IndexFunc___api_Vec_api_Vec__L0 19 [1] [(1, ⟨108, [], []⟩)] step_shape_Check_slices_IndexFunc___api_Vec_api_Vec__L0 dom_shape_Check_slices_IndexFunc___api_Vec_api_Vec__L0 val_shape_Check_slices_IndexFunc___api_Vec_api_Vec__L0 (loop_hv step_shape_Check_slices_IndexFunc___api_Vec_api_Vec__L0)
theorem lok_shape_Check_slices_IndexFunc___api_Vec_api_Vec__L0 : LoopOk Tryz.prog (loopLH loop_shape_Check_slices_IndexFunc___api_Vec_api_Vec__L0 0) 0 (.loop (loopBody 0 (Tryz.f104.body.getD .skip))) := loop_in (D := loop_shape_Check_slices_IndexFunc___api_Vec_api_Vec__L0) (n := 200) (cur := 104) (mkC_ok htys_ok heqs_ok (fns_cons ok_shape_long (fns_nil _)) (inl_nil _) noLoops_ok mixed) Tryz.func104 (by kernel_rfl) (turns_of run_shape_Check_slices_IndexFunc___api_Vec_api_Vec__L0) (by kernel_rfl) (by kernel_rfl) (by kernel_rfl)

/- armplan/shape.Check -/
def t_shape_Check (a0 : DShape) : Tr Bool :=
  let x1 : Bool := decide (1 ≤ a0.2.1)
  .br (x1) (
   let x2 : Bool := decide (a0.2.1 ≤ 1048576)
   .br (x2) (
    let x3 : Bool := decide (1 ≤ ((a0.2.2.length : Nat) : Int))
    .br (x3) (
     let x4 : Bool := decide (((a0.2.2.length : Nat) : Int) ≤ 8)
     .br (x4) (
      let r5 : Outs os_shape_Check_slices_IndexFunc___api_Vec_api_Vec__L0 := val_shape_Check_slices_IndexFunc___api_Vec_api_Vec__L0 ((a0.2.2, ()), (((a0.2.2.length : Nat) : Int), ()), (0, ()), ())
      .br (dom_shape_Check_slices_IndexFunc___api_Vec_api_Vec__L0 ((a0.2.2, ()), (((a0.2.2.length : Nat) : Int), ()), (0, ()), ())) (
       let r6 := getL r5
       let r7 := getR r5
       .br (isL r5) (
        .leaf true) (
        let y8 : Int := r7.1.1
        let x9 : Bool := decide (0 ≤ y8)
        .leaf (!x9))) .fail) (
      .leaf false)) (
     .leaf false)) (
    .leaf false)) (
   .leaf false)
def shape_Check (a0 : DShape) : Bool := (t_shape_Check a0).val
def dom_shape_Check (a0 : DShape) : Bool := (t_shape_Check a0).dom
theorem run_shape_Check : ∀ x, runF (mkC htys heqs [] [(74, Tryz.f74), (104, Tryz.f104)] (lpOne 104 0 (loopLH loop_shape_Check_slices_IndexFunc___api_Vec_api_Vec__L0 0) noLoops)) 200 77 Tryz.f77 (argsA [TShape] x) [] (fun v h => toRes h [.bool] v) = (t_shape_Check x.1).optA (fun r => (r, ())) := by
  intro x; kernel_rfl
theorem fn_shape_Check : FnOk Tryz.prog 77 [TShape] [.bool] (fun x => bif dom_shape_Check x.1 then some ((fun r => (r, ())) (shape_Check x.1)) else none) :=
  fn_part (t := fun (x : Ar [TShape]) => t_shape_Check x.1) (R := Bool) (Ts := [.bool]) (mk := (fun r => (r, ()))) (mkC_ok htys_ok heqs_ok (fns_nil _) (inl_cons Tryz.func74 (by kernel_rfl) (inl_cons Tryz.func104 (by kernel_rfl) (inl_nil _))) (lpOne_ok (b := loopBody 0 (Tryz.f104.body.getD .skip)) Tryz.func104 (by kernel_rfl) lok_shape_Check_slices_IndexFunc___api_Vec_api_Vec__L0 noLoops_ok) mixed) Tryz.func77 run_shape_Check
def hd_shape_Check : Hd := guardHd [TShape] [.bool] (fun x => dom_shape_Check x.1) (fun x => (fun r => (r, ())) (shape_Check x.1))
theorem ok_shape_Check : HdOk Tryz.prog 77 hd_shape_Check.sem ∧ Enters Tryz.prog 77 := guard_ok fn_shape_Check Tryz.func77 (by kernel_rfl) (by kernel_rfl)

/- loop 0 of armplan/shape.Place -/
abbrev ss_shape_Place_L0 : List Slot := [⟨[3], true, false, [.d (TPose)]⟩, ⟨[5], false, false, [.v 48 (TIVec)]⟩, ⟨[12], false, false, [.d (.list (TVec))]⟩, ⟨[13], false, false, [.d (.int .i64)]⟩, ⟨[14], false, false, [.d (.int .i64)]⟩]
abbrev os_shape_Place_L0 : List (Exit × List Slot) := [(.exit 0, [⟨[3], true, false, [.d (TPose)]⟩, ⟨[5], false, false, [.v 48 (TIVec)]⟩])]
def t_shape_Place_L0 (a0 : DPose) (a1 : List (DIVec)) (a2 : List (DVec)) (a3 : Int) (a4 : Int) : Tr (Sl ss_shape_Place_L0 ⊕ Outs os_shape_Place_L0) :=
  let x1 : Bool := decide (a4 < a3)
  .br (x1) (
   .br (decide (0 ≤ a4) && decide (a4 < ((a2.length : Nat) : Int))) (
    let r2 : DIVec := matrix_Point (List.getD a2 a4.toNat (Ty.dflt (TVec)))
    let r3 : DIVec := pose_Apply a0 r2
    .br (room (a1.length + [r3].length)) (
     let x4 : Int := IntKind.wrap .i64 (a4 + 1)
     .leaf (.inl ((a0, ()), ((a1 ++ [r3]), ()), (a2, ()), (a3, ()), (x4, ()), ()))) .fail) .fail) (
   .leaf (.inr ((a0, ()), (a1, ()), ())))
def step_shape_Place_L0 : Sl ss_shape_Place_L0 → Option (Sl ss_shape_Place_L0 ⊕ Outs os_shape_Place_L0) := fun x => (t_shape_Place_L0 x.1.1 x.2.1.1 x.2.2.1.1 x.2.2.2.1.1 x.2.2.2.2.1.1).optA id
theorem run_shape_Place_L0 : ∀ (x : Sl ss_shape_Place_L0) (vs : Nat → Value), run (mkC htys heqs [(55, hd_matrix_Point), (78, hd_pose_Apply)] [] noLoops) 200 42 (loopBody 0 (Tryz.f42.body.getD .skip)) (mkSt ss_shape_Place_L0 x (baseT 27 [] [] vs)) (endK ss_shape_Place_L0 os_shape_Place_L0 27 []) = (t_shape_Place_L0 x.1.1 x.2.1.1 x.2.2.1.1 x.2.2.2.1.1 x.2.2.2.2.1.1).optA fun r => (r, [].map (keptA [] vs)) := by
  intro x vs; kernel_rfl
instance inh_shape_Place_L0 : Inhabited (Outs os_shape_Place_L0) := ⟨outsDflt os_shape_Place_L0⟩
def dom_shape_Place_L0 (x : Sl ss_shape_Place_L0) : Bool := (loopN step_shape_Place_L0 rounds x).isSome
def val_shape_Place_L0 (x : Sl ss_shape_Place_L0) : Outs os_shape_Place_L0 := (loopN step_shape_Place_L0 rounds x).getD default
def loop_shape_Place_L0 : LoopD := mkLoop ss_shape_Place_L0 os_shape_Place_L0 27 [] [] step_shape_Place_L0 dom_shape_Place_L0 val_shape_Place_L0 (loop_hv step_shape_Place_L0)
theorem lok_shape_Place_L0 : LoopOk Tryz.prog (loopLH loop_shape_Place_L0 0) 0 (.loop (loopBody 0 (Tryz.f42.body.getD .skip))) := loop_in (D := loop_shape_Place_L0) (n := 200) (cur := 42) (mkC_ok htys_ok heqs_ok (fns_cons ok_matrix_Point (fns_cons ok_pose_Apply (fns_nil _))) (inl_nil _) noLoops_ok mixed) Tryz.func42 (by kernel_rfl) (turns_of run_shape_Place_L0) (by kernel_rfl) (by kernel_rfl) (by kernel_rfl)

/- armplan/shape.Place -/
def t_shape_Place (a0 : DShape) (a1 : DPose) : Tr (List (DIVec)) :=
  let r1 : Bool := shape_Check a0
  .br (dom_shape_Check a0) (
   .br ((!r1)) (
    .leaf []) (
    let r2 : Outs os_shape_Place_L0 := val_shape_Place_L0 ((a1, ()), ([], ()), (a0.2.2, ()), (((a0.2.2.length : Nat) : Int), ()), (0, ()), ())
    .br (dom_shape_Place_L0 ((a1, ()), ([], ()), (a0.2.2, ()), (((a0.2.2.length : Nat) : Int), ()), (0, ()), ())) (
     let y3 : DPose := r2.1.1
     let y4 : List (DIVec) := r2.2.1.1
     .leaf y4) .fail)) .fail
def shape_Place (a0 : DShape) (a1 : DPose) : List (DIVec) := (t_shape_Place a0 a1).val
def dom_shape_Place (a0 : DShape) (a1 : DPose) : Bool := (t_shape_Place a0 a1).dom
theorem run_shape_Place : ∀ x, runF (mkC htys heqs [(77, hd_shape_Check)] [] (lpOne 42 0 (loopLH loop_shape_Place_L0 0) noLoops)) 200 42 Tryz.f42 (argsA [TShape, TPose] x) [] (fun v h => toRes h [.list (TIVec)] v) = (t_shape_Place x.1 x.2.1).optA (fun r => (r, ())) := by
  intro x; kernel_rfl
theorem fn_shape_Place : FnOk Tryz.prog 42 [TShape, TPose] [.list (TIVec)] (fun x => bif dom_shape_Place x.1 x.2.1 then some ((fun r => (r, ())) (shape_Place x.1 x.2.1)) else none) :=
  fn_part (t := fun (x : Ar [TShape, TPose]) => t_shape_Place x.1 x.2.1) (R := List (DIVec)) (Ts := [.list (TIVec)]) (mk := (fun r => (r, ()))) (mkC_ok htys_ok heqs_ok (fns_cons ok_shape_Check (fns_nil _)) (inl_nil _) (lpOne_ok (b := loopBody 0 (Tryz.f42.body.getD .skip)) Tryz.func42 (by kernel_rfl) lok_shape_Place_L0 noLoops_ok) mixed) Tryz.func42 run_shape_Place
def hd_shape_Place : Hd := guardHd [TShape, TPose] [.list (TIVec)] (fun x => dom_shape_Place x.1 x.2.1) (fun x => (fun r => (r, ())) (shape_Place x.1 x.2.1))
theorem ok_shape_Place : HdOk Tryz.prog 42 hd_shape_Place.sem ∧ Enters Tryz.prog 42 := guard_ok fn_shape_Place Tryz.func42 (by kernel_rfl) (by kernel_rfl)

/- loop 0 of armplan/kinematics.Points -/
abbrev ss_kinematics_Points_L0 : List Slot := [⟨[5], false, false, [.d (.list (TPose))]⟩, ⟨[6], false, false, [.v 51 (.list (TIVec))]⟩, ⟨[25], false, false, [.d (.list (TShape))]⟩, ⟨[26], false, false, [.d (.int .i64)]⟩, ⟨[27], false, false, [.d (.int .i64)]⟩]
abbrev os_kinematics_Points_L0 : List (Exit × List Slot) := [(.exit 0, [⟨[6], false, false, [.v 51 (.list (TIVec))]⟩])]
def t_kinematics_Points_L0 (a0 : List (DPose)) (a1 : List (List (DIVec))) (a2 : List (DShape)) (a3 : Int) (a4 : Int) : Tr (Sl ss_kinematics_Points_L0 ⊕ Outs os_kinematics_Points_L0) :=
  let x1 : Bool := decide (a4 < a3)
  .br (x1) (
   .br (decide (0 ≤ a4) && decide (a4 < ((a2.length : Nat) : Int))) (
    let r2 : DPose := pose_Identity
    let x3 : Bool := !decide (((List.getD a2 a4.toNat (Ty.dflt (TShape)))).1 = (-1))
    .br (x3) (
     .br (decide (0 ≤ ((List.getD a2 a4.toNat (Ty.dflt (TShape)))).1) && decide (((List.getD a2 a4.toNat (Ty.dflt (TShape)))).1 < ((a0.length : Nat) : Int))) (
      let r4 : List (DIVec) := shape_Place (List.getD a2 a4.toNat (Ty.dflt (TShape))) (List.getD a0 (((List.getD a2 a4.toNat (Ty.dflt (TShape)))).1).toNat (Ty.dflt (TPose)))
      .br (dom_shape_Place (List.getD a2 a4.toNat (Ty.dflt (TShape))) (List.getD a0 (((List.getD a2 a4.toNat (Ty.dflt (TShape)))).1).toNat (Ty.dflt (TPose)))) (
       .br (room (a1.length + [r4].length)) (
        let x5 : Int := IntKind.wrap .i64 (a4 + 1)
        .leaf (.inl ((a0, ()), ((a1 ++ [r4]), ()), (a2, ()), (a3, ()), (x5, ()), ()))) .fail) .fail) .fail) (
     let r6 : List (DIVec) := shape_Place (List.getD a2 a4.toNat (Ty.dflt (TShape))) r2
     .br (dom_shape_Place (List.getD a2 a4.toNat (Ty.dflt (TShape))) r2) (
      .br (room (a1.length + [r6].length)) (
       let x7 : Int := IntKind.wrap .i64 (a4 + 1)
       .leaf (.inl ((a0, ()), ((a1 ++ [r6]), ()), (a2, ()), (a3, ()), (x7, ()), ()))) .fail) .fail)) .fail) (
   .leaf (.inr ((a1, ()), ())))
def step_kinematics_Points_L0 : Sl ss_kinematics_Points_L0 → Option (Sl ss_kinematics_Points_L0 ⊕ Outs os_kinematics_Points_L0) := fun x => (t_kinematics_Points_L0 x.1.1 x.2.1.1 x.2.2.1.1 x.2.2.2.1.1 x.2.2.2.2.1.1).optA id
theorem run_kinematics_Points_L0 : ∀ (x : Sl ss_kinematics_Points_L0) (vs : Nat → Value), run (mkC htys heqs [(41, hd_pose_Identity), (42, hd_shape_Place)] [] noLoops) 200 13 (loopBody 0 (Tryz.f13.body.getD .skip)) (mkSt ss_kinematics_Points_L0 x (baseT 48 [] [] vs)) (endK ss_kinematics_Points_L0 os_kinematics_Points_L0 48 []) = (t_kinematics_Points_L0 x.1.1 x.2.1.1 x.2.2.1.1 x.2.2.2.1.1 x.2.2.2.2.1.1).optA fun r => (r, [].map (keptA [] vs)) := by
  intro x vs; kernel_rfl
instance inh_kinematics_Points_L0 : Inhabited (Outs os_kinematics_Points_L0) := ⟨outsDflt os_kinematics_Points_L0⟩
def dom_kinematics_Points_L0 (x : Sl ss_kinematics_Points_L0) : Bool := (loopN step_kinematics_Points_L0 rounds x).isSome
def val_kinematics_Points_L0 (x : Sl ss_kinematics_Points_L0) : Outs os_kinematics_Points_L0 := (loopN step_kinematics_Points_L0 rounds x).getD default
def loop_kinematics_Points_L0 : LoopD := mkLoop ss_kinematics_Points_L0 os_kinematics_Points_L0 48 [] [] step_kinematics_Points_L0 dom_kinematics_Points_L0 val_kinematics_Points_L0 (loop_hv step_kinematics_Points_L0)
theorem lok_kinematics_Points_L0 : LoopOk Tryz.prog (loopLH loop_kinematics_Points_L0 0) 0 (.loop (loopBody 0 (Tryz.f13.body.getD .skip))) := loop_in (D := loop_kinematics_Points_L0) (n := 200) (cur := 13) (mkC_ok htys_ok heqs_ok (fns_cons ok_pose_Identity (fns_cons ok_shape_Place (fns_nil _))) (inl_nil _) noLoops_ok mixed) Tryz.func13 (by kernel_rfl) (turns_of run_kinematics_Points_L0) (by kernel_rfl) (by kernel_rfl) (by kernel_rfl)

/- armplan/kinematics.Points -/
def t_kinematics_Points (a0 : DScene) (a1 : List ((Int × Int))) : Tr (List (List (DIVec))) :=
  let r1 : Int := scene_Check a0
  .br (dom_scene_Check a0) (
   let x2 : Bool := !decide (r1 = 0)
   .br (x2) (
    .leaf []) (
    let r3 : Bool := kinematics_isBox a0.1 a1
    .br (dom_kinematics_isBox a0.1 a1) (
     .br ((!r3)) (
      .leaf []) (
      let r4 : List (DPose) := kinematics_Links a0.1 a1
      .br (dom_kinematics_Links a0.1 a1) (
       let r5 : Outs os_kinematics_Points_L0 := val_kinematics_Points_L0 ((r4, ()), ([], ()), (a0.2.1, ()), (((a0.2.1.length : Nat) : Int), ()), (0, ()), ())
       .br (dom_kinematics_Points_L0 ((r4, ()), ([], ()), (a0.2.1, ()), (((a0.2.1.length : Nat) : Int), ()), (0, ()), ())) (
        let y6 : List (List (DIVec)) := r5.1.1
        .leaf y6) .fail) .fail)) .fail)) .fail
def kinematics_Points (a0 : DScene) (a1 : List ((Int × Int))) : List (List (DIVec)) := (t_kinematics_Points a0 a1).val
def dom_kinematics_Points (a0 : DScene) (a1 : List ((Int × Int))) : Bool := (t_kinematics_Points a0 a1).dom
theorem run_kinematics_Points : ∀ x, runF (mkC htys heqs [(12, hd_kinematics_Links), (38, hd_kinematics_isBox), (40, hd_scene_Check)] [] (lpOne 13 0 (loopLH loop_kinematics_Points_L0 0) noLoops)) 200 13 Tryz.f13 (argsA [TScene, .list (.pair (.int .i64) (.int .i64))] x) [] (fun v h => toRes h [.list (.list (TIVec))] v) = (t_kinematics_Points x.1 x.2.1).optA (fun r => (r, ())) := by
  intro x; kernel_rfl
theorem fn_kinematics_Points : FnOk Tryz.prog 13 [TScene, .list (.pair (.int .i64) (.int .i64))] [.list (.list (TIVec))] (fun x => bif dom_kinematics_Points x.1 x.2.1 then some ((fun r => (r, ())) (kinematics_Points x.1 x.2.1)) else none) :=
  fn_part (t := fun (x : Ar [TScene, .list (.pair (.int .i64) (.int .i64))]) => t_kinematics_Points x.1 x.2.1) (R := List (List (DIVec))) (Ts := [.list (.list (TIVec))]) (mk := (fun r => (r, ()))) (mkC_ok htys_ok heqs_ok (fns_cons ok_kinematics_Links (fns_cons ok_kinematics_isBox (fns_cons ok_scene_Check (fns_nil _)))) (inl_nil _) (lpOne_ok (b := loopBody 0 (Tryz.f13.body.getD .skip)) Tryz.func13 (by kernel_rfl) lok_kinematics_Points_L0 noLoops_ok) mixed) Tryz.func13 run_kinematics_Points
def hd_kinematics_Points : Hd := guardHd [TScene, .list (.pair (.int .i64) (.int .i64))] [.list (.list (TIVec))] (fun x => dom_kinematics_Points x.1 x.2.1) (fun x => (fun r => (r, ())) (kinematics_Points x.1 x.2.1))
theorem ok_kinematics_Points : HdOk Tryz.prog 13 hd_kinematics_Points.sem ∧ Enters Tryz.prog 13 := guard_ok fn_kinematics_Points Tryz.func13 (by kernel_rfl) (by kernel_rfl)

/- loop 0 of armplan/armplanref10.allValid -/
abbrev ss_armplanref10_allValid_L0 : List Slot := [⟨[0], false, false, [.d (.list (.pair (.int .i64) (.int .i64)))]⟩, ⟨[3], false, false, [.d (.int .i64)]⟩]
abbrev os_armplanref10_allValid_L0 : List (Exit × List Slot) := [(.exit 0, []), (.ret, [⟨[2], false, false, [.d (.bool)]⟩])]
def t_armplanref10_allValid_L0 (a0 : List ((Int × Int))) (a1 : Int) : Tr (Sl ss_armplanref10_allValid_L0 ⊕ Outs os_armplanref10_allValid_L0) :=
  let x1 : Bool := decide (a1 < ((a0.length : Nat) : Int))
  .br (x1) (
   .br (decide (0 ≤ a1) && decide (a1 < ((a0.length : Nat) : Int))) (
    let r2 : Bool := armplanref1_Valid (List.getD a0 a1.toNat (Ty.dflt (.pair (.int .i64) (.int .i64))))
    .br ((!r2)) (
     .leaf (.inr (.inr ((false, ()), ())))) (
     let x3 : Int := IntKind.wrap .i64 (a1 + 1)
     .leaf (.inl ((a0, ()), (x3, ()), ())))) .fail) (
   .leaf (.inr (.inl ())))
def step_armplanref10_allValid_L0 : Sl ss_armplanref10_allValid_L0 → Option (Sl ss_armplanref10_allValid_L0 ⊕ Outs os_armplanref10_allValid_L0) := fun x => (t_armplanref10_allValid_L0 x.1.1 x.2.1.1).optA id
theorem run_armplanref10_allValid_L0 : ∀ (x : Sl ss_armplanref10_allValid_L0) (vs : Nat → Value), run (mkC htys heqs [(48, hd_armplanref1_Valid)] [] noLoops) 200 93 (loopBody 0 (Tryz.f93.body.getD .skip)) (mkSt ss_armplanref10_allValid_L0 x (baseT 16 [] [] vs)) (endK ss_armplanref10_allValid_L0 os_armplanref10_allValid_L0 16 []) = (t_armplanref10_allValid_L0 x.1.1 x.2.1.1).optA fun r => (r, [].map (keptA [] vs)) := by
  intro x vs; kernel_rfl
instance inh_armplanref10_allValid_L0 : Inhabited (Outs os_armplanref10_allValid_L0) := ⟨outsDflt os_armplanref10_allValid_L0⟩
def dom_armplanref10_allValid_L0 (x : Sl ss_armplanref10_allValid_L0) : Bool := (loopN step_armplanref10_allValid_L0 rounds x).isSome
def val_armplanref10_allValid_L0 (x : Sl ss_armplanref10_allValid_L0) : Outs os_armplanref10_allValid_L0 := (loopN step_armplanref10_allValid_L0 rounds x).getD default
def loop_armplanref10_allValid_L0 : LoopD := mkLoop ss_armplanref10_allValid_L0 os_armplanref10_allValid_L0 16 [] [] step_armplanref10_allValid_L0 dom_armplanref10_allValid_L0 val_armplanref10_allValid_L0 (loop_hv step_armplanref10_allValid_L0)
theorem lok_armplanref10_allValid_L0 : LoopOk Tryz.prog (loopLH loop_armplanref10_allValid_L0 0) 0 (.loop (loopBody 0 (Tryz.f93.body.getD .skip))) := loop_in (D := loop_armplanref10_allValid_L0) (n := 200) (cur := 93) (mkC_ok htys_ok heqs_ok (fns_cons ok_armplanref1_Valid (fns_nil _)) (inl_nil _) noLoops_ok mixed) Tryz.func93 (by kernel_rfl) (turns_of run_armplanref10_allValid_L0) (by kernel_rfl) (by kernel_rfl) (by kernel_rfl)

/- armplan/armplanref10.allValid -/
def t_armplanref10_allValid (a0 : List ((Int × Int))) : Tr Bool :=
  let r1 : Outs os_armplanref10_allValid_L0 := val_armplanref10_allValid_L0 ((a0, ()), (0, ()), ())
  .br (dom_armplanref10_allValid_L0 ((a0, ()), (0, ()), ())) (
   let r2 := getL r1
   let r3 := getR r1
   .br (isL r1) (
    .leaf true) (
    let y4 : Bool := r3.1.1
    .leaf y4)) .fail
def armplanref10_allValid (a0 : List ((Int × Int))) : Bool := (t_armplanref10_allValid a0).val
def dom_armplanref10_allValid (a0 : List ((Int × Int))) : Bool := (t_armplanref10_allValid a0).dom
theorem run_armplanref10_allValid : ∀ x, runF (mkC htys heqs [] [] (lpOne 93 0 (loopLH loop_armplanref10_allValid_L0 0) noLoops)) 200 93 Tryz.f93 (argsA [.list (.pair (.int .i64) (.int .i64))] x) [] (fun v h => toRes h [.bool] v) = (t_armplanref10_allValid x.1).optA (fun r => (r, ())) := by
  intro x; kernel_rfl
theorem fn_armplanref10_allValid : FnOk Tryz.prog 93 [.list (.pair (.int .i64) (.int .i64))] [.bool] (fun x => bif dom_armplanref10_allValid x.1 then some ((fun r => (r, ())) (armplanref10_allValid x.1)) else none) :=
  fn_part (t := fun (x : Ar [.list (.pair (.int .i64) (.int .i64))]) => t_armplanref10_allValid x.1) (R := Bool) (Ts := [.bool]) (mk := (fun r => (r, ()))) (mkC_ok htys_ok heqs_ok (fns_nil _) (inl_nil _) (lpOne_ok (b := loopBody 0 (Tryz.f93.body.getD .skip)) Tryz.func93 (by kernel_rfl) lok_armplanref10_allValid_L0 noLoops_ok) mixed) Tryz.func93 run_armplanref10_allValid
def hd_armplanref10_allValid : Hd := guardHd [.list (.pair (.int .i64) (.int .i64))] [.bool] (fun x => dom_armplanref10_allValid x.1) (fun x => (fun r => (r, ())) (armplanref10_allValid x.1))
theorem ok_armplanref10_allValid : HdOk Tryz.prog 93 hd_armplanref10_allValid.sem ∧ Enters Tryz.prog 93 := guard_ok fn_armplanref10_allValid Tryz.func93 (by kernel_rfl) (by kernel_rfl)

/- armplan/armplanref10.IsBox -/
def t_armplanref10_IsBox (a0 : DRobot) (a1 : List ((Int × Int))) : Tr Bool :=
  let x1 : Bool := decide (((a1.length : Nat) : Int) = ((a0.1.length : Nat) : Int))
  .br (x1) (
   let r2 : Bool := armplanref10_allValid a1
   .br (dom_armplanref10_allValid a1) (
    .leaf r2) .fail) (
   .leaf false)
def armplanref10_IsBox (a0 : DRobot) (a1 : List ((Int × Int))) : Bool := (t_armplanref10_IsBox a0 a1).val
def dom_armplanref10_IsBox (a0 : DRobot) (a1 : List ((Int × Int))) : Bool := (t_armplanref10_IsBox a0 a1).dom
theorem run_armplanref10_IsBox : ∀ x, runF (mkC htys heqs [(93, hd_armplanref10_allValid)] [] noLoops) 200 60 Tryz.f60 (argsA [TRobot, .list (.pair (.int .i64) (.int .i64))] x) [] (fun v h => toRes h [.bool] v) = (t_armplanref10_IsBox x.1 x.2.1).optA (fun r => (r, ())) := by
  intro x; kernel_rfl
theorem fn_armplanref10_IsBox : FnOk Tryz.prog 60 [TRobot, .list (.pair (.int .i64) (.int .i64))] [.bool] (fun x => bif dom_armplanref10_IsBox x.1 x.2.1 then some ((fun r => (r, ())) (armplanref10_IsBox x.1 x.2.1)) else none) :=
  fn_part (t := fun (x : Ar [TRobot, .list (.pair (.int .i64) (.int .i64))]) => t_armplanref10_IsBox x.1 x.2.1) (R := Bool) (Ts := [.bool]) (mk := (fun r => (r, ()))) (mkC_ok htys_ok heqs_ok (fns_cons ok_armplanref10_allValid (fns_nil _)) (inl_nil _) noLoops_ok mixed) Tryz.func60 run_armplanref10_IsBox
def hd_armplanref10_IsBox : Hd := guardHd [TRobot, .list (.pair (.int .i64) (.int .i64))] [.bool] (fun x => dom_armplanref10_IsBox x.1 x.2.1) (fun x => (fun r => (r, ())) (armplanref10_IsBox x.1 x.2.1))
theorem ok_armplanref10_IsBox : HdOk Tryz.prog 60 hd_armplanref10_IsBox.sem ∧ Enters Tryz.prog 60 := guard_ok fn_armplanref10_IsBox Tryz.func60 (by kernel_rfl) (by kernel_rfl)

/- loop 0 of armplan/armplanref10.Links -/
abbrev ss_armplanref10_Links_L0 : List Slot := [⟨[2], true, false, [.d (TRobot)]⟩, ⟨[1], false, false, [.d (.list (.pair (.int .i64) (.int .i64)))]⟩, ⟨[5], false, false, [.v 50 (TPose)]⟩, ⟨[6], false, false, [.d (.int .i64)]⟩]
abbrev os_armplanref10_Links_L0 : List (Exit × List Slot) := [(.exit 0, [⟨[2], true, false, [.d (TRobot)]⟩, ⟨[5], false, false, [.v 50 (TPose)]⟩])]
def t_armplanref10_Links_L0 (a0 : DRobot) (a1 : List ((Int × Int))) (a2 : List (DPose)) (a3 : Int) : Tr (Sl ss_armplanref10_Links_L0 ⊕ Outs os_armplanref10_Links_L0) :=
  let x1 : Bool := decide (a3 < ((a1.length : Nat) : Int))
  .br (x1) (
   .br (decide (0 ≤ a3) && decide (a3 < ((a0.1.length : Nat) : Int))) (
    .br (decide (0 ≤ a3) && decide (a3 < ((a1.length : Nat) : Int))) (
     let r2 : DPose := armplanref10_Joint (List.getD a0.1 a3.toNat (Ty.dflt (TJoint))) (List.getD a1 a3.toNat (Ty.dflt (.pair (.int .i64) (.int .i64))))
     .br (dom_armplanref10_Joint (List.getD a0.1 a3.toNat (Ty.dflt (TJoint))) (List.getD a1 a3.toNat (Ty.dflt (.pair (.int .i64) (.int .i64))))) (
      .br (decide (0 ≤ a3) && decide (a3 < ((a0.1.length : Nat) : Int))) (
       let x3 : Bool := !decide (((((List.getD a0.1 a3.toNat (Ty.dflt (TJoint)))).2).2).1 = (-1))
       .br (x3) (
        .br (decide (0 ≤ a3) && decide (a3 < ((a0.1.length : Nat) : Int))) (
         .br (decide (0 ≤ ((((List.getD a0.1 a3.toNat (Ty.dflt (TJoint)))).2).2).1) && decide (((((List.getD a0.1 a3.toNat (Ty.dflt (TJoint)))).2).2).1 < ((a2.length : Nat) : Int))) (
          let r4 : DPose := armplanref1_Compose (List.getD a2 (((((List.getD a0.1 a3.toNat (Ty.dflt (TJoint)))).2).2).1).toNat (Ty.dflt (TPose))) r2
          .br (room (a2.length + [r4].length)) (
           let x5 : Int := IntKind.wrap .i64 (a3 + 1)
           .leaf (.inl ((a0, ()), (a1, ()), ((a2 ++ [r4]), ()), (x5, ()), ()))) .fail) .fail) .fail) (
        .br (room (a2.length + [r2].length)) (
         let x6 : Int := IntKind.wrap .i64 (a3 + 1)
         .leaf (.inl ((a0, ()), (a1, ()), ((a2 ++ [r2]), ()), (x6, ()), ()))) .fail)) .fail) .fail) .fail) .fail) (
   .leaf (.inr ((a0, ()), (a2, ()), ())))
def step_armplanref10_Links_L0 : Sl ss_armplanref10_Links_L0 → Option (Sl ss_armplanref10_Links_L0 ⊕ Outs os_armplanref10_Links_L0) := fun x => (t_armplanref10_Links_L0 x.1.1 x.2.1.1 x.2.2.1.1 x.2.2.2.1.1).optA id
theorem run_armplanref10_Links_L0 : ∀ (x : Sl ss_armplanref10_Links_L0) (vs : Nat → Value), run (mkC htys heqs [(61, hd_armplanref10_Joint), (62, hd_armplanref1_Compose)] [] noLoops) 200 33 (loopBody 0 (Tryz.f33.body.getD .skip)) (mkSt ss_armplanref10_Links_L0 x (baseT 56 [] [] vs)) (endK ss_armplanref10_Links_L0 os_armplanref10_Links_L0 56 []) = (t_armplanref10_Links_L0 x.1.1 x.2.1.1 x.2.2.1.1 x.2.2.2.1.1).optA fun r => (r, [].map (keptA [] vs)) := by
  intro x vs; kernel_rfl
instance inh_armplanref10_Links_L0 : Inhabited (Outs os_armplanref10_Links_L0) := ⟨outsDflt os_armplanref10_Links_L0⟩
def dom_armplanref10_Links_L0 (x : Sl ss_armplanref10_Links_L0) : Bool := (loopN step_armplanref10_Links_L0 rounds x).isSome
def val_armplanref10_Links_L0 (x : Sl ss_armplanref10_Links_L0) : Outs os_armplanref10_Links_L0 := (loopN step_armplanref10_Links_L0 rounds x).getD default
def loop_armplanref10_Links_L0 : LoopD := mkLoop ss_armplanref10_Links_L0 os_armplanref10_Links_L0 56 [] [] step_armplanref10_Links_L0 dom_armplanref10_Links_L0 val_armplanref10_Links_L0 (loop_hv step_armplanref10_Links_L0)
theorem lok_armplanref10_Links_L0 : LoopOk Tryz.prog (loopLH loop_armplanref10_Links_L0 0) 0 (.loop (loopBody 0 (Tryz.f33.body.getD .skip))) := loop_in (D := loop_armplanref10_Links_L0) (n := 200) (cur := 33) (mkC_ok htys_ok heqs_ok (fns_cons ok_armplanref10_Joint (fns_cons ok_armplanref1_Compose (fns_nil _))) (inl_nil _) noLoops_ok mixed) Tryz.func33 (by kernel_rfl) (turns_of run_armplanref10_Links_L0) (by kernel_rfl) (by kernel_rfl) (by kernel_rfl)

/- armplan/armplanref10.Links -/
def t_armplanref10_Links (a0 : DRobot) (a1 : List ((Int × Int))) : Tr (List (DPose)) :=
  let r1 : Int := armplanref6_CheckRobot a0
  .br (dom_armplanref6_CheckRobot a0) (
   let x2 : Bool := !decide (r1 = 0)
   .br (x2) (
    .leaf []) (
    let r3 : Bool := armplanref10_IsBox a0 a1
    .br (dom_armplanref10_IsBox a0 a1) (
     .br ((!r3)) (
      .leaf []) (
      let r4 : Outs os_armplanref10_Links_L0 := val_armplanref10_Links_L0 ((a0, ()), (a1, ()), ([], ()), (0, ()), ())
      .br (dom_armplanref10_Links_L0 ((a0, ()), (a1, ()), ([], ()), (0, ()), ())) (
       let y5 : DRobot := r4.1.1
       let y6 : List (DPose) := r4.2.1.1
       .leaf y6) .fail)) .fail)) .fail
def armplanref10_Links (a0 : DRobot) (a1 : List ((Int × Int))) : List (DPose) := (t_armplanref10_Links a0 a1).val
def dom_armplanref10_Links (a0 : DRobot) (a1 : List ((Int × Int))) : Bool := (t_armplanref10_Links a0 a1).dom
theorem run_armplanref10_Links : ∀ x, runF (mkC htys heqs [(59, hd_armplanref6_CheckRobot), (60, hd_armplanref10_IsBox)] [] (lpOne 33 0 (loopLH loop_armplanref10_Links_L0 0) noLoops)) 200 33 Tryz.f33 (argsA [TRobot, .list (.pair (.int .i64) (.int .i64))] x) [] (fun v h => toRes h [.list (TPose)] v) = (t_armplanref10_Links x.1 x.2.1).optA (fun r => (r, ())) := by
  intro x; kernel_rfl
theorem fn_armplanref10_Links : FnOk Tryz.prog 33 [TRobot, .list (.pair (.int .i64) (.int .i64))] [.list (TPose)] (fun x => bif dom_armplanref10_Links x.1 x.2.1 then some ((fun r => (r, ())) (armplanref10_Links x.1 x.2.1)) else none) :=
  fn_part (t := fun (x : Ar [TRobot, .list (.pair (.int .i64) (.int .i64))]) => t_armplanref10_Links x.1 x.2.1) (R := List (DPose)) (Ts := [.list (TPose)]) (mk := (fun r => (r, ()))) (mkC_ok htys_ok heqs_ok (fns_cons ok_armplanref6_CheckRobot (fns_cons ok_armplanref10_IsBox (fns_nil _))) (inl_nil _) (lpOne_ok (b := loopBody 0 (Tryz.f33.body.getD .skip)) Tryz.func33 (by kernel_rfl) lok_armplanref10_Links_L0 noLoops_ok) mixed) Tryz.func33 run_armplanref10_Links
def hd_armplanref10_Links : Hd := guardHd [TRobot, .list (.pair (.int .i64) (.int .i64))] [.list (TPose)] (fun x => dom_armplanref10_Links x.1 x.2.1) (fun x => (fun r => (r, ())) (armplanref10_Links x.1 x.2.1))
theorem ok_armplanref10_Links : HdOk Tryz.prog 33 hd_armplanref10_Links.sem ∧ Enters Tryz.prog 33 := guard_ok fn_armplanref10_Links Tryz.func33 (by kernel_rfl) (by kernel_rfl)

/- loop 0 of armplan/armplanref10.CheckShape -/
abbrev ss_armplanref10_CheckShape_L0 : List Slot := [⟨[1], true, false, [.d (TShape)]⟩, ⟨[3], false, false, [.d (.int .i64)]⟩]
abbrev os_armplanref10_CheckShape_L0 : List (Exit × List Slot) := [(.exit 0, [⟨[1], true, false, [.d (TShape)]⟩]), (.ret, [⟨[1], true, false, [.d (TShape)]⟩, ⟨[2], false, false, [.d (.bool)]⟩])]
def t_armplanref10_CheckShape_L0 (a0 : DShape) (a1 : Int) : Tr (Sl ss_armplanref10_CheckShape_L0 ⊕ Outs os_armplanref10_CheckShape_L0) :=
  let x1 : Bool := decide (a1 < ((a0.2.2.length : Nat) : Int))
  .br (x1) (
   .br (decide (0 ≤ a1) && decide (a1 < ((a0.2.2.length : Nat) : Int))) (
    let r2 : Bool := armplanref6_Near (List.getD a0.2.2 a1.toNat (Ty.dflt (TVec))) 4194304
    .br ((!r2)) (
     .leaf (.inr (.inr ((a0, ()), (false, ()), ())))) (
     let x3 : Int := IntKind.wrap .i64 (a1 + 1)
     .leaf (.inl ((a0, ()), (x3, ()), ())))) .fail) (
   .leaf (.inr (.inl ((a0, ()), ()))))
def step_armplanref10_CheckShape_L0 : Sl ss_armplanref10_CheckShape_L0 → Option (Sl ss_armplanref10_CheckShape_L0 ⊕ Outs os_armplanref10_CheckShape_L0) := fun x => (t_armplanref10_CheckShape_L0 x.1.1 x.2.1.1).optA id
theorem run_armplanref10_CheckShape_L0 : ∀ (x : Sl ss_armplanref10_CheckShape_L0) (vs : Nat → Value), run (mkC htys heqs [(92, hd_armplanref6_Near)] [] noLoops) 200 99 (loopBody 0 (Tryz.f99.body.getD .skip)) (mkSt ss_armplanref10_CheckShape_L0 x (baseT 38 [] [] vs)) (endK ss_armplanref10_CheckShape_L0 os_armplanref10_CheckShape_L0 38 []) = (t_armplanref10_CheckShape_L0 x.1.1 x.2.1.1).optA fun r => (r, [].map (keptA [] vs)) := by
  intro x vs; kernel_rfl
instance inh_armplanref10_CheckShape_L0 : Inhabited (Outs os_armplanref10_CheckShape_L0) := ⟨outsDflt os_armplanref10_CheckShape_L0⟩
def dom_armplanref10_CheckShape_L0 (x : Sl ss_armplanref10_CheckShape_L0) : Bool := (loopN step_armplanref10_CheckShape_L0 rounds x).isSome
def val_armplanref10_CheckShape_L0 (x : Sl ss_armplanref10_CheckShape_L0) : Outs os_armplanref10_CheckShape_L0 := (loopN step_armplanref10_CheckShape_L0 rounds x).getD default
def loop_armplanref10_CheckShape_L0 : LoopD := mkLoop ss_armplanref10_CheckShape_L0 os_armplanref10_CheckShape_L0 38 [] [] step_armplanref10_CheckShape_L0 dom_armplanref10_CheckShape_L0 val_armplanref10_CheckShape_L0 (loop_hv step_armplanref10_CheckShape_L0)
theorem lok_armplanref10_CheckShape_L0 : LoopOk Tryz.prog (loopLH loop_armplanref10_CheckShape_L0 0) 0 (.loop (loopBody 0 (Tryz.f99.body.getD .skip))) := loop_in (D := loop_armplanref10_CheckShape_L0) (n := 200) (cur := 99) (mkC_ok htys_ok heqs_ok (fns_cons ok_armplanref6_Near (fns_nil _)) (inl_nil _) noLoops_ok mixed) Tryz.func99 (by kernel_rfl) (turns_of run_armplanref10_CheckShape_L0) (by kernel_rfl) (by kernel_rfl) (by kernel_rfl)

/- armplan/armplanref10.CheckShape -/
def t_armplanref10_CheckShape (a0 : DShape) : Tr Bool :=
  let x1 : Bool := decide (a0.2.1 < 1)
  .br (x1) (
   .leaf false) (
   let x2 : Bool := decide (1048576 < a0.2.1)
   .br (x2) (
    .leaf false) (
    let x3 : Bool := decide (((a0.2.2.length : Nat) : Int) < 1)
    .br (x3) (
     .leaf false) (
     let x4 : Bool := decide (8 < ((a0.2.2.length : Nat) : Int))
     .br (x4) (
      .leaf false) (
      let r5 : Outs os_armplanref10_CheckShape_L0 := val_armplanref10_CheckShape_L0 ((a0, ()), (0, ()), ())
      .br (dom_armplanref10_CheckShape_L0 ((a0, ()), (0, ()), ())) (
       let r6 := getL r5
       let r7 := getR r5
       .br (isL r5) (
        let y8 : DShape := r6.1.1
        .leaf true) (
        let y9 : DShape := r7.1.1
        let y10 : Bool := r7.2.1.1
        .leaf y10)) .fail))))
def armplanref10_CheckShape (a0 : DShape) : Bool := (t_armplanref10_CheckShape a0).val
def dom_armplanref10_CheckShape (a0 : DShape) : Bool := (t_armplanref10_CheckShape a0).dom
theorem run_armplanref10_CheckShape : ∀ x, runF (mkC htys heqs [] [] (lpOne 99 0 (loopLH loop_armplanref10_CheckShape_L0 0) noLoops)) 200 99 Tryz.f99 (argsA [TShape] x) [] (fun v h => toRes h [.bool] v) = (t_armplanref10_CheckShape x.1).optA (fun r => (r, ())) := by
  intro x; kernel_rfl
theorem fn_armplanref10_CheckShape : FnOk Tryz.prog 99 [TShape] [.bool] (fun x => bif dom_armplanref10_CheckShape x.1 then some ((fun r => (r, ())) (armplanref10_CheckShape x.1)) else none) :=
  fn_part (t := fun (x : Ar [TShape]) => t_armplanref10_CheckShape x.1) (R := Bool) (Ts := [.bool]) (mk := (fun r => (r, ()))) (mkC_ok htys_ok heqs_ok (fns_nil _) (inl_nil _) (lpOne_ok (b := loopBody 0 (Tryz.f99.body.getD .skip)) Tryz.func99 (by kernel_rfl) lok_armplanref10_CheckShape_L0 noLoops_ok) mixed) Tryz.func99 run_armplanref10_CheckShape
def hd_armplanref10_CheckShape : Hd := guardHd [TShape] [.bool] (fun x => dom_armplanref10_CheckShape x.1) (fun x => (fun r => (r, ())) (armplanref10_CheckShape x.1))
theorem ok_armplanref10_CheckShape : HdOk Tryz.prog 99 hd_armplanref10_CheckShape.sem ∧ Enters Tryz.prog 99 := guard_ok fn_armplanref10_CheckShape Tryz.func99 (by kernel_rfl) (by kernel_rfl)

/- loop 0 of armplan/armplanref10.Place -/
abbrev ss_armplanref10_Place_L0 : List Slot := [⟨[2], true, false, [.d (TShape)]⟩, ⟨[3], true, false, [.d (TPose)]⟩, ⟨[5], false, false, [.v 48 (TIVec)]⟩, ⟨[6], false, false, [.d (.int .i64)]⟩]
abbrev os_armplanref10_Place_L0 : List (Exit × List Slot) := [(.exit 0, [⟨[2], true, false, [.d (TShape)]⟩, ⟨[3], true, false, [.d (TPose)]⟩, ⟨[5], false, false, [.v 48 (TIVec)]⟩])]
def t_armplanref10_Place_L0 (a0 : DShape) (a1 : DPose) (a2 : List (DIVec)) (a3 : Int) : Tr (Sl ss_armplanref10_Place_L0 ⊕ Outs os_armplanref10_Place_L0) :=
  let x1 : Bool := decide (a3 < ((a0.2.2.length : Nat) : Int))
  .br (x1) (
   .br (decide (0 ≤ a3) && decide (a3 < ((a0.2.2.length : Nat) : Int))) (
    let r2 : DIVec := armplanref1_Point (List.getD a0.2.2 a3.toNat (Ty.dflt (TVec)))
    let r3 : DIVec := armplanref1_Apply a1 r2
    .br (room (a2.length + [r3].length)) (
     let x4 : Int := IntKind.wrap .i64 (a3 + 1)
     .leaf (.inl ((a0, ()), (a1, ()), ((a2 ++ [r3]), ()), (x4, ()), ()))) .fail) .fail) (
   .leaf (.inr ((a0, ()), (a1, ()), (a2, ()), ())))
def step_armplanref10_Place_L0 : Sl ss_armplanref10_Place_L0 → Option (Sl ss_armplanref10_Place_L0 ⊕ Outs os_armplanref10_Place_L0) := fun x => (t_armplanref10_Place_L0 x.1.1 x.2.1.1 x.2.2.1.1 x.2.2.2.1.1).optA id
theorem run_armplanref10_Place_L0 : ∀ (x : Sl ss_armplanref10_Place_L0) (vs : Nat → Value), run (mkC htys heqs [(21, hd_armplanref1_Point), (31, hd_armplanref1_Apply)] [] noLoops) 200 66 (loopBody 0 (Tryz.f66.body.getD .skip)) (mkSt ss_armplanref10_Place_L0 x (baseT 29 [] [] vs)) (endK ss_armplanref10_Place_L0 os_armplanref10_Place_L0 29 []) = (t_armplanref10_Place_L0 x.1.1 x.2.1.1 x.2.2.1.1 x.2.2.2.1.1).optA fun r => (r, [].map (keptA [] vs)) := by
  intro x vs; kernel_rfl
instance inh_armplanref10_Place_L0 : Inhabited (Outs os_armplanref10_Place_L0) := ⟨outsDflt os_armplanref10_Place_L0⟩
def dom_armplanref10_Place_L0 (x : Sl ss_armplanref10_Place_L0) : Bool := (loopN step_armplanref10_Place_L0 rounds x).isSome
def val_armplanref10_Place_L0 (x : Sl ss_armplanref10_Place_L0) : Outs os_armplanref10_Place_L0 := (loopN step_armplanref10_Place_L0 rounds x).getD default
def loop_armplanref10_Place_L0 : LoopD := mkLoop ss_armplanref10_Place_L0 os_armplanref10_Place_L0 29 [] [] step_armplanref10_Place_L0 dom_armplanref10_Place_L0 val_armplanref10_Place_L0 (loop_hv step_armplanref10_Place_L0)
theorem lok_armplanref10_Place_L0 : LoopOk Tryz.prog (loopLH loop_armplanref10_Place_L0 0) 0 (.loop (loopBody 0 (Tryz.f66.body.getD .skip))) := loop_in (D := loop_armplanref10_Place_L0) (n := 200) (cur := 66) (mkC_ok htys_ok heqs_ok (fns_cons ok_armplanref1_Point (fns_cons ok_armplanref1_Apply (fns_nil _))) (inl_nil _) noLoops_ok mixed) Tryz.func66 (by kernel_rfl) (turns_of run_armplanref10_Place_L0) (by kernel_rfl) (by kernel_rfl) (by kernel_rfl)

/- armplan/armplanref10.Place -/
def t_armplanref10_Place (a0 : DShape) (a1 : DPose) : Tr (List (DIVec)) :=
  let r1 : Bool := armplanref10_CheckShape a0
  .br (dom_armplanref10_CheckShape a0) (
   .br ((!r1)) (
    .leaf []) (
    let r2 : Outs os_armplanref10_Place_L0 := val_armplanref10_Place_L0 ((a0, ()), (a1, ()), ([], ()), (0, ()), ())
    .br (dom_armplanref10_Place_L0 ((a0, ()), (a1, ()), ([], ()), (0, ()), ())) (
     let y3 : DShape := r2.1.1
     let y4 : DPose := r2.2.1.1
     let y5 : List (DIVec) := r2.2.2.1.1
     .leaf y5) .fail)) .fail
def armplanref10_Place (a0 : DShape) (a1 : DPose) : List (DIVec) := (t_armplanref10_Place a0 a1).val
def dom_armplanref10_Place (a0 : DShape) (a1 : DPose) : Bool := (t_armplanref10_Place a0 a1).dom
theorem run_armplanref10_Place : ∀ x, runF (mkC htys heqs [(99, hd_armplanref10_CheckShape)] [] (lpOne 66 0 (loopLH loop_armplanref10_Place_L0 0) noLoops)) 200 66 Tryz.f66 (argsA [TShape, TPose] x) [] (fun v h => toRes h [.list (TIVec)] v) = (t_armplanref10_Place x.1 x.2.1).optA (fun r => (r, ())) := by
  intro x; kernel_rfl
theorem fn_armplanref10_Place : FnOk Tryz.prog 66 [TShape, TPose] [.list (TIVec)] (fun x => bif dom_armplanref10_Place x.1 x.2.1 then some ((fun r => (r, ())) (armplanref10_Place x.1 x.2.1)) else none) :=
  fn_part (t := fun (x : Ar [TShape, TPose]) => t_armplanref10_Place x.1 x.2.1) (R := List (DIVec)) (Ts := [.list (TIVec)]) (mk := (fun r => (r, ()))) (mkC_ok htys_ok heqs_ok (fns_cons ok_armplanref10_CheckShape (fns_nil _)) (inl_nil _) (lpOne_ok (b := loopBody 0 (Tryz.f66.body.getD .skip)) Tryz.func66 (by kernel_rfl) lok_armplanref10_Place_L0 noLoops_ok) mixed) Tryz.func66 run_armplanref10_Place
def hd_armplanref10_Place : Hd := guardHd [TShape, TPose] [.list (TIVec)] (fun x => dom_armplanref10_Place x.1 x.2.1) (fun x => (fun r => (r, ())) (armplanref10_Place x.1 x.2.1))
theorem ok_armplanref10_Place : HdOk Tryz.prog 66 hd_armplanref10_Place.sem ∧ Enters Tryz.prog 66 := guard_ok fn_armplanref10_Place Tryz.func66 (by kernel_rfl) (by kernel_rfl)

/- loop 0 of armplan/armplanref10.Points -/
abbrev ss_armplanref10_Points_L0 : List Slot := [⟨[2], true, false, [.d (TScene)]⟩, ⟨[5], false, false, [.d (.list (TPose))]⟩, ⟨[6], false, false, [.v 51 (.list (TIVec))]⟩, ⟨[7], false, false, [.d (.int .i64)]⟩]
abbrev os_armplanref10_Points_L0 : List (Exit × List Slot) := [(.exit 0, [⟨[2], true, false, [.d (TScene)]⟩, ⟨[6], false, false, [.v 51 (.list (TIVec))]⟩])]
def t_armplanref10_Points_L0 (a0 : DScene) (a1 : List (DPose)) (a2 : List (List (DIVec))) (a3 : Int) : Tr (Sl ss_armplanref10_Points_L0 ⊕ Outs os_armplanref10_Points_L0) :=
  let x1 : Bool := decide (a3 < ((a0.2.1.length : Nat) : Int))
  .br (x1) (
   let r2 : DPose := armplanref1_Rest
   .br (decide (0 ≤ a3) && decide (a3 < ((a0.2.1.length : Nat) : Int))) (
    let x3 : Bool := !decide (((List.getD a0.2.1 a3.toNat (Ty.dflt (TShape)))).1 = (-1))
    .br (x3) (
     .br (decide (0 ≤ a3) && decide (a3 < ((a0.2.1.length : Nat) : Int))) (
      .br (decide (0 ≤ ((List.getD a0.2.1 a3.toNat (Ty.dflt (TShape)))).1) && decide (((List.getD a0.2.1 a3.toNat (Ty.dflt (TShape)))).1 < ((a1.length : Nat) : Int))) (
       .br (decide (0 ≤ a3) && decide (a3 < ((a0.2.1.length : Nat) : Int))) (
        let r4 : List (DIVec) := armplanref10_Place (List.getD a0.2.1 a3.toNat (Ty.dflt (TShape))) (List.getD a1 (((List.getD a0.2.1 a3.toNat (Ty.dflt (TShape)))).1).toNat (Ty.dflt (TPose)))
        .br (dom_armplanref10_Place (List.getD a0.2.1 a3.toNat (Ty.dflt (TShape))) (List.getD a1 (((List.getD a0.2.1 a3.toNat (Ty.dflt (TShape)))).1).toNat (Ty.dflt (TPose)))) (
         .br (room (a2.length + [r4].length)) (
          let x5 : Int := IntKind.wrap .i64 (a3 + 1)
          .leaf (.inl ((a0, ()), (a1, ()), ((a2 ++ [r4]), ()), (x5, ()), ()))) .fail) .fail) .fail) .fail) .fail) (
     .br (decide (0 ≤ a3) && decide (a3 < ((a0.2.1.length : Nat) : Int))) (
      let r6 : List (DIVec) := armplanref10_Place (List.getD a0.2.1 a3.toNat (Ty.dflt (TShape))) r2
      .br (dom_armplanref10_Place (List.getD a0.2.1 a3.toNat (Ty.dflt (TShape))) r2) (
       .br (room (a2.length + [r6].length)) (
        let x7 : Int := IntKind.wrap .i64 (a3 + 1)
        .leaf (.inl ((a0, ()), (a1, ()), ((a2 ++ [r6]), ()), (x7, ()), ()))) .fail) .fail) .fail)) .fail) (
   .leaf (.inr ((a0, ()), (a2, ()), ())))
def step_armplanref10_Points_L0 : Sl ss_armplanref10_Points_L0 → Option (Sl ss_armplanref10_Points_L0 ⊕ Outs os_armplanref10_Points_L0) := fun x => (t_armplanref10_Points_L0 x.1.1 x.2.1.1 x.2.2.1.1 x.2.2.2.1.1).optA id
theorem run_armplanref10_Points_L0 : ∀ (x : Sl ss_armplanref10_Points_L0) (vs : Nat → Value), run (mkC htys heqs [(65, hd_armplanref1_Rest), (66, hd_armplanref10_Place)] [] noLoops) 200 35 (loopBody 0 (Tryz.f35.body.getD .skip)) (mkSt ss_armplanref10_Points_L0 x (baseT 58 [] [] vs)) (endK ss_armplanref10_Points_L0 os_armplanref10_Points_L0 58 []) = (t_armplanref10_Points_L0 x.1.1 x.2.1.1 x.2.2.1.1 x.2.2.2.1.1).optA fun r => (r, [].map (keptA [] vs)) := by
  intro x vs; kernel_rfl
instance inh_armplanref10_Points_L0 : Inhabited (Outs os_armplanref10_Points_L0) := ⟨outsDflt os_armplanref10_Points_L0⟩
def dom_armplanref10_Points_L0 (x : Sl ss_armplanref10_Points_L0) : Bool := (loopN step_armplanref10_Points_L0 rounds x).isSome
def val_armplanref10_Points_L0 (x : Sl ss_armplanref10_Points_L0) : Outs os_armplanref10_Points_L0 := (loopN step_armplanref10_Points_L0 rounds x).getD default
def loop_armplanref10_Points_L0 : LoopD := mkLoop ss_armplanref10_Points_L0 os_armplanref10_Points_L0 58 [] [] step_armplanref10_Points_L0 dom_armplanref10_Points_L0 val_armplanref10_Points_L0 (loop_hv step_armplanref10_Points_L0)
theorem lok_armplanref10_Points_L0 : LoopOk Tryz.prog (loopLH loop_armplanref10_Points_L0 0) 0 (.loop (loopBody 0 (Tryz.f35.body.getD .skip))) := loop_in (D := loop_armplanref10_Points_L0) (n := 200) (cur := 35) (mkC_ok htys_ok heqs_ok (fns_cons ok_armplanref1_Rest (fns_cons ok_armplanref10_Place (fns_nil _))) (inl_nil _) noLoops_ok mixed) Tryz.func35 (by kernel_rfl) (turns_of run_armplanref10_Points_L0) (by kernel_rfl) (by kernel_rfl) (by kernel_rfl)

/- armplan/armplanref10.Points -/
def t_armplanref10_Points (a0 : DScene) (a1 : List ((Int × Int))) : Tr (List (List (DIVec))) :=
  let r1 : Int := armplanref6_CheckScene a0
  .br (dom_armplanref6_CheckScene a0) (
   let x2 : Bool := !decide (r1 = 0)
   .br (x2) (
    .leaf []) (
    let r3 : Bool := armplanref10_IsBox a0.1 a1
    .br (dom_armplanref10_IsBox a0.1 a1) (
     .br ((!r3)) (
      .leaf []) (
      let r4 : List (DPose) := armplanref10_Links a0.1 a1
      .br (dom_armplanref10_Links a0.1 a1) (
       let r5 : Outs os_armplanref10_Points_L0 := val_armplanref10_Points_L0 ((a0, ()), (r4, ()), ([], ()), (0, ()), ())
       .br (dom_armplanref10_Points_L0 ((a0, ()), (r4, ()), ([], ()), (0, ()), ())) (
        let y6 : DScene := r5.1.1
        let y7 : List (List (DIVec)) := r5.2.1.1
        .leaf y7) .fail) .fail)) .fail)) .fail
def armplanref10_Points (a0 : DScene) (a1 : List ((Int × Int))) : List (List (DIVec)) := (t_armplanref10_Points a0 a1).val
def dom_armplanref10_Points (a0 : DScene) (a1 : List ((Int × Int))) : Bool := (t_armplanref10_Points a0 a1).dom
theorem run_armplanref10_Points : ∀ x, runF (mkC htys heqs [(33, hd_armplanref10_Links), (60, hd_armplanref10_IsBox), (64, hd_armplanref6_CheckScene)] [] (lpOne 35 0 (loopLH loop_armplanref10_Points_L0 0) noLoops)) 200 35 Tryz.f35 (argsA [TScene, .list (.pair (.int .i64) (.int .i64))] x) [] (fun v h => toRes h [.list (.list (TIVec))] v) = (t_armplanref10_Points x.1 x.2.1).optA (fun r => (r, ())) := by
  intro x; kernel_rfl
theorem fn_armplanref10_Points : FnOk Tryz.prog 35 [TScene, .list (.pair (.int .i64) (.int .i64))] [.list (.list (TIVec))] (fun x => bif dom_armplanref10_Points x.1 x.2.1 then some ((fun r => (r, ())) (armplanref10_Points x.1 x.2.1)) else none) :=
  fn_part (t := fun (x : Ar [TScene, .list (.pair (.int .i64) (.int .i64))]) => t_armplanref10_Points x.1 x.2.1) (R := List (List (DIVec))) (Ts := [.list (.list (TIVec))]) (mk := (fun r => (r, ()))) (mkC_ok htys_ok heqs_ok (fns_cons ok_armplanref10_Links (fns_cons ok_armplanref10_IsBox (fns_cons ok_armplanref6_CheckScene (fns_nil _)))) (inl_nil _) (lpOne_ok (b := loopBody 0 (Tryz.f35.body.getD .skip)) Tryz.func35 (by kernel_rfl) lok_armplanref10_Points_L0 noLoops_ok) mixed) Tryz.func35 run_armplanref10_Points
def hd_armplanref10_Points : Hd := guardHd [TScene, .list (.pair (.int .i64) (.int .i64))] [.list (.list (TIVec))] (fun x => dom_armplanref10_Points x.1 x.2.1) (fun x => (fun r => (r, ())) (armplanref10_Points x.1 x.2.1))
theorem ok_armplanref10_Points : HdOk Tryz.prog 35 hd_armplanref10_Points.sem ∧ Enters Tryz.prog 35 := guard_ok fn_armplanref10_Points Tryz.func35 (by kernel_rfl) (by kernel_rfl)

end Go.RX

/-
  The contracts of functions.
-/
namespace Go.RX
open Go.Proofs

def itys : List (Nat × TRow) := [(2, ⟨.int .i64, 1, 8, [.int .i64 0], .int .i64⟩),
  (22, ⟨.slice 80, 1, 24, [.slice none 0 0], .list (TJoint)⟩),
  (25, ⟨.struct [(0, 1), (1, 1)], 2, 48, [.slice none 0 0, .slice none 0 0], TRobot⟩),
  (26, ⟨.slice 54, 1, 24, [.slice none 0 0], .list (TShape)⟩),
  (29, ⟨.struct [(0, 2), (2, 1), (3, 1)], 4, 96, [.slice none 0 0, .slice none 0 0, .slice none 0 0, .slice none 0 0], TScene⟩),
  (30, ⟨.slice 44, 1, 24, [.slice none 0 0], .list (.pair (.int .i64) (.int .i64))⟩),
  (38, ⟨.slice 50, 1, 24, [.slice none 0 0], .list (TPose)⟩),
  (40, ⟨.slice 51, 1, 24, [.slice none 0 0], .list (.list (TIVec))⟩),
  (44, ⟨.struct [(0, 1), (1, 1)], 2, 16, [.int .i64 0, .int .i64 0], .pair (.int .i64) (.int .i64)⟩),
  (48, ⟨.arr 3 44, 6, 48, [.int .i64 0, .int .i64 0, .int .i64 0, .int .i64 0, .int .i64 0, .int .i64 0], TIVec⟩),
  (50, ⟨.struct [(0, 18), (18, 6)], 24, 192, [.int .i64 0, .int .i64 0, .int .i64 0, .int .i64 0, .int .i64 0, .int .i64 0, .int .i64 0, .int .i64 0, .int .i64 0, .int .i64 0, .int .i64 0, .int .i64 0, .int .i64 0, .int .i64 0, .int .i64 0, .int .i64 0, .int .i64 0, .int .i64 0, .int .i64 0, .int .i64 0, .int .i64 0, .int .i64 0, .int .i64 0, .int .i64 0], TPose⟩),
  (51, ⟨.slice 48, 1, 24, [.slice none 0 0], .list (TIVec)⟩),
  (52, ⟨.slice 66, 1, 24, [.slice none 0 0], .list (TVec)⟩),
  (54, ⟨.struct [(0, 1), (1, 1), (2, 1)], 3, 40, [.int .i64 0, .int .i64 0, .slice none 0 0], TShape⟩),
  (60, ⟨.slice 2, 1, 24, [.slice none 0 0], .list (.int .i64)⟩),
  (66, ⟨.arr 3 2, 3, 24, [.int .i64 0, .int .i64 0, .int .i64 0], TVec⟩),
  (80, ⟨.struct [(0, 1), (1, 1), (2, 1), (3, 3), (6, 1), (7, 1), (8, 1), (9, 1), (10, 1), (11, 1)], 12, 104, [.string (ByteArray.mk #[]), .int .i64 0, .int .i64 0, .int .i64 0, .int .i64 0, .int .i64 0, .int .i64 0, .int .i64 0, .int .i64 0, .int .i64 0, .int .i64 0, .int .i64 0], TJoint⟩),
  (103, ⟨.struct [(0, 1), (1, 1)], 2, 32, [.slice none 0 0, .int .i64 0], TSource⟩)]
def ieqs : List (Nat × (Bool × List TK)) := [(48, (true, [.int .i64, .int .i64, .int .i64, .int .i64, .int .i64, .int .i64])),
  (50, (true, [.int .i64, .int .i64, .int .i64, .int .i64, .int .i64, .int .i64, .int .i64, .int .i64, .int .i64, .int .i64, .int .i64, .int .i64, .int .i64, .int .i64, .int .i64, .int .i64, .int .i64, .int .i64, .int .i64, .int .i64, .int .i64, .int .i64, .int .i64, .int .i64]))]
theorem itys_ok : tableOk Tryz.prog itys = true := by kernel_rfl
theorem ieqs_ok : eqsOk Tryz.prog ieqs = true := by kernel_rfl

/- loop 0 of armplan/armplanmake.Same[armplan/api.Pose] -/
abbrev ss_armplanmake_Same_api_Pose__L0 : List Slot := [⟨[0], false, false, [.d (.list (TPose))]⟩, ⟨[1], false, false, [.d (.list (TPose))]⟩, ⟨[5], false, false, [.d (.int .i64)]⟩]
abbrev os_armplanmake_Same_api_Pose__L0 : List (Exit × List Slot) := [(.exit 0, []), (.ret, [⟨[4], false, false, [.d (.bool)]⟩])]
def t_armplanmake_Same_api_Pose__L0 (a0 : List (DPose)) (a1 : List (DPose)) (a2 : Int) : Tr (Sl ss_armplanmake_Same_api_Pose__L0 ⊕ Outs os_armplanmake_Same_api_Pose__L0) :=
  let x1 : Bool := decide (a2 < ((a0.length : Nat) : Int))
  .br (x1) (
   .br (decide (0 ≤ a2) && decide (a2 < ((a0.length : Nat) : Int))) (
    .br (decide (0 ≤ a2) && decide (a2 < ((a1.length : Nat) : Int))) (
     let x2 : Bool := !(decide ((((((List.getD a0 a2.toNat (Ty.dflt (TPose)))).1).1).1).1 = (((((List.getD a1 a2.toNat (Ty.dflt (TPose)))).1).1).1).1) && (decide ((((((List.getD a0 a2.toNat (Ty.dflt (TPose)))).1).1).1).2 = (((((List.getD a1 a2.toNat (Ty.dflt (TPose)))).1).1).1).2) && (decide (((((((List.getD a0 a2.toNat (Ty.dflt (TPose)))).1).1).2).1).1 = ((((((List.getD a1 a2.toNat (Ty.dflt (TPose)))).1).1).2).1).1) && (decide (((((((List.getD a0 a2.toNat (Ty.dflt (TPose)))).1).1).2).1).2 = ((((((List.getD a1 a2.toNat (Ty.dflt (TPose)))).1).1).2).1).2) && (decide (((((((List.getD a0 a2.toNat (Ty.dflt (TPose)))).1).1).2).2).1 = ((((((List.getD a1 a2.toNat (Ty.dflt (TPose)))).1).1).2).2).1) && (decide (((((((List.getD a0 a2.toNat (Ty.dflt (TPose)))).1).1).2).2).2 = ((((((List.getD a1 a2.toNat (Ty.dflt (TPose)))).1).1).2).2).2) && (decide (((((((List.getD a0 a2.toNat (Ty.dflt (TPose)))).1).2).1).1).1 = ((((((List.getD a1 a2.toNat (Ty.dflt (TPose)))).1).2).1).1).1) && (decide (((((((List.getD a0 a2.toNat (Ty.dflt (TPose)))).1).2).1).1).2 = ((((((List.getD a1 a2.toNat (Ty.dflt (TPose)))).1).2).1).1).2) && (decide ((((((((List.getD a0 a2.toNat (Ty.dflt (TPose)))).1).2).1).2).1).1 = (((((((List.getD a1 a2.toNat (Ty.dflt (TPose)))).1).2).1).2).1).1) && (decide ((((((((List.getD a0 a2.toNat (Ty.dflt (TPose)))).1).2).1).2).1).2 = (((((((List.getD a1 a2.toNat (Ty.dflt (TPose)))).1).2).1).2).1).2) && (decide ((((((((List.getD a0 a2.toNat (Ty.dflt (TPose)))).1).2).1).2).2).1 = (((((((List.getD a1 a2.toNat (Ty.dflt (TPose)))).1).2).1).2).2).1) && (decide ((((((((List.getD a0 a2.toNat (Ty.dflt (TPose)))).1).2).1).2).2).2 = (((((((List.getD a1 a2.toNat (Ty.dflt (TPose)))).1).2).1).2).2).2) && (decide (((((((List.getD a0 a2.toNat (Ty.dflt (TPose)))).1).2).2).1).1 = ((((((List.getD a1 a2.toNat (Ty.dflt (TPose)))).1).2).2).1).1) && (decide (((((((List.getD a0 a2.toNat (Ty.dflt (TPose)))).1).2).2).1).2 = ((((((List.getD a1 a2.toNat (Ty.dflt (TPose)))).1).2).2).1).2) && (decide ((((((((List.getD a0 a2.toNat (Ty.dflt (TPose)))).1).2).2).2).1).1 = (((((((List.getD a1 a2.toNat (Ty.dflt (TPose)))).1).2).2).2).1).1) && (decide ((((((((List.getD a0 a2.toNat (Ty.dflt (TPose)))).1).2).2).2).1).2 = (((((((List.getD a1 a2.toNat (Ty.dflt (TPose)))).1).2).2).2).1).2) && (decide ((((((((List.getD a0 a2.toNat (Ty.dflt (TPose)))).1).2).2).2).2).1 = (((((((List.getD a1 a2.toNat (Ty.dflt (TPose)))).1).2).2).2).2).1) && (decide ((((((((List.getD a0 a2.toNat (Ty.dflt (TPose)))).1).2).2).2).2).2 = (((((((List.getD a1 a2.toNat (Ty.dflt (TPose)))).1).2).2).2).2).2) && (decide (((((List.getD a0 a2.toNat (Ty.dflt (TPose)))).2).1).1 = ((((List.getD a1 a2.toNat (Ty.dflt (TPose)))).2).1).1) && (decide (((((List.getD a0 a2.toNat (Ty.dflt (TPose)))).2).1).2 = ((((List.getD a1 a2.toNat (Ty.dflt (TPose)))).2).1).2) && (decide ((((((List.getD a0 a2.toNat (Ty.dflt (TPose)))).2).2).1).1 = (((((List.getD a1 a2.toNat (Ty.dflt (TPose)))).2).2).1).1) && (decide ((((((List.getD a0 a2.toNat (Ty.dflt (TPose)))).2).2).1).2 = (((((List.getD a1 a2.toNat (Ty.dflt (TPose)))).2).2).1).2) && (decide ((((((List.getD a0 a2.toNat (Ty.dflt (TPose)))).2).2).2).1 = (((((List.getD a1 a2.toNat (Ty.dflt (TPose)))).2).2).2).1) && (decide ((((((List.getD a0 a2.toNat (Ty.dflt (TPose)))).2).2).2).2 = (((((List.getD a1 a2.toNat (Ty.dflt (TPose)))).2).2).2).2) && true))))))))))))))))))))))))
     .br (x2) (
      .leaf (.inr (.inr ((false, ()), ())))) (
      let x3 : Int := IntKind.wrap .i64 (a2 + 1)
      .leaf (.inl ((a0, ()), (a1, ()), (x3, ()), ())))) .fail) .fail) (
   .leaf (.inr (.inl ())))
def step_armplanmake_Same_api_Pose__L0 : Sl ss_armplanmake_Same_api_Pose__L0 → Option (Sl ss_armplanmake_Same_api_Pose__L0 ⊕ Outs os_armplanmake_Same_api_Pose__L0) := fun x => (t_armplanmake_Same_api_Pose__L0 x.1.1 x.2.1.1 x.2.2.1.1).optA id
theorem run_armplanmake_Same_api_Pose__L0 : ∀ (x : Sl ss_armplanmake_Same_api_Pose__L0) (vs : Nat → Value), run (mkC itys ieqs [] [] noLoops) 200 32 (loopBody 0 (Tryz.f32.body.getD .skip)) (mkSt ss_armplanmake_Same_api_Pose__L0 x (baseT 26 [] [] vs)) (endK ss_armplanmake_Same_api_Pose__L0 os_armplanmake_Same_api_Pose__L0 26 []) = (t_armplanmake_Same_api_Pose__L0 x.1.1 x.2.1.1 x.2.2.1.1).optA fun r => (r, [].map (keptA [] vs)) := by
  intro x vs; kernel_rfl
instance inh_armplanmake_Same_api_Pose__L0 : Inhabited (Outs os_armplanmake_Same_api_Pose__L0) := ⟨outsDflt os_armplanmake_Same_api_Pose__L0⟩
def dom_armplanmake_Same_api_Pose__L0 (x : Sl ss_armplanmake_Same_api_Pose__L0) : Bool := (loopN step_armplanmake_Same_api_Pose__L0 rounds x).isSome
def val_armplanmake_Same_api_Pose__L0 (x : Sl ss_armplanmake_Same_api_Pose__L0) : Outs os_armplanmake_Same_api_Pose__L0 := (loopN step_armplanmake_Same_api_Pose__L0 rounds x).getD default
def loop_armplanmake_Same_api_Pose__L0 : LoopD := mkLoop ss_armplanmake_Same_api_Pose__L0 os_armplanmake_Same_api_Pose__L0 26 [] [] step_armplanmake_Same_api_Pose__L0 dom_armplanmake_Same_api_Pose__L0 val_armplanmake_Same_api_Pose__L0 (loop_hv step_armplanmake_Same_api_Pose__L0)
theorem lok_armplanmake_Same_api_Pose__L0 : LoopOk Tryz.prog (loopLH loop_armplanmake_Same_api_Pose__L0 0) 0 (.loop (loopBody 0 (Tryz.f32.body.getD .skip))) := loop_in (D := loop_armplanmake_Same_api_Pose__L0) (n := 200) (cur := 32) (mkC_ok itys_ok ieqs_ok (fns_nil _) (inl_nil _) noLoops_ok mixed) Tryz.func32 (by kernel_rfl) (turns_of run_armplanmake_Same_api_Pose__L0) (by kernel_rfl) (by kernel_rfl) (by kernel_rfl)

/- armplan/armplanmake.Same[armplan/api.Pose] -/
def t_armplanmake_Same_api_Pose_ (a0 : List (DPose)) (a1 : List (DPose)) : Tr Bool :=
  let x1 : Bool := !decide (((a0.length : Nat) : Int) = ((a1.length : Nat) : Int))
  .br (x1) (
   .leaf false) (
   let r2 : Outs os_armplanmake_Same_api_Pose__L0 := val_armplanmake_Same_api_Pose__L0 ((a0, ()), (a1, ()), (0, ()), ())
   .br (dom_armplanmake_Same_api_Pose__L0 ((a0, ()), (a1, ()), (0, ()), ())) (
    let r3 := getL r2
    let r4 := getR r2
    .br (isL r2) (
     .leaf true) (
     let y5 : Bool := r4.1.1
     .leaf y5)) .fail)
def armplanmake_Same_api_Pose_ (a0 : List (DPose)) (a1 : List (DPose)) : Bool := (t_armplanmake_Same_api_Pose_ a0 a1).val
def dom_armplanmake_Same_api_Pose_ (a0 : List (DPose)) (a1 : List (DPose)) : Bool := (t_armplanmake_Same_api_Pose_ a0 a1).dom
theorem run_armplanmake_Same_api_Pose_ : ∀ x, runF (mkC itys ieqs [] [] (lpOne 32 0 (loopLH loop_armplanmake_Same_api_Pose__L0 0) noLoops)) 200 32 Tryz.f32 (argsA [.list (TPose), .list (TPose)] x) [] (fun v h => toRes h [.bool] v) = (t_armplanmake_Same_api_Pose_ x.1 x.2.1).optA (fun r => (r, ())) := by
  intro x; kernel_rfl
theorem fn_armplanmake_Same_api_Pose_ : FnOk Tryz.prog 32 [.list (TPose), .list (TPose)] [.bool] (fun x => bif dom_armplanmake_Same_api_Pose_ x.1 x.2.1 then some ((fun r => (r, ())) (armplanmake_Same_api_Pose_ x.1 x.2.1)) else none) :=
  fn_part (t := fun (x : Ar [.list (TPose), .list (TPose)]) => t_armplanmake_Same_api_Pose_ x.1 x.2.1) (R := Bool) (Ts := [.bool]) (mk := (fun r => (r, ()))) (mkC_ok itys_ok ieqs_ok (fns_nil _) (inl_nil _) (lpOne_ok (b := loopBody 0 (Tryz.f32.body.getD .skip)) Tryz.func32 (by kernel_rfl) lok_armplanmake_Same_api_Pose__L0 noLoops_ok) mixed) Tryz.func32 run_armplanmake_Same_api_Pose_
def hd_armplanmake_Same_api_Pose_ : Hd := guardHd [.list (TPose), .list (TPose)] [.bool] (fun x => dom_armplanmake_Same_api_Pose_ x.1 x.2.1) (fun x => (fun r => (r, ())) (armplanmake_Same_api_Pose_ x.1 x.2.1))
theorem ok_armplanmake_Same_api_Pose_ : HdOk Tryz.prog 32 hd_armplanmake_Same_api_Pose_.sem ∧ Enters Tryz.prog 32 := guard_ok fn_armplanmake_Same_api_Pose_ Tryz.func32 (by kernel_rfl) (by kernel_rfl)

/- loop 0 of armplan/armplanmake.Same[armplan/api.IVec] -/
abbrev ss_armplanmake_Same_api_IVec__L0 : List Slot := [⟨[0], false, false, [.d (.list (TIVec))]⟩, ⟨[1], false, false, [.d (.list (TIVec))]⟩, ⟨[5], false, false, [.d (.int .i64)]⟩]
abbrev os_armplanmake_Same_api_IVec__L0 : List (Exit × List Slot) := [(.exit 0, []), (.ret, [⟨[4], false, false, [.d (.bool)]⟩])]
def t_armplanmake_Same_api_IVec__L0 (a0 : List (DIVec)) (a1 : List (DIVec)) (a2 : Int) : Tr (Sl ss_armplanmake_Same_api_IVec__L0 ⊕ Outs os_armplanmake_Same_api_IVec__L0) :=
  let x1 : Bool := decide (a2 < ((a0.length : Nat) : Int))
  .br (x1) (
   .br (decide (0 ≤ a2) && decide (a2 < ((a0.length : Nat) : Int))) (
    .br (decide (0 ≤ a2) && decide (a2 < ((a1.length : Nat) : Int))) (
     let x2 : Bool := !(decide ((((List.getD a0 a2.toNat (Ty.dflt (TIVec)))).1).1 = (((List.getD a1 a2.toNat (Ty.dflt (TIVec)))).1).1) && (decide ((((List.getD a0 a2.toNat (Ty.dflt (TIVec)))).1).2 = (((List.getD a1 a2.toNat (Ty.dflt (TIVec)))).1).2) && (decide (((((List.getD a0 a2.toNat (Ty.dflt (TIVec)))).2).1).1 = ((((List.getD a1 a2.toNat (Ty.dflt (TIVec)))).2).1).1) && (decide (((((List.getD a0 a2.toNat (Ty.dflt (TIVec)))).2).1).2 = ((((List.getD a1 a2.toNat (Ty.dflt (TIVec)))).2).1).2) && (decide (((((List.getD a0 a2.toNat (Ty.dflt (TIVec)))).2).2).1 = ((((List.getD a1 a2.toNat (Ty.dflt (TIVec)))).2).2).1) && (decide (((((List.getD a0 a2.toNat (Ty.dflt (TIVec)))).2).2).2 = ((((List.getD a1 a2.toNat (Ty.dflt (TIVec)))).2).2).2) && true))))))
     .br (x2) (
      .leaf (.inr (.inr ((false, ()), ())))) (
      let x3 : Int := IntKind.wrap .i64 (a2 + 1)
      .leaf (.inl ((a0, ()), (a1, ()), (x3, ()), ())))) .fail) .fail) (
   .leaf (.inr (.inl ())))
def step_armplanmake_Same_api_IVec__L0 : Sl ss_armplanmake_Same_api_IVec__L0 → Option (Sl ss_armplanmake_Same_api_IVec__L0 ⊕ Outs os_armplanmake_Same_api_IVec__L0) := fun x => (t_armplanmake_Same_api_IVec__L0 x.1.1 x.2.1.1 x.2.2.1.1).optA id
theorem run_armplanmake_Same_api_IVec__L0 : ∀ (x : Sl ss_armplanmake_Same_api_IVec__L0) (vs : Nat → Value), run (mkC itys ieqs [] [] noLoops) 200 63 (loopBody 0 (Tryz.f63.body.getD .skip)) (mkSt ss_armplanmake_Same_api_IVec__L0 x (baseT 26 [] [] vs)) (endK ss_armplanmake_Same_api_IVec__L0 os_armplanmake_Same_api_IVec__L0 26 []) = (t_armplanmake_Same_api_IVec__L0 x.1.1 x.2.1.1 x.2.2.1.1).optA fun r => (r, [].map (keptA [] vs)) := by
  intro x vs; kernel_rfl
instance inh_armplanmake_Same_api_IVec__L0 : Inhabited (Outs os_armplanmake_Same_api_IVec__L0) := ⟨outsDflt os_armplanmake_Same_api_IVec__L0⟩
def dom_armplanmake_Same_api_IVec__L0 (x : Sl ss_armplanmake_Same_api_IVec__L0) : Bool := (loopN step_armplanmake_Same_api_IVec__L0 rounds x).isSome
def val_armplanmake_Same_api_IVec__L0 (x : Sl ss_armplanmake_Same_api_IVec__L0) : Outs os_armplanmake_Same_api_IVec__L0 := (loopN step_armplanmake_Same_api_IVec__L0 rounds x).getD default
def loop_armplanmake_Same_api_IVec__L0 : LoopD := mkLoop ss_armplanmake_Same_api_IVec__L0 os_armplanmake_Same_api_IVec__L0 26 [] [] step_armplanmake_Same_api_IVec__L0 dom_armplanmake_Same_api_IVec__L0 val_armplanmake_Same_api_IVec__L0 (loop_hv step_armplanmake_Same_api_IVec__L0)
theorem lok_armplanmake_Same_api_IVec__L0 : LoopOk Tryz.prog (loopLH loop_armplanmake_Same_api_IVec__L0 0) 0 (.loop (loopBody 0 (Tryz.f63.body.getD .skip))) := loop_in (D := loop_armplanmake_Same_api_IVec__L0) (n := 200) (cur := 63) (mkC_ok itys_ok ieqs_ok (fns_nil _) (inl_nil _) noLoops_ok mixed) Tryz.func63 (by kernel_rfl) (turns_of run_armplanmake_Same_api_IVec__L0) (by kernel_rfl) (by kernel_rfl) (by kernel_rfl)

/- armplan/armplanmake.Same[armplan/api.IVec] -/
def t_armplanmake_Same_api_IVec_ (a0 : List (DIVec)) (a1 : List (DIVec)) : Tr Bool :=
  let x1 : Bool := !decide (((a0.length : Nat) : Int) = ((a1.length : Nat) : Int))
  .br (x1) (
   .leaf false) (
   let r2 : Outs os_armplanmake_Same_api_IVec__L0 := val_armplanmake_Same_api_IVec__L0 ((a0, ()), (a1, ()), (0, ()), ())
   .br (dom_armplanmake_Same_api_IVec__L0 ((a0, ()), (a1, ()), (0, ()), ())) (
    let r3 := getL r2
    let r4 := getR r2
    .br (isL r2) (
     .leaf true) (
     let y5 : Bool := r4.1.1
     .leaf y5)) .fail)
def armplanmake_Same_api_IVec_ (a0 : List (DIVec)) (a1 : List (DIVec)) : Bool := (t_armplanmake_Same_api_IVec_ a0 a1).val
def dom_armplanmake_Same_api_IVec_ (a0 : List (DIVec)) (a1 : List (DIVec)) : Bool := (t_armplanmake_Same_api_IVec_ a0 a1).dom
theorem run_armplanmake_Same_api_IVec_ : ∀ x, runF (mkC itys ieqs [] [] (lpOne 63 0 (loopLH loop_armplanmake_Same_api_IVec__L0 0) noLoops)) 200 63 Tryz.f63 (argsA [.list (TIVec), .list (TIVec)] x) [] (fun v h => toRes h [.bool] v) = (t_armplanmake_Same_api_IVec_ x.1 x.2.1).optA (fun r => (r, ())) := by
  intro x; kernel_rfl
theorem fn_armplanmake_Same_api_IVec_ : FnOk Tryz.prog 63 [.list (TIVec), .list (TIVec)] [.bool] (fun x => bif dom_armplanmake_Same_api_IVec_ x.1 x.2.1 then some ((fun r => (r, ())) (armplanmake_Same_api_IVec_ x.1 x.2.1)) else none) :=
  fn_part (t := fun (x : Ar [.list (TIVec), .list (TIVec)]) => t_armplanmake_Same_api_IVec_ x.1 x.2.1) (R := Bool) (Ts := [.bool]) (mk := (fun r => (r, ()))) (mkC_ok itys_ok ieqs_ok (fns_nil _) (inl_nil _) (lpOne_ok (b := loopBody 0 (Tryz.f63.body.getD .skip)) Tryz.func63 (by kernel_rfl) lok_armplanmake_Same_api_IVec__L0 noLoops_ok) mixed) Tryz.func63 run_armplanmake_Same_api_IVec_
def hd_armplanmake_Same_api_IVec_ : Hd := guardHd [.list (TIVec), .list (TIVec)] [.bool] (fun x => dom_armplanmake_Same_api_IVec_ x.1 x.2.1) (fun x => (fun r => (r, ())) (armplanmake_Same_api_IVec_ x.1 x.2.1))
theorem ok_armplanmake_Same_api_IVec_ : HdOk Tryz.prog 63 hd_armplanmake_Same_api_IVec_.sem ∧ Enters Tryz.prog 63 := guard_ok fn_armplanmake_Same_api_IVec_ Tryz.func63 (by kernel_rfl) (by kernel_rfl)

/- loop 0 of armplan/armplanmake.SameLists[armplan/api.IVec] -/
abbrev ss_armplanmake_SameLists_api_IVec__L0 : List Slot := [⟨[0], false, false, [.d (.list (.list (TIVec)))]⟩, ⟨[1], false, false, [.d (.list (.list (TIVec)))]⟩, ⟨[5], false, false, [.d (.int .i64)]⟩]
abbrev os_armplanmake_SameLists_api_IVec__L0 : List (Exit × List Slot) := [(.exit 0, []), (.ret, [⟨[4], false, false, [.d (.bool)]⟩])]
def t_armplanmake_SameLists_api_IVec__L0 (a0 : List (List (DIVec))) (a1 : List (List (DIVec))) (a2 : Int) : Tr (Sl ss_armplanmake_SameLists_api_IVec__L0 ⊕ Outs os_armplanmake_SameLists_api_IVec__L0) :=
  let x1 : Bool := decide (a2 < ((a0.length : Nat) : Int))
  .br (x1) (
   .br (decide (0 ≤ a2) && decide (a2 < ((a0.length : Nat) : Int))) (
    .br (decide (0 ≤ a2) && decide (a2 < ((a1.length : Nat) : Int))) (
     let r2 : Bool := armplanmake_Same_api_IVec_ (List.getD a0 a2.toNat (Ty.dflt (.list (TIVec)))) (List.getD a1 a2.toNat (Ty.dflt (.list (TIVec))))
     .br (dom_armplanmake_Same_api_IVec_ (List.getD a0 a2.toNat (Ty.dflt (.list (TIVec)))) (List.getD a1 a2.toNat (Ty.dflt (.list (TIVec))))) (
      .br ((!r2)) (
       .leaf (.inr (.inr ((false, ()), ())))) (
       let x3 : Int := IntKind.wrap .i64 (a2 + 1)
       .leaf (.inl ((a0, ()), (a1, ()), (x3, ()), ())))) .fail) .fail) .fail) (
   .leaf (.inr (.inl ())))
def step_armplanmake_SameLists_api_IVec__L0 : Sl ss_armplanmake_SameLists_api_IVec__L0 → Option (Sl ss_armplanmake_SameLists_api_IVec__L0 ⊕ Outs os_armplanmake_SameLists_api_IVec__L0) := fun x => (t_armplanmake_SameLists_api_IVec__L0 x.1.1 x.2.1.1 x.2.2.1.1).optA id
theorem run_armplanmake_SameLists_api_IVec__L0 : ∀ (x : Sl ss_armplanmake_SameLists_api_IVec__L0) (vs : Nat → Value), run (mkC itys ieqs [(63, hd_armplanmake_Same_api_IVec_)] [] noLoops) 200 34 (loopBody 0 (Tryz.f34.body.getD .skip)) (mkSt ss_armplanmake_SameLists_api_IVec__L0 x (baseT 27 [] [] vs)) (endK ss_armplanmake_SameLists_api_IVec__L0 os_armplanmake_SameLists_api_IVec__L0 27 []) = (t_armplanmake_SameLists_api_IVec__L0 x.1.1 x.2.1.1 x.2.2.1.1).optA fun r => (r, [].map (keptA [] vs)) := by
  intro x vs; kernel_rfl
instance inh_armplanmake_SameLists_api_IVec__L0 : Inhabited (Outs os_armplanmake_SameLists_api_IVec__L0) := ⟨outsDflt os_armplanmake_SameLists_api_IVec__L0⟩
def dom_armplanmake_SameLists_api_IVec__L0 (x : Sl ss_armplanmake_SameLists_api_IVec__L0) : Bool := (loopN step_armplanmake_SameLists_api_IVec__L0 rounds x).isSome
def val_armplanmake_SameLists_api_IVec__L0 (x : Sl ss_armplanmake_SameLists_api_IVec__L0) : Outs os_armplanmake_SameLists_api_IVec__L0 := (loopN step_armplanmake_SameLists_api_IVec__L0 rounds x).getD default
def loop_armplanmake_SameLists_api_IVec__L0 : LoopD := mkLoop ss_armplanmake_SameLists_api_IVec__L0 os_armplanmake_SameLists_api_IVec__L0 27 [] [] step_armplanmake_SameLists_api_IVec__L0 dom_armplanmake_SameLists_api_IVec__L0 val_armplanmake_SameLists_api_IVec__L0 (loop_hv step_armplanmake_SameLists_api_IVec__L0)
theorem lok_armplanmake_SameLists_api_IVec__L0 : LoopOk Tryz.prog (loopLH loop_armplanmake_SameLists_api_IVec__L0 0) 0 (.loop (loopBody 0 (Tryz.f34.body.getD .skip))) := loop_in (D := loop_armplanmake_SameLists_api_IVec__L0) (n := 200) (cur := 34) (mkC_ok itys_ok ieqs_ok (fns_cons ok_armplanmake_Same_api_IVec_ (fns_nil _)) (inl_nil _) noLoops_ok mixed) Tryz.func34 (by kernel_rfl) (turns_of run_armplanmake_SameLists_api_IVec__L0) (by kernel_rfl) (by kernel_rfl) (by kernel_rfl)

/- armplan/armplanmake.SameLists[armplan/api.IVec] -/
def t_armplanmake_SameLists_api_IVec_ (a0 : List (List (DIVec))) (a1 : List (List (DIVec))) : Tr Bool :=
  let x1 : Bool := !decide (((a0.length : Nat) : Int) = ((a1.length : Nat) : Int))
  .br (x1) (
   .leaf false) (
   let r2 : Outs os_armplanmake_SameLists_api_IVec__L0 := val_armplanmake_SameLists_api_IVec__L0 ((a0, ()), (a1, ()), (0, ()), ())
   .br (dom_armplanmake_SameLists_api_IVec__L0 ((a0, ()), (a1, ()), (0, ()), ())) (
    let r3 := getL r2
    let r4 := getR r2
    .br (isL r2) (
     .leaf true) (
     let y5 : Bool := r4.1.1
     .leaf y5)) .fail)
def armplanmake_SameLists_api_IVec_ (a0 : List (List (DIVec))) (a1 : List (List (DIVec))) : Bool := (t_armplanmake_SameLists_api_IVec_ a0 a1).val
def dom_armplanmake_SameLists_api_IVec_ (a0 : List (List (DIVec))) (a1 : List (List (DIVec))) : Bool := (t_armplanmake_SameLists_api_IVec_ a0 a1).dom
theorem run_armplanmake_SameLists_api_IVec_ : ∀ x, runF (mkC itys ieqs [] [] (lpOne 34 0 (loopLH loop_armplanmake_SameLists_api_IVec__L0 0) noLoops)) 200 34 Tryz.f34 (argsA [.list (.list (TIVec)), .list (.list (TIVec))] x) [] (fun v h => toRes h [.bool] v) = (t_armplanmake_SameLists_api_IVec_ x.1 x.2.1).optA (fun r => (r, ())) := by
  intro x; kernel_rfl
theorem fn_armplanmake_SameLists_api_IVec_ : FnOk Tryz.prog 34 [.list (.list (TIVec)), .list (.list (TIVec))] [.bool] (fun x => bif dom_armplanmake_SameLists_api_IVec_ x.1 x.2.1 then some ((fun r => (r, ())) (armplanmake_SameLists_api_IVec_ x.1 x.2.1)) else none) :=
  fn_part (t := fun (x : Ar [.list (.list (TIVec)), .list (.list (TIVec))]) => t_armplanmake_SameLists_api_IVec_ x.1 x.2.1) (R := Bool) (Ts := [.bool]) (mk := (fun r => (r, ()))) (mkC_ok itys_ok ieqs_ok (fns_nil _) (inl_nil _) (lpOne_ok (b := loopBody 0 (Tryz.f34.body.getD .skip)) Tryz.func34 (by kernel_rfl) lok_armplanmake_SameLists_api_IVec__L0 noLoops_ok) mixed) Tryz.func34 run_armplanmake_SameLists_api_IVec_
def hd_armplanmake_SameLists_api_IVec_ : Hd := guardHd [.list (.list (TIVec)), .list (.list (TIVec))] [.bool] (fun x => dom_armplanmake_SameLists_api_IVec_ x.1 x.2.1) (fun x => (fun r => (r, ())) (armplanmake_SameLists_api_IVec_ x.1 x.2.1))
theorem ok_armplanmake_SameLists_api_IVec_ : HdOk Tryz.prog 34 hd_armplanmake_SameLists_api_IVec_.sem ∧ Enters Tryz.prog 34 := guard_ok fn_armplanmake_SameLists_api_IVec_ Tryz.func34 (by kernel_rfl) (by kernel_rfl)

/- armplan/armplanlaw11.links -/
def t_armplanlaw11_links (a0 : DScene) (a1 : List ((Int × Int))) : Tr Bool :=
  let r1 : List (DPose) := kinematics_Links a0.1 a1
  .br (dom_kinematics_Links a0.1 a1) (
   let r2 : List (DPose) := armplanref10_Links a0.1 a1
   .br (dom_armplanref10_Links a0.1 a1) (
    let r3 : Bool := armplanmake_Same_api_Pose_ r1 r2
    .br (dom_armplanmake_Same_api_Pose_ r1 r2) (
     .br (r3) (
      let r4 : List (List (DIVec)) := kinematics_Points a0 a1
      .br (dom_kinematics_Points a0 a1) (
       let r5 : List (List (DIVec)) := armplanref10_Points a0 a1
       .br (dom_armplanref10_Points a0 a1) (
        let r6 : Bool := armplanmake_SameLists_api_IVec_ r4 r5
        .br (dom_armplanmake_SameLists_api_IVec_ r4 r5) (
         .leaf r6) .fail) .fail) .fail) (
      .leaf false)) .fail) .fail) .fail
def armplanlaw11_links (a0 : DScene) (a1 : List ((Int × Int))) : Bool := (t_armplanlaw11_links a0 a1).val
def dom_armplanlaw11_links (a0 : DScene) (a1 : List ((Int × Int))) : Bool := (t_armplanlaw11_links a0 a1).dom
theorem run_armplanlaw11_links : ∀ x, runF (mkC itys ieqs [(12, hd_kinematics_Links), (13, hd_kinematics_Points), (32, hd_armplanmake_Same_api_Pose_), (33, hd_armplanref10_Links), (34, hd_armplanmake_SameLists_api_IVec_), (35, hd_armplanref10_Points)] [] noLoops) 200 10 Tryz.f10 (argsA [TScene, .list (.pair (.int .i64) (.int .i64))] x) [] (fun v h => toRes h [.bool] v) = (t_armplanlaw11_links x.1 x.2.1).optA (fun r => (r, ())) := by
  intro x; kernel_rfl
theorem fn_armplanlaw11_links : FnOk Tryz.prog 10 [TScene, .list (.pair (.int .i64) (.int .i64))] [.bool] (fun x => bif dom_armplanlaw11_links x.1 x.2.1 then some ((fun r => (r, ())) (armplanlaw11_links x.1 x.2.1)) else none) :=
  fn_part (t := fun (x : Ar [TScene, .list (.pair (.int .i64) (.int .i64))]) => t_armplanlaw11_links x.1 x.2.1) (R := Bool) (Ts := [.bool]) (mk := (fun r => (r, ()))) (mkC_ok itys_ok ieqs_ok (fns_cons ok_kinematics_Links (fns_cons ok_kinematics_Points (fns_cons ok_armplanmake_Same_api_Pose_ (fns_cons ok_armplanref10_Links (fns_cons ok_armplanmake_SameLists_api_IVec_ (fns_cons ok_armplanref10_Points (fns_nil _))))))) (inl_nil _) noLoops_ok mixed) Tryz.func10 run_armplanlaw11_links
def hd_armplanlaw11_links : Hd := guardHd [TScene, .list (.pair (.int .i64) (.int .i64))] [.bool] (fun x => dom_armplanlaw11_links x.1 x.2.1) (fun x => (fun r => (r, ())) (armplanlaw11_links x.1 x.2.1))
theorem ok_armplanlaw11_links : HdOk Tryz.prog 10 hd_armplanlaw11_links.sem ∧ Enters Tryz.prog 10 := guard_ok fn_armplanlaw11_links Tryz.func10 (by kernel_rfl) (by kernel_rfl)

/- loop 0 of armplan/armplanmake.Box -/
abbrev ss_armplanlaw11_KinematicsLinks_armplanmake_Box_L0 : List Slot := [⟨[2], true, false, [.d (TRobot)]⟩, ⟨[5], true, false, [.d (TSource)]⟩, ⟨[6], false, false, [.v 44 (.pair (.int .i64) (.int .i64))]⟩, ⟨[7], false, false, [.d (.int .i64)]⟩]
abbrev os_armplanlaw11_KinematicsLinks_armplanmake_Box_L0 : List (Exit × List Slot) := [(.exit 0, [⟨[2], true, false, [.d (TRobot)]⟩, ⟨[5], true, false, [.d (TSource)]⟩, ⟨[6], false, false, [.v 44 (.pair (.int .i64) (.int .i64))]⟩])]
def t_armplanlaw11_KinematicsLinks_armplanmake_Box_L0 (a0 : DRobot) (a1 : DSource) (a2 : List ((Int × Int))) (a3 : Int) : Tr (Sl ss_armplanlaw11_KinematicsLinks_armplanmake_Box_L0 ⊕ Outs os_armplanlaw11_KinematicsLinks_armplanmake_Box_L0) :=
  let x1 : Bool := decide (a3 < ((a0.1.length : Nat) : Int))
  .br (x1) (
   .br (decide (0 ≤ a3) && decide (a3 < ((a0.1.length : Nat) : Int))) (
    .br (decide (0 ≤ a3) && decide (a3 < ((a0.1.length : Nat) : Int))) (
     let x2 : Int := IntKind.wrap .i64 ((((((((List.getD a0.1 a3.toNat (Ty.dflt (TJoint)))).2).2).2).2).2).1 - ((((((List.getD a0.1 a3.toNat (Ty.dflt (TJoint)))).2).2).2).2).1)
     let x3 : Int := IntKind.wrap .i64 (x2 + 1)
     let r4 : (Int × DSource) := armplanmake_Source_Next a1 x3
     .br (dom_armplanmake_Source_Next a1 x3) (
      let x5 : Int := IntKind.wrap .i64 (((((((List.getD a0.1 a3.toNat (Ty.dflt (TJoint)))).2).2).2).2).1 + r4.1)
      let r6 : (Int × DSource) := armplanmake_Source_Next r4.2 5
      .br (dom_armplanmake_Source_Next r4.2 5) (
       let x7 : Bool := decide (r6.1 = 0)
       .br (x7) (
        let x8 : Int := IntKind.wrap .i64 ((((((((List.getD a0.1 a3.toNat (Ty.dflt (TJoint)))).2).2).2).2).2).1 - ((((((List.getD a0.1 a3.toNat (Ty.dflt (TJoint)))).2).2).2).2).1)
        let x9 : Int := IntKind.wrap .i64 (x5 + x8)
        let x10 : Int := if x9 < (((((((List.getD a0.1 a3.toNat (Ty.dflt (TJoint)))).2).2).2).2).2).1 then x9 else (((((((List.getD a0.1 a3.toNat (Ty.dflt (TJoint)))).2).2).2).2).2).1
        .br (room (a2.length + [(x5, x10)].length)) (
         let x11 : Int := IntKind.wrap .i64 (a3 + 1)
         .leaf (.inl ((a0, ()), (r6.2, ()), ((a2 ++ [(x5, x10)]), ()), (x11, ()), ()))) .fail) (
        let x12 : Bool := decide (r6.1 = 1)
        .br (x12) (
         let r13 : (Int × DSource) := armplanmake_Source_Next r6.2 3000
         .br (dom_armplanmake_Source_Next r6.2 3000) (
          let x14 : Int := IntKind.wrap .i64 (x5 + r13.1)
          let x15 : Int := if x14 < (((((((List.getD a0.1 a3.toNat (Ty.dflt (TJoint)))).2).2).2).2).2).1 then x14 else (((((((List.getD a0.1 a3.toNat (Ty.dflt (TJoint)))).2).2).2).2).2).1
          .br (room (a2.length + [(x5, x15)].length)) (
           let x16 : Int := IntKind.wrap .i64 (a3 + 1)
           .leaf (.inl ((a0, ()), (r13.2, ()), ((a2 ++ [(x5, x15)]), ()), (x16, ()), ()))) .fail) .fail) (
         let x17 : Bool := decide (r6.1 = 2)
         .br (x17) (
          let r18 : (Int × DSource) := armplanmake_Source_Next r6.2 3000
          .br (dom_armplanmake_Source_Next r6.2 3000) (
           let x19 : Int := IntKind.wrap .i64 (x5 + r18.1)
           let x20 : Int := if x19 < (((((((List.getD a0.1 a3.toNat (Ty.dflt (TJoint)))).2).2).2).2).2).1 then x19 else (((((((List.getD a0.1 a3.toNat (Ty.dflt (TJoint)))).2).2).2).2).2).1
           .br (room (a2.length + [(x5, x20)].length)) (
            let x21 : Int := IntKind.wrap .i64 (a3 + 1)
            .leaf (.inl ((a0, ()), (r18.2, ()), ((a2 ++ [(x5, x20)]), ()), (x21, ()), ()))) .fail) .fail) (
          let x22 : Bool := decide (r6.1 = 3)
          .br (x22) (
           let r23 : (Int × DSource) := armplanmake_Source_Next r6.2 200
           .br (dom_armplanmake_Source_Next r6.2 200) (
            let x24 : Int := IntKind.wrap .i64 (x5 + r23.1)
            let x25 : Int := if x24 < (((((((List.getD a0.1 a3.toNat (Ty.dflt (TJoint)))).2).2).2).2).2).1 then x24 else (((((((List.getD a0.1 a3.toNat (Ty.dflt (TJoint)))).2).2).2).2).2).1
            .br (room (a2.length + [(x5, x25)].length)) (
             let x26 : Int := IntKind.wrap .i64 (a3 + 1)
             .leaf (.inl ((a0, ()), (r23.2, ()), ((a2 ++ [(x5, x25)]), ()), (x26, ()), ()))) .fail) .fail) (
           let x27 : Int := IntKind.wrap .i64 (x5 + 0)
           let x28 : Int := if x27 < (((((((List.getD a0.1 a3.toNat (Ty.dflt (TJoint)))).2).2).2).2).2).1 then x27 else (((((((List.getD a0.1 a3.toNat (Ty.dflt (TJoint)))).2).2).2).2).2).1
           .br (room (a2.length + [(x5, x28)].length)) (
            let x29 : Int := IntKind.wrap .i64 (a3 + 1)
            .leaf (.inl ((a0, ()), (r6.2, ()), ((a2 ++ [(x5, x28)]), ()), (x29, ()), ()))) .fail))))) .fail) .fail) .fail) .fail) (
   .leaf (.inr ((a0, ()), (a1, ()), (a2, ()), ())))
def step_armplanlaw11_KinematicsLinks_armplanmake_Box_L0 : Sl ss_armplanlaw11_KinematicsLinks_armplanmake_Box_L0 → Option (Sl ss_armplanlaw11_KinematicsLinks_armplanmake_Box_L0 ⊕ Outs os_armplanlaw11_KinematicsLinks_armplanmake_Box_L0) := fun x => (t_armplanlaw11_KinematicsLinks_armplanmake_Box_L0 x.1.1 x.2.1.1 x.2.2.1.1 x.2.2.2.1.1).optA id
theorem run_armplanlaw11_KinematicsLinks_armplanmake_Box_L0 : ∀ (x : Sl ss_armplanlaw11_KinematicsLinks_armplanmake_Box_L0) (vs : Nat → Value), run (mkC itys ieqs [(26, hd_armplanmake_Source_Next)] [] noLoops) 200 8 (loopBody 0 (Tryz.f8.body.getD .skip)) (mkSt ss_armplanlaw11_KinematicsLinks_armplanmake_Box_L0 x (baseT 68 [] [] vs)) (endK ss_armplanlaw11_KinematicsLinks_armplanmake_Box_L0 os_armplanlaw11_KinematicsLinks_armplanmake_Box_L0 68 []) = (t_armplanlaw11_KinematicsLinks_armplanmake_Box_L0 x.1.1 x.2.1.1 x.2.2.1.1 x.2.2.2.1.1).optA fun r => (r, [].map (keptA [] vs)) := by
  intro x vs; kernel_rfl
instance inh_armplanlaw11_KinematicsLinks_armplanmake_Box_L0 : Inhabited (Outs os_armplanlaw11_KinematicsLinks_armplanmake_Box_L0) := ⟨outsDflt os_armplanlaw11_KinematicsLinks_armplanmake_Box_L0⟩
def dom_armplanlaw11_KinematicsLinks_armplanmake_Box_L0 (x : Sl ss_armplanlaw11_KinematicsLinks_armplanmake_Box_L0) : Bool := (loopN step_armplanlaw11_KinematicsLinks_armplanmake_Box_L0 rounds x).isSome
def val_armplanlaw11_KinematicsLinks_armplanmake_Box_L0 (x : Sl ss_armplanlaw11_KinematicsLinks_armplanmake_Box_L0) : Outs os_armplanlaw11_KinematicsLinks_armplanmake_Box_L0 := (loopN step_armplanlaw11_KinematicsLinks_armplanmake_Box_L0 rounds x).getD default
def loop_armplanlaw11_KinematicsLinks_armplanmake_Box_L0 : LoopD := mkLoop ss_armplanlaw11_KinematicsLinks_armplanmake_Box_L0 os_armplanlaw11_KinematicsLinks_armplanmake_Box_L0 68 [] [] step_armplanlaw11_KinematicsLinks_armplanmake_Box_L0 dom_armplanlaw11_KinematicsLinks_armplanmake_Box_L0 val_armplanlaw11_KinematicsLinks_armplanmake_Box_L0 (loop_hv step_armplanlaw11_KinematicsLinks_armplanmake_Box_L0)
theorem lok_armplanlaw11_KinematicsLinks_armplanmake_Box_L0 : LoopOk Tryz.prog (loopLH loop_armplanlaw11_KinematicsLinks_armplanmake_Box_L0 0) 0 (.loop (loopBody 0 (Tryz.f8.body.getD .skip))) := loop_in (D := loop_armplanlaw11_KinematicsLinks_armplanmake_Box_L0) (n := 200) (cur := 8) (mkC_ok itys_ok ieqs_ok (fns_cons ok_armplanmake_Source_Next (fns_nil _)) (inl_nil _) noLoops_ok mixed) Tryz.func8 (by kernel_rfl) (turns_of run_armplanlaw11_KinematicsLinks_armplanmake_Box_L0) (by kernel_rfl) (by kernel_rfl) (by kernel_rfl)

/- armplan/armplanlaw11.KinematicsLinks -/
def t_armplanlaw11_KinematicsLinks (a0 : DScene) (a1 : List ((Int × Int))) (a2 : List (Int)) (a3 : List (Int)) : Tr Bool :=
  let r1 : DScene := armplanmake_Scene a2
  .br (dom_armplanmake_Scene a2) (
   let r2 : Outs os_armplanlaw11_KinematicsLinks_armplanmake_Box_L0 := val_armplanlaw11_KinematicsLinks_armplanmake_Box_L0 ((r1.1, ()), ((a3, 0), ()), ([], ()), (0, ()), ())
   .br (dom_armplanlaw11_KinematicsLinks_armplanmake_Box_L0 ((r1.1, ()), ((a3, 0), ()), ([], ()), (0, ()), ())) (
    let y3 : DRobot := r2.1.1
    let y4 : DSource := r2.2.1.1
    let y5 : List ((Int × Int)) := r2.2.2.1.1
    let r6 : Bool := armplanlaw11_awake
    .br (dom_armplanlaw11_awake) (
     .br (r6) (
      let r7 : Bool := armplanlaw11_links a0 a1
      .br (dom_armplanlaw11_links a0 a1) (
       .br (r7) (
        let r8 : Bool := armplanlaw11_links r1 y5
        .br (dom_armplanlaw11_links r1 y5) (
         .br (r8) (
          let r9 : Bool := armplanlaw11_links r1 a1
          .br (dom_armplanlaw11_links r1 a1) (
           .br (r9) (
            .br (room (y5.length + a1.length)) (
             let r10 : Bool := armplanlaw11_links r1 (y5 ++ a1)
             .br (dom_armplanlaw11_links r1 (y5 ++ a1)) (
              .leaf r10) .fail) .fail) (
            .leaf false)) .fail) (
          .leaf false)) .fail) (
        .leaf false)) .fail) (
      .leaf false)) .fail) .fail) .fail
def armplanlaw11_KinematicsLinks (a0 : DScene) (a1 : List ((Int × Int))) (a2 : List (Int)) (a3 : List (Int)) : Bool := (t_armplanlaw11_KinematicsLinks a0 a1 a2 a3).val
def dom_armplanlaw11_KinematicsLinks (a0 : DScene) (a1 : List ((Int × Int))) (a2 : List (Int)) (a3 : List (Int)) : Bool := (t_armplanlaw11_KinematicsLinks a0 a1 a2 a3).dom
theorem run_armplanlaw11_KinematicsLinks : ∀ x, runF (mkC itys ieqs [(7, hd_armplanmake_Scene), (9, hd_armplanlaw11_awake), (10, hd_armplanlaw11_links)] [(8, Tryz.f8), (24, Tryz.f24)] (lpOne 8 0 (loopLH loop_armplanlaw11_KinematicsLinks_armplanmake_Box_L0 0) noLoops)) 200 3 Tryz.f3 (argsA [TScene, .list (.pair (.int .i64) (.int .i64)), .list (.int .i64), .list (.int .i64)] x) [] (fun v h => toRes h [.bool] v) = (t_armplanlaw11_KinematicsLinks x.1 x.2.1 x.2.2.1 x.2.2.2.1).optA (fun r => (r, ())) := by
  intro x; kernel_rfl
theorem fn_armplanlaw11_KinematicsLinks : FnOk Tryz.prog 3 [TScene, .list (.pair (.int .i64) (.int .i64)), .list (.int .i64), .list (.int .i64)] [.bool] (fun x => bif dom_armplanlaw11_KinematicsLinks x.1 x.2.1 x.2.2.1 x.2.2.2.1 then some ((fun r => (r, ())) (armplanlaw11_KinematicsLinks x.1 x.2.1 x.2.2.1 x.2.2.2.1)) else none) :=
  fn_part (t := fun (x : Ar [TScene, .list (.pair (.int .i64) (.int .i64)), .list (.int .i64), .list (.int .i64)]) => t_armplanlaw11_KinematicsLinks x.1 x.2.1 x.2.2.1 x.2.2.2.1) (R := Bool) (Ts := [.bool]) (mk := (fun r => (r, ()))) (mkC_ok itys_ok ieqs_ok (fns_cons ok_armplanmake_Scene (fns_cons ok_armplanlaw11_awake (fns_cons ok_armplanlaw11_links (fns_nil _)))) (inl_cons Tryz.func8 (by kernel_rfl) (inl_cons Tryz.func24 (by kernel_rfl) (inl_nil _))) (lpOne_ok (b := loopBody 0 (Tryz.f8.body.getD .skip)) Tryz.func8 (by kernel_rfl) lok_armplanlaw11_KinematicsLinks_armplanmake_Box_L0 noLoops_ok) mixed) Tryz.func3 run_armplanlaw11_KinematicsLinks
/- loop 0 of armplan/armplanmake.Within -/
abbrev ss_armplanmake_Within_L0 : List Slot := [⟨[5], true, false, [.d (TSource)]⟩, ⟨[0], false, false, [.d (.list (.pair (.int .i64) (.int .i64)))]⟩, ⟨[6], false, false, [.v 44 (.pair (.int .i64) (.int .i64))]⟩, ⟨[7], false, false, [.d (.int .i64)]⟩]
abbrev os_armplanmake_Within_L0 : List (Exit × List Slot) := [(.exit 0, [⟨[5], true, false, [.d (TSource)]⟩, ⟨[6], false, false, [.v 44 (.pair (.int .i64) (.int .i64))]⟩])]
def t_armplanmake_Within_L0 (a0 : DSource) (a1 : List ((Int × Int))) (a2 : List ((Int × Int))) (a3 : Int) : Tr (Sl ss_armplanmake_Within_L0 ⊕ Outs os_armplanmake_Within_L0) :=
  let x1 : Bool := decide (a3 < ((a1.length : Nat) : Int))
  .br (x1) (
   .br (decide (0 ≤ a3) && decide (a3 < ((a1.length : Nat) : Int))) (
    let r2 : (Int × DSource) := armplanmake_Source_Next a0 1073741824
    .br (dom_armplanmake_Source_Next a0 1073741824) (
     let r3 : (Int × DSource) := armplanmake_Source_Next r2.2 1073741824
     .br (dom_armplanmake_Source_Next r2.2 1073741824) (
      let r4 : (Int × Int) := armplanmake_Part (List.getD a1 a3.toNat (Ty.dflt (.pair (.int .i64) (.int .i64)))) r2.1 r3.1
      .br (dom_armplanmake_Part (List.getD a1 a3.toNat (Ty.dflt (.pair (.int .i64) (.int .i64)))) r2.1 r3.1) (
       .br (room (a2.length + [r4].length)) (
        let x5 : Int := IntKind.wrap .i64 (a3 + 1)
        .leaf (.inl ((r3.2, ()), (a1, ()), ((a2 ++ [r4]), ()), (x5, ()), ()))) .fail) .fail) .fail) .fail) .fail) (
   .leaf (.inr ((a0, ()), (a2, ()), ())))
def step_armplanmake_Within_L0 : Sl ss_armplanmake_Within_L0 → Option (Sl ss_armplanmake_Within_L0 ⊕ Outs os_armplanmake_Within_L0) := fun x => (t_armplanmake_Within_L0 x.1.1 x.2.1.1 x.2.2.1.1 x.2.2.2.1.1).optA id
theorem run_armplanmake_Within_L0 : ∀ (x : Sl ss_armplanmake_Within_L0) (vs : Nat → Value), run (mkC itys ieqs [(26, hd_armplanmake_Source_Next), (36, hd_armplanmake_Part)] [] noLoops) 200 11 (loopBody 0 (Tryz.f11.body.getD .skip)) (mkSt ss_armplanmake_Within_L0 x (baseT 29 [] [] vs)) (endK ss_armplanmake_Within_L0 os_armplanmake_Within_L0 29 []) = (t_armplanmake_Within_L0 x.1.1 x.2.1.1 x.2.2.1.1 x.2.2.2.1.1).optA fun r => (r, [].map (keptA [] vs)) := by
  intro x vs; kernel_rfl
instance inh_armplanmake_Within_L0 : Inhabited (Outs os_armplanmake_Within_L0) := ⟨outsDflt os_armplanmake_Within_L0⟩
def dom_armplanmake_Within_L0 (x : Sl ss_armplanmake_Within_L0) : Bool := (loopN step_armplanmake_Within_L0 rounds x).isSome
def val_armplanmake_Within_L0 (x : Sl ss_armplanmake_Within_L0) : Outs os_armplanmake_Within_L0 := (loopN step_armplanmake_Within_L0 rounds x).getD default
def loop_armplanmake_Within_L0 : LoopD := mkLoop ss_armplanmake_Within_L0 os_armplanmake_Within_L0 29 [] [] step_armplanmake_Within_L0 dom_armplanmake_Within_L0 val_armplanmake_Within_L0 (loop_hv step_armplanmake_Within_L0)
theorem lok_armplanmake_Within_L0 : LoopOk Tryz.prog (loopLH loop_armplanmake_Within_L0 0) 0 (.loop (loopBody 0 (Tryz.f11.body.getD .skip))) := loop_in (D := loop_armplanmake_Within_L0) (n := 200) (cur := 11) (mkC_ok itys_ok ieqs_ok (fns_cons ok_armplanmake_Source_Next (fns_cons ok_armplanmake_Part (fns_nil _))) (inl_nil _) noLoops_ok mixed) Tryz.func11 (by kernel_rfl) (turns_of run_armplanmake_Within_L0) (by kernel_rfl) (by kernel_rfl) (by kernel_rfl)

/- armplan/armplanmake.Within -/
def t_armplanmake_Within (a0 : List ((Int × Int))) (a1 : List (Int)) : Tr (List ((Int × Int))) :=
  let r1 : Outs os_armplanmake_Within_L0 := val_armplanmake_Within_L0 (((a1, 0), ()), (a0, ()), ([], ()), (0, ()), ())
  .br (dom_armplanmake_Within_L0 (((a1, 0), ()), (a0, ()), ([], ()), (0, ()), ())) (
   let y2 : DSource := r1.1.1
   let y3 : List ((Int × Int)) := r1.2.1.1
   .leaf y3) .fail
def armplanmake_Within (a0 : List ((Int × Int))) (a1 : List (Int)) : List ((Int × Int)) := (t_armplanmake_Within a0 a1).val
def dom_armplanmake_Within (a0 : List ((Int × Int))) (a1 : List (Int)) : Bool := (t_armplanmake_Within a0 a1).dom
theorem run_armplanmake_Within : ∀ x, runF (mkC itys ieqs [] [(24, Tryz.f24)] (lpOne 11 0 (loopLH loop_armplanmake_Within_L0 0) noLoops)) 200 11 Tryz.f11 (argsA [.list (.pair (.int .i64) (.int .i64)), .list (.int .i64)] x) [] (fun v h => toRes h [.list (.pair (.int .i64) (.int .i64))] v) = (t_armplanmake_Within x.1 x.2.1).optA (fun r => (r, ())) := by
  intro x; kernel_rfl
theorem fn_armplanmake_Within : FnOk Tryz.prog 11 [.list (.pair (.int .i64) (.int .i64)), .list (.int .i64)] [.list (.pair (.int .i64) (.int .i64))] (fun x => bif dom_armplanmake_Within x.1 x.2.1 then some ((fun r => (r, ())) (armplanmake_Within x.1 x.2.1)) else none) :=
  fn_part (t := fun (x : Ar [.list (.pair (.int .i64) (.int .i64)), .list (.int .i64)]) => t_armplanmake_Within x.1 x.2.1) (R := List ((Int × Int))) (Ts := [.list (.pair (.int .i64) (.int .i64))]) (mk := (fun r => (r, ()))) (mkC_ok itys_ok ieqs_ok (fns_nil _) (inl_cons Tryz.func24 (by kernel_rfl) (inl_nil _)) (lpOne_ok (b := loopBody 0 (Tryz.f11.body.getD .skip)) Tryz.func11 (by kernel_rfl) lok_armplanmake_Within_L0 noLoops_ok) mixed) Tryz.func11 run_armplanmake_Within
def hd_armplanmake_Within : Hd := guardHd [.list (.pair (.int .i64) (.int .i64)), .list (.int .i64)] [.list (.pair (.int .i64) (.int .i64))] (fun x => dom_armplanmake_Within x.1 x.2.1) (fun x => (fun r => (r, ())) (armplanmake_Within x.1 x.2.1))
theorem ok_armplanmake_Within : HdOk Tryz.prog 11 hd_armplanmake_Within.sem ∧ Enters Tryz.prog 11 := guard_ok fn_armplanmake_Within Tryz.func11 (by kernel_rfl) (by kernel_rfl)

/- loop 0 of armplan/armplanlaw11.KinematicsMonotone -/
abbrev ss_armplanlaw11_KinematicsMonotone_L0 : List Slot := [⟨[10], false, false, [.d (.list (TPose))]⟩, ⟨[11], false, false, [.d (.list (TPose))]⟩, ⟨[14], false, false, [.d (.int .i64)]⟩]
abbrev os_armplanlaw11_KinematicsMonotone_L0 : List (Exit × List Slot) := [(.exit 0, []), (.ret, [⟨[6], false, false, [.d (.bool)]⟩])]
def t_armplanlaw11_KinematicsMonotone_L0 (a0 : List (DPose)) (a1 : List (DPose)) (a2 : Int) : Tr (Sl ss_armplanlaw11_KinematicsMonotone_L0 ⊕ Outs os_armplanlaw11_KinematicsMonotone_L0) :=
  let x1 : Bool := decide (a2 < ((a0.length : Nat) : Int))
  .br (x1) (
   .br (decide (0 ≤ a2) && decide (a2 < ((a0.length : Nat) : Int))) (
    .br (decide (0 ≤ a2) && decide (a2 < ((a1.length : Nat) : Int))) (
     let r2 : Bool := armplanref1_WithinPose (List.getD a0 a2.toNat (Ty.dflt (TPose))) (List.getD a1 a2.toNat (Ty.dflt (TPose)))
     .br ((!r2)) (
      .leaf (.inr (.inr ((false, ()), ())))) (
      let x3 : Int := IntKind.wrap .i64 (a2 + 1)
      .leaf (.inl ((a0, ()), (a1, ()), (x3, ()), ())))) .fail) .fail) (
   .leaf (.inr (.inl ())))
def step_armplanlaw11_KinematicsMonotone_L0 : Sl ss_armplanlaw11_KinematicsMonotone_L0 → Option (Sl ss_armplanlaw11_KinematicsMonotone_L0 ⊕ Outs os_armplanlaw11_KinematicsMonotone_L0) := fun x => (t_armplanlaw11_KinematicsMonotone_L0 x.1.1 x.2.1.1 x.2.2.1.1).optA id
theorem run_armplanlaw11_KinematicsMonotone_L0 : ∀ (x : Sl ss_armplanlaw11_KinematicsMonotone_L0) (vs : Nat → Value), run (mkC itys ieqs [(14, hd_armplanref1_WithinPose)] [] noLoops) 200 4 (loopBody 0 (Tryz.f4.body.getD .skip)) (mkSt ss_armplanlaw11_KinematicsMonotone_L0 x (baseT 141 [7, 12, 13] [] vs)) (endK ss_armplanlaw11_KinematicsMonotone_L0 os_armplanlaw11_KinematicsMonotone_L0 141 [7, 12, 13]) = (t_armplanlaw11_KinematicsMonotone_L0 x.1.1 x.2.1.1 x.2.2.1.1).optA fun r => (r, [7, 12, 13].map (keptA [] vs)) := by
  intro x vs; kernel_rfl
instance inh_armplanlaw11_KinematicsMonotone_L0 : Inhabited (Outs os_armplanlaw11_KinematicsMonotone_L0) := ⟨outsDflt os_armplanlaw11_KinematicsMonotone_L0⟩
def dom_armplanlaw11_KinematicsMonotone_L0 (x : Sl ss_armplanlaw11_KinematicsMonotone_L0) : Bool := (loopN step_armplanlaw11_KinematicsMonotone_L0 rounds x).isSome
def val_armplanlaw11_KinematicsMonotone_L0 (x : Sl ss_armplanlaw11_KinematicsMonotone_L0) : Outs os_armplanlaw11_KinematicsMonotone_L0 := (loopN step_armplanlaw11_KinematicsMonotone_L0 rounds x).getD default
def loop_armplanlaw11_KinematicsMonotone_L0 : LoopD := mkLoop ss_armplanlaw11_KinematicsMonotone_L0 os_armplanlaw11_KinematicsMonotone_L0 141 [7, 12, 13] [] step_armplanlaw11_KinematicsMonotone_L0 dom_armplanlaw11_KinematicsMonotone_L0 val_armplanlaw11_KinematicsMonotone_L0 (loop_hv step_armplanlaw11_KinematicsMonotone_L0)
theorem lok_armplanlaw11_KinematicsMonotone_L0 : LoopOk Tryz.prog (loopLH loop_armplanlaw11_KinematicsMonotone_L0 0) 0 (.loop (loopBody 0 (Tryz.f4.body.getD .skip))) := loop_in (D := loop_armplanlaw11_KinematicsMonotone_L0) (n := 200) (cur := 4) (mkC_ok itys_ok ieqs_ok (fns_cons ok_armplanref1_WithinPose (fns_nil _)) (inl_nil _) noLoops_ok mixed) Tryz.func4 (by kernel_rfl) (turns_of run_armplanlaw11_KinematicsMonotone_L0) (by kernel_rfl) (by kernel_rfl) (by kernel_rfl)

/- loop 4 of armplan/armplanlaw11.KinematicsMonotone -/
abbrev ss_armplanlaw11_KinematicsMonotone_L4 : List Slot := [⟨[12], false, false, [.d (.list (.list (TIVec)))]⟩, ⟨[13], false, false, [.d (.list (.list (TIVec)))]⟩, ⟨[15], false, false, [.d (.int .i64)]⟩, ⟨[16], false, false, [.d (.int .i64)]⟩]
abbrev os_armplanlaw11_KinematicsMonotone_L4 : List (Exit × List Slot) := [(.exit 4, [⟨[12], false, false, [.d (.list (.list (TIVec)))]⟩, ⟨[13], false, false, [.d (.list (.list (TIVec)))]⟩, ⟨[15], false, false, [.d (.int .i64)]⟩]), (.ret, [⟨[6], false, false, [.d (.bool)]⟩])]
def t_armplanlaw11_KinematicsMonotone_L4 (a0 : List (List (DIVec))) (a1 : List (List (DIVec))) (a2 : Int) (a3 : Int) : Tr (Sl ss_armplanlaw11_KinematicsMonotone_L4 ⊕ Outs os_armplanlaw11_KinematicsMonotone_L4) :=
  .br (decide (0 ≤ a2) && decide (a2 < ((a0.length : Nat) : Int))) (
   let x1 : Bool := decide (a3 < (((List.getD a0 a2.toNat (Ty.dflt (.list (TIVec)))).length : Nat) : Int))
   .br (x1) (
    .br (decide (0 ≤ a2) && decide (a2 < ((a0.length : Nat) : Int))) (
     .br (decide (0 ≤ a3) && decide (a3 < (((List.getD a0 a2.toNat (Ty.dflt (.list (TIVec)))).length : Nat) : Int))) (
      .br (decide (0 ≤ a2) && decide (a2 < ((a1.length : Nat) : Int))) (
       .br (decide (0 ≤ a3) && decide (a3 < (((List.getD a1 a2.toNat (Ty.dflt (.list (TIVec)))).length : Nat) : Int))) (
        let r2 : Bool := armplanref1_WithinVec (List.getD (List.getD a0 a2.toNat (Ty.dflt (.list (TIVec)))) a3.toNat (Ty.dflt (TIVec))) (List.getD (List.getD a1 a2.toNat (Ty.dflt (.list (TIVec)))) a3.toNat (Ty.dflt (TIVec)))
        .br ((!r2)) (
         .leaf (.inr (.inr ((false, ()), ())))) (
         let x3 : Int := IntKind.wrap .i64 (a3 + 1)
         .leaf (.inl ((a0, ()), (a1, ()), (a2, ()), (x3, ()), ())))) .fail) .fail) .fail) .fail) (
    .leaf (.inr (.inl ((a0, ()), (a1, ()), (a2, ()), ()))))) .fail
def step_armplanlaw11_KinematicsMonotone_L4 : Sl ss_armplanlaw11_KinematicsMonotone_L4 → Option (Sl ss_armplanlaw11_KinematicsMonotone_L4 ⊕ Outs os_armplanlaw11_KinematicsMonotone_L4) := fun x => (t_armplanlaw11_KinematicsMonotone_L4 x.1.1 x.2.1.1 x.2.2.1.1 x.2.2.2.1.1).optA id
theorem run_armplanlaw11_KinematicsMonotone_L4 : ∀ (x : Sl ss_armplanlaw11_KinematicsMonotone_L4) (vs : Nat → Value), run (mkC itys ieqs [(15, hd_armplanref1_WithinVec)] [] noLoops) 200 4 (loopBody 4 (Tryz.f4.body.getD .skip)) (mkSt ss_armplanlaw11_KinematicsMonotone_L4 x (baseT 141 [7] [] vs)) (endK ss_armplanlaw11_KinematicsMonotone_L4 os_armplanlaw11_KinematicsMonotone_L4 141 [7]) = (t_armplanlaw11_KinematicsMonotone_L4 x.1.1 x.2.1.1 x.2.2.1.1 x.2.2.2.1.1).optA fun r => (r, [7].map (keptA [] vs)) := by
  intro x vs; kernel_rfl
instance inh_armplanlaw11_KinematicsMonotone_L4 : Inhabited (Outs os_armplanlaw11_KinematicsMonotone_L4) := ⟨outsDflt os_armplanlaw11_KinematicsMonotone_L4⟩
def dom_armplanlaw11_KinematicsMonotone_L4 (x : Sl ss_armplanlaw11_KinematicsMonotone_L4) : Bool := (loopN step_armplanlaw11_KinematicsMonotone_L4 rounds x).isSome
def val_armplanlaw11_KinematicsMonotone_L4 (x : Sl ss_armplanlaw11_KinematicsMonotone_L4) : Outs os_armplanlaw11_KinematicsMonotone_L4 := (loopN step_armplanlaw11_KinematicsMonotone_L4 rounds x).getD default
def loop_armplanlaw11_KinematicsMonotone_L4 : LoopD := mkLoop ss_armplanlaw11_KinematicsMonotone_L4 os_armplanlaw11_KinematicsMonotone_L4 141 [7] [] step_armplanlaw11_KinematicsMonotone_L4 dom_armplanlaw11_KinematicsMonotone_L4 val_armplanlaw11_KinematicsMonotone_L4 (loop_hv step_armplanlaw11_KinematicsMonotone_L4)
theorem lok_armplanlaw11_KinematicsMonotone_L4 : LoopOk Tryz.prog (loopLH loop_armplanlaw11_KinematicsMonotone_L4 4) 4 (.loop (loopBody 4 (Tryz.f4.body.getD .skip))) := loop_in (D := loop_armplanlaw11_KinematicsMonotone_L4) (n := 200) (cur := 4) (mkC_ok itys_ok ieqs_ok (fns_cons ok_armplanref1_WithinVec (fns_nil _)) (inl_nil _) noLoops_ok mixed) Tryz.func4 (by kernel_rfl) (turns_of run_armplanlaw11_KinematicsMonotone_L4) (by kernel_rfl) (by kernel_rfl) (by kernel_rfl)

/- loop 2 of armplan/armplanlaw11.KinematicsMonotone -/
abbrev ss_armplanlaw11_KinematicsMonotone_L2 : List Slot := [⟨[7], true, false, [.d (TScene)]⟩, ⟨[12], false, false, [.d (.list (.list (TIVec)))]⟩, ⟨[13], false, false, [.d (.list (.list (TIVec)))]⟩, ⟨[15], false, false, [.d (.int .i64)]⟩]
abbrev os_armplanlaw11_KinematicsMonotone_L2 : List (Exit × List Slot) := [(.exit 2, [⟨[7], true, false, [.d (TScene)]⟩]), (.ret, [⟨[7], true, false, [.d (TScene)]⟩, ⟨[6], false, false, [.d (.bool)]⟩])]
def t_armplanlaw11_KinematicsMonotone_L2 (a0 : DScene) (a1 : List (List (DIVec))) (a2 : List (List (DIVec))) (a3 : Int) : Tr (Sl ss_armplanlaw11_KinematicsMonotone_L2 ⊕ Outs os_armplanlaw11_KinematicsMonotone_L2) :=
  let x1 : Bool := decide (a3 < ((a1.length : Nat) : Int))
  .br (x1) (
   .br (decide (0 ≤ a3) && decide (a3 < ((a1.length : Nat) : Int))) (
    .br (decide (0 ≤ a3) && decide (a3 < ((a0.2.1.length : Nat) : Int))) (
     let x2 : Bool := !decide ((((List.getD a1 a3.toNat (Ty.dflt (.list (TIVec)))).length : Nat) : Int) = ((((((List.getD a0.2.1 a3.toNat (Ty.dflt (TShape)))).2).2).length : Nat) : Int))
     .br (x2) (
      .leaf (.inr (.inr ((a0, ()), (false, ()), ())))) (
      .br (decide (0 ≤ a3) && decide (a3 < ((a2.length : Nat) : Int))) (
       .br (decide (0 ≤ a3) && decide (a3 < ((a1.length : Nat) : Int))) (
        let x3 : Bool := !decide ((((List.getD a2 a3.toNat (Ty.dflt (.list (TIVec)))).length : Nat) : Int) = (((List.getD a1 a3.toNat (Ty.dflt (.list (TIVec)))).length : Nat) : Int))
        .br (x3) (
         .leaf (.inr (.inr ((a0, ()), (false, ()), ())))) (
         let r4 : Outs os_armplanlaw11_KinematicsMonotone_L4 := val_armplanlaw11_KinematicsMonotone_L4 ((a1, ()), (a2, ()), (a3, ()), (0, ()), ())
         .br (dom_armplanlaw11_KinematicsMonotone_L4 ((a1, ()), (a2, ()), (a3, ()), (0, ()), ())) (
          let r5 := getL r4
          let r6 := getR r4
          .br (isL r4) (
           let y7 : List (List (DIVec)) := r5.1.1
           let y8 : List (List (DIVec)) := r5.2.1.1
           let y9 : Int := r5.2.2.1.1
           let x10 : Int := IntKind.wrap .i64 (y9 + 1)
           .leaf (.inl ((a0, ()), (y7, ()), (y8, ()), (x10, ()), ()))) (
           let y11 : Bool := r6.1.1
           .leaf (.inr (.inr ((a0, ()), (y11, ()), ()))))) .fail)) .fail) .fail)) .fail) .fail) (
   .leaf (.inr (.inl ((a0, ()), ()))))
def step_armplanlaw11_KinematicsMonotone_L2 : Sl ss_armplanlaw11_KinematicsMonotone_L2 → Option (Sl ss_armplanlaw11_KinematicsMonotone_L2 ⊕ Outs os_armplanlaw11_KinematicsMonotone_L2) := fun x => (t_armplanlaw11_KinematicsMonotone_L2 x.1.1 x.2.1.1 x.2.2.1.1 x.2.2.2.1.1).optA id
theorem run_armplanlaw11_KinematicsMonotone_L2 : ∀ (x : Sl ss_armplanlaw11_KinematicsMonotone_L2) (vs : Nat → Value), run (mkC itys ieqs [] [] (lpOne 4 4 (loopLH loop_armplanlaw11_KinematicsMonotone_L4 4) noLoops)) 200 4 (loopBody 2 (Tryz.f4.body.getD .skip)) (mkSt ss_armplanlaw11_KinematicsMonotone_L2 x (baseT 141 [] [] vs)) (endK ss_armplanlaw11_KinematicsMonotone_L2 os_armplanlaw11_KinematicsMonotone_L2 141 []) = (t_armplanlaw11_KinematicsMonotone_L2 x.1.1 x.2.1.1 x.2.2.1.1 x.2.2.2.1.1).optA fun r => (r, [].map (keptA [] vs)) := by
  intro x vs; kernel_rfl
instance inh_armplanlaw11_KinematicsMonotone_L2 : Inhabited (Outs os_armplanlaw11_KinematicsMonotone_L2) := ⟨outsDflt os_armplanlaw11_KinematicsMonotone_L2⟩
def dom_armplanlaw11_KinematicsMonotone_L2 (x : Sl ss_armplanlaw11_KinematicsMonotone_L2) : Bool := (loopN step_armplanlaw11_KinematicsMonotone_L2 rounds x).isSome
def val_armplanlaw11_KinematicsMonotone_L2 (x : Sl ss_armplanlaw11_KinematicsMonotone_L2) : Outs os_armplanlaw11_KinematicsMonotone_L2 := (loopN step_armplanlaw11_KinematicsMonotone_L2 rounds x).getD default
def loop_armplanlaw11_KinematicsMonotone_L2 : LoopD := mkLoop ss_armplanlaw11_KinematicsMonotone_L2 os_armplanlaw11_KinematicsMonotone_L2 141 [] [] step_armplanlaw11_KinematicsMonotone_L2 dom_armplanlaw11_KinematicsMonotone_L2 val_armplanlaw11_KinematicsMonotone_L2 (loop_hv step_armplanlaw11_KinematicsMonotone_L2)
theorem lok_armplanlaw11_KinematicsMonotone_L2 : LoopOk Tryz.prog (loopLH loop_armplanlaw11_KinematicsMonotone_L2 2) 2 (.loop (loopBody 2 (Tryz.f4.body.getD .skip))) := loop_in (D := loop_armplanlaw11_KinematicsMonotone_L2) (n := 200) (cur := 4) (mkC_ok itys_ok ieqs_ok (fns_nil _) (inl_nil _) (lpOne_ok (b := loopBody 4 (Tryz.f4.body.getD .skip)) Tryz.func4 (by kernel_rfl) lok_armplanlaw11_KinematicsMonotone_L4 noLoops_ok) mixed) Tryz.func4 (by kernel_rfl) (turns_of run_armplanlaw11_KinematicsMonotone_L2) (by kernel_rfl) (by kernel_rfl) (by kernel_rfl)

/- armplan/armplanlaw11.KinematicsMonotone -/
def t_armplanlaw11_KinematicsMonotone (a0 : List (Int)) (a1 : List (Int)) (a2 : List (Int)) : Tr Bool :=
  let r1 : DScene := armplanmake_Scene a0
  .br (dom_armplanmake_Scene a0) (
   let r2 : List ((Int × Int)) := armplanmake_Box r1.1 a1
   .br (dom_armplanmake_Box r1.1 a1) (
    let r3 : List ((Int × Int)) := armplanmake_Within r2 a2
    .br (dom_armplanmake_Within r2 a2) (
     let r4 : List (DPose) := kinematics_Links r1.1 r3
     .br (dom_kinematics_Links r1.1 r3) (
      let r5 : List (DPose) := kinematics_Links r1.1 r2
      .br (dom_kinematics_Links r1.1 r2) (
       let r6 : List (List (DIVec)) := kinematics_Points r1 r3
       .br (dom_kinematics_Points r1 r3) (
        let r7 : List (List (DIVec)) := kinematics_Points r1 r2
        .br (dom_kinematics_Points r1 r2) (
         let x8 : Bool := !decide (((r4.length : Nat) : Int) = ((r2.length : Nat) : Int))
         .br (x8) (
          .leaf false) (
          let x9 : Bool := !decide (((r5.length : Nat) : Int) = ((r2.length : Nat) : Int))
          .br (x9) (
           .leaf false) (
           let x10 : Bool := !decide (((r6.length : Nat) : Int) = ((r1.2.1.length : Nat) : Int))
           .br (x10) (
            .leaf false) (
            let x11 : Bool := !decide (((r7.length : Nat) : Int) = ((r6.length : Nat) : Int))
            .br (x11) (
             .leaf false) (
             let r12 : Outs os_armplanlaw11_KinematicsMonotone_L0 := val_armplanlaw11_KinematicsMonotone_L0 ((r4, ()), (r5, ()), (0, ()), ())
             .br (dom_armplanlaw11_KinematicsMonotone_L0 ((r4, ()), (r5, ()), (0, ()), ())) (
              let r13 := getL r12
              let r14 := getR r12
              .br (isL r12) (
               let r15 : Outs os_armplanlaw11_KinematicsMonotone_L2 := val_armplanlaw11_KinematicsMonotone_L2 ((r1, ()), (r6, ()), (r7, ()), (0, ()), ())
               .br (dom_armplanlaw11_KinematicsMonotone_L2 ((r1, ()), (r6, ()), (r7, ()), (0, ()), ())) (
                let r16 := getL r15
                let r17 := getR r15
                .br (isL r15) (
                 let y18 : DScene := r16.1.1
                 let r19 : Bool := armplanlaw11_awake
                 .br (dom_armplanlaw11_awake) (
                  .leaf r19) .fail) (
                 let y20 : DScene := r17.1.1
                 let y21 : Bool := r17.2.1.1
                 .leaf y21)) .fail) (
               let y22 : Bool := r14.1.1
               .leaf y22)) .fail))))) .fail) .fail) .fail) .fail) .fail) .fail) .fail
def armplanlaw11_KinematicsMonotone (a0 : List (Int)) (a1 : List (Int)) (a2 : List (Int)) : Bool := (t_armplanlaw11_KinematicsMonotone a0 a1 a2).val
def dom_armplanlaw11_KinematicsMonotone (a0 : List (Int)) (a1 : List (Int)) (a2 : List (Int)) : Bool := (t_armplanlaw11_KinematicsMonotone a0 a1 a2).dom
theorem run_armplanlaw11_KinematicsMonotone : ∀ x, runF (mkC itys ieqs [(7, hd_armplanmake_Scene), (8, hd_armplanmake_Box), (9, hd_armplanlaw11_awake), (11, hd_armplanmake_Within), (12, hd_kinematics_Links), (13, hd_kinematics_Points)] [] (lpOne 4 0 (loopLH loop_armplanlaw11_KinematicsMonotone_L0 0) (lpOne 4 2 (loopLH loop_armplanlaw11_KinematicsMonotone_L2 2) noLoops))) 200 4 Tryz.f4 (argsA [.list (.int .i64), .list (.int .i64), .list (.int .i64)] x) [] (fun v h => toRes h [.bool] v) = (t_armplanlaw11_KinematicsMonotone x.1 x.2.1 x.2.2.1).optA (fun r => (r, ())) := by
  intro x; kernel_rfl
theorem fn_armplanlaw11_KinematicsMonotone : FnOk Tryz.prog 4 [.list (.int .i64), .list (.int .i64), .list (.int .i64)] [.bool] (fun x => bif dom_armplanlaw11_KinematicsMonotone x.1 x.2.1 x.2.2.1 then some ((fun r => (r, ())) (armplanlaw11_KinematicsMonotone x.1 x.2.1 x.2.2.1)) else none) :=
  fn_part (t := fun (x : Ar [.list (.int .i64), .list (.int .i64), .list (.int .i64)]) => t_armplanlaw11_KinematicsMonotone x.1 x.2.1 x.2.2.1) (R := Bool) (Ts := [.bool]) (mk := (fun r => (r, ()))) (mkC_ok itys_ok ieqs_ok (fns_cons ok_armplanmake_Scene (fns_cons ok_armplanmake_Box (fns_cons ok_armplanlaw11_awake (fns_cons ok_armplanmake_Within (fns_cons ok_kinematics_Links (fns_cons ok_kinematics_Points (fns_nil _))))))) (inl_nil _) (lpOne_ok (b := loopBody 0 (Tryz.f4.body.getD .skip)) Tryz.func4 (by kernel_rfl) lok_armplanlaw11_KinematicsMonotone_L0 (lpOne_ok (b := loopBody 2 (Tryz.f4.body.getD .skip)) Tryz.func4 (by kernel_rfl) lok_armplanlaw11_KinematicsMonotone_L2 noLoops_ok)) mixed) Tryz.func4 run_armplanlaw11_KinematicsMonotone
/- armplan/armplanref10.reached -/
def t_armplanref10_reached (a0 : DIVec) : Tr Bool :=
  let x1 : Bool := decide (a0.1.1 < (-268435456))
  .br (x1) (
   .leaf false) (
   let x2 : Bool := decide (a0.1.2 < a0.1.1)
   .br (x2) (
    .leaf false) (
    let x3 : Bool := decide (268435456 < a0.1.2)
    .br (x3) (
     .leaf false) (
     let x4 : Bool := decide (a0.2.1.1 < (-268435456))
     .br (x4) (
      .leaf false) (
      let x5 : Bool := decide (a0.2.1.2 < a0.2.1.1)
      .br (x5) (
       .leaf false) (
       let x6 : Bool := decide (268435456 < a0.2.1.2)
       .br (x6) (
        .leaf false) (
        let x7 : Bool := decide (a0.2.2.1 < (-268435456))
        .br (x7) (
         .leaf false) (
         let x8 : Bool := decide (a0.2.2.2 < a0.2.2.1)
         .br (x8) (
          .leaf false) (
          let x9 : Bool := decide (268435456 < a0.2.2.2)
          .br (x9) (
           .leaf false) (
           .leaf true)))))))))
def armplanref10_reached (a0 : DIVec) : Bool := (t_armplanref10_reached a0).val
theorem run_armplanref10_reached : ∀ x, runF (mkC itys ieqs [] [] noLoops) 200 45 Tryz.f45 (argsA [TIVec] x) [] (fun v h => toRes h [.bool] v) = (t_armplanref10_reached x.1).optA (fun r => (r, ())) := by
  intro x; kernel_rfl
theorem fn_armplanref10_reached : FnOk Tryz.prog 45 [TIVec] [.bool] (fun x => some ((fun r => (r, ())) (armplanref10_reached x.1))) :=
  fn_tot (t := fun (x : Ar [TIVec]) => t_armplanref10_reached x.1) (R := Bool) (Ts := [.bool]) (mk := (fun r => (r, ()))) (mkC_ok itys_ok ieqs_ok (fns_nil _) (inl_nil _) noLoops_ok mixed) Tryz.func45 run_armplanref10_reached (fun _ => by kernel_rfl)
def hd_armplanref10_reached : Hd := dataHd [TIVec] [.bool] (fun x => some ((fun r => (r, ())) (armplanref10_reached x.1)))
theorem ok_armplanref10_reached : HdOk Tryz.prog 45 hd_armplanref10_reached.sem ∧ Enters Tryz.prog 45 := data_ok fn_armplanref10_reached Tryz.func45 (by kernel_rfl) (by kernel_rfl)

/- loop 0 of armplan/armplanref10.Placed -/
abbrev ss_armplanref10_Placed_L0 : List Slot := [⟨[0], false, false, [.d (.list (TIVec))]⟩, ⟨[3], false, false, [.d (.int .i64)]⟩]
abbrev os_armplanref10_Placed_L0 : List (Exit × List Slot) := [(.exit 0, [⟨[0], false, false, [.d (.list (TIVec))]⟩]), (.ret, [⟨[2], false, false, [.d (.bool)]⟩])]
def t_armplanref10_Placed_L0 (a0 : List (DIVec)) (a1 : Int) : Tr (Sl ss_armplanref10_Placed_L0 ⊕ Outs os_armplanref10_Placed_L0) :=
  let x1 : Bool := decide (a1 < ((a0.length : Nat) : Int))
  .br (x1) (
   let x2 : Bool := decide (a1 ≤ 8)
   .br (x2) (
    .br (decide (0 ≤ a1) && decide (a1 < ((a0.length : Nat) : Int))) (
     let r3 : Bool := armplanref10_reached (List.getD a0 a1.toNat (Ty.dflt (TIVec)))
     .br ((!r3)) (
      .leaf (.inr (.inr ((false, ()), ())))) (
      let x4 : Int := IntKind.wrap .i64 (a1 + 1)
      .leaf (.inl ((a0, ()), (x4, ()), ())))) .fail) (
    .leaf (.inr (.inl ((a0, ()), ()))))) (
   .leaf (.inr (.inl ((a0, ()), ()))))
def step_armplanref10_Placed_L0 : Sl ss_armplanref10_Placed_L0 → Option (Sl ss_armplanref10_Placed_L0 ⊕ Outs os_armplanref10_Placed_L0) := fun x => (t_armplanref10_Placed_L0 x.1.1 x.2.1.1).optA id
theorem run_armplanref10_Placed_L0 : ∀ (x : Sl ss_armplanref10_Placed_L0) (vs : Nat → Value), run (mkC itys ieqs [(45, hd_armplanref10_reached)] [] noLoops) 200 16 (loopBody 0 (Tryz.f16.body.getD .skip)) (mkSt ss_armplanref10_Placed_L0 x (baseT 28 [] [] vs)) (endK ss_armplanref10_Placed_L0 os_armplanref10_Placed_L0 28 []) = (t_armplanref10_Placed_L0 x.1.1 x.2.1.1).optA fun r => (r, [].map (keptA [] vs)) := by
  intro x vs; kernel_rfl
instance inh_armplanref10_Placed_L0 : Inhabited (Outs os_armplanref10_Placed_L0) := ⟨outsDflt os_armplanref10_Placed_L0⟩
def dom_armplanref10_Placed_L0 (x : Sl ss_armplanref10_Placed_L0) : Bool := (loopN step_armplanref10_Placed_L0 rounds x).isSome
def val_armplanref10_Placed_L0 (x : Sl ss_armplanref10_Placed_L0) : Outs os_armplanref10_Placed_L0 := (loopN step_armplanref10_Placed_L0 rounds x).getD default
def loop_armplanref10_Placed_L0 : LoopD := mkLoop ss_armplanref10_Placed_L0 os_armplanref10_Placed_L0 28 [] [] step_armplanref10_Placed_L0 dom_armplanref10_Placed_L0 val_armplanref10_Placed_L0 (loop_hv step_armplanref10_Placed_L0)
theorem lok_armplanref10_Placed_L0 : LoopOk Tryz.prog (loopLH loop_armplanref10_Placed_L0 0) 0 (.loop (loopBody 0 (Tryz.f16.body.getD .skip))) := loop_in (D := loop_armplanref10_Placed_L0) (n := 200) (cur := 16) (mkC_ok itys_ok ieqs_ok (fns_cons ok_armplanref10_reached (fns_nil _)) (inl_nil _) noLoops_ok mixed) Tryz.func16 (by kernel_rfl) (turns_of run_armplanref10_Placed_L0) (by kernel_rfl) (by kernel_rfl) (by kernel_rfl)

/- armplan/armplanref10.Placed -/
def t_armplanref10_Placed (a0 : List (DIVec)) : Tr Bool :=
  let r1 : Outs os_armplanref10_Placed_L0 := val_armplanref10_Placed_L0 ((a0, ()), (0, ()), ())
  .br (dom_armplanref10_Placed_L0 ((a0, ()), (0, ()), ())) (
   let r2 := getL r1
   let r3 := getR r1
   .br (isL r1) (
    let y4 : List (DIVec) := r2.1.1
    let x5 : Bool := decide (1 ≤ ((y4.length : Nat) : Int))
    .br (x5) (
     let x6 : Bool := decide (((y4.length : Nat) : Int) ≤ 8)
     .leaf x6) (
     .leaf false)) (
    let y7 : Bool := r3.1.1
    .leaf y7)) .fail
def armplanref10_Placed (a0 : List (DIVec)) : Bool := (t_armplanref10_Placed a0).val
def dom_armplanref10_Placed (a0 : List (DIVec)) : Bool := (t_armplanref10_Placed a0).dom
theorem run_armplanref10_Placed : ∀ x, runF (mkC itys ieqs [] [] (lpOne 16 0 (loopLH loop_armplanref10_Placed_L0 0) noLoops)) 200 16 Tryz.f16 (argsA [.list (TIVec)] x) [] (fun v h => toRes h [.bool] v) = (t_armplanref10_Placed x.1).optA (fun r => (r, ())) := by
  intro x; kernel_rfl
theorem fn_armplanref10_Placed : FnOk Tryz.prog 16 [.list (TIVec)] [.bool] (fun x => bif dom_armplanref10_Placed x.1 then some ((fun r => (r, ())) (armplanref10_Placed x.1)) else none) :=
  fn_part (t := fun (x : Ar [.list (TIVec)]) => t_armplanref10_Placed x.1) (R := Bool) (Ts := [.bool]) (mk := (fun r => (r, ()))) (mkC_ok itys_ok ieqs_ok (fns_nil _) (inl_nil _) (lpOne_ok (b := loopBody 0 (Tryz.f16.body.getD .skip)) Tryz.func16 (by kernel_rfl) lok_armplanref10_Placed_L0 noLoops_ok) mixed) Tryz.func16 run_armplanref10_Placed
def hd_armplanref10_Placed : Hd := guardHd [.list (TIVec)] [.bool] (fun x => dom_armplanref10_Placed x.1) (fun x => (fun r => (r, ())) (armplanref10_Placed x.1))
theorem ok_armplanref10_Placed : HdOk Tryz.prog 16 hd_armplanref10_Placed.sem ∧ Enters Tryz.prog 16 := guard_ok fn_armplanref10_Placed Tryz.func16 (by kernel_rfl) (by kernel_rfl)

/- loop 0 of armplan/armplanlaw11.KinematicsPlaced -/
abbrev ss_armplanlaw11_KinematicsPlaced_L0 : List Slot := [⟨[6], false, false, [.d (.list (.list (TIVec)))]⟩, ⟨[7], false, false, [.d (.int .i64)]⟩]
abbrev os_armplanlaw11_KinematicsPlaced_L0 : List (Exit × List Slot) := [(.exit 0, []), (.ret, [⟨[4], false, false, [.d (.bool)]⟩])]
def t_armplanlaw11_KinematicsPlaced_L0 (a0 : List (List (DIVec))) (a1 : Int) : Tr (Sl ss_armplanlaw11_KinematicsPlaced_L0 ⊕ Outs os_armplanlaw11_KinematicsPlaced_L0) :=
  let x1 : Bool := decide (a1 < ((a0.length : Nat) : Int))
  .br (x1) (
   .br (decide (0 ≤ a1) && decide (a1 < ((a0.length : Nat) : Int))) (
    let r2 : Bool := armplanref10_Placed (List.getD a0 a1.toNat (Ty.dflt (.list (TIVec))))
    .br (dom_armplanref10_Placed (List.getD a0 a1.toNat (Ty.dflt (.list (TIVec))))) (
     .br ((!r2)) (
      .leaf (.inr (.inr ((false, ()), ())))) (
      let x3 : Int := IntKind.wrap .i64 (a1 + 1)
      .leaf (.inl ((a0, ()), (x3, ()), ())))) .fail) .fail) (
   .leaf (.inr (.inl ())))
def step_armplanlaw11_KinematicsPlaced_L0 : Sl ss_armplanlaw11_KinematicsPlaced_L0 → Option (Sl ss_armplanlaw11_KinematicsPlaced_L0 ⊕ Outs os_armplanlaw11_KinematicsPlaced_L0) := fun x => (t_armplanlaw11_KinematicsPlaced_L0 x.1.1 x.2.1.1).optA id
theorem run_armplanlaw11_KinematicsPlaced_L0 : ∀ (x : Sl ss_armplanlaw11_KinematicsPlaced_L0) (vs : Nat → Value), run (mkC itys ieqs [(16, hd_armplanref10_Placed)] [] noLoops) 200 5 (loopBody 0 (Tryz.f5.body.getD .skip)) (mkSt ss_armplanlaw11_KinematicsPlaced_L0 x (baseT 35 [] [] vs)) (endK ss_armplanlaw11_KinematicsPlaced_L0 os_armplanlaw11_KinematicsPlaced_L0 35 []) = (t_armplanlaw11_KinematicsPlaced_L0 x.1.1 x.2.1.1).optA fun r => (r, [].map (keptA [] vs)) := by
  intro x vs; kernel_rfl
instance inh_armplanlaw11_KinematicsPlaced_L0 : Inhabited (Outs os_armplanlaw11_KinematicsPlaced_L0) := ⟨outsDflt os_armplanlaw11_KinematicsPlaced_L0⟩
def dom_armplanlaw11_KinematicsPlaced_L0 (x : Sl ss_armplanlaw11_KinematicsPlaced_L0) : Bool := (loopN step_armplanlaw11_KinematicsPlaced_L0 rounds x).isSome
def val_armplanlaw11_KinematicsPlaced_L0 (x : Sl ss_armplanlaw11_KinematicsPlaced_L0) : Outs os_armplanlaw11_KinematicsPlaced_L0 := (loopN step_armplanlaw11_KinematicsPlaced_L0 rounds x).getD default
def loop_armplanlaw11_KinematicsPlaced_L0 : LoopD := mkLoop ss_armplanlaw11_KinematicsPlaced_L0 os_armplanlaw11_KinematicsPlaced_L0 35 [] [] step_armplanlaw11_KinematicsPlaced_L0 dom_armplanlaw11_KinematicsPlaced_L0 val_armplanlaw11_KinematicsPlaced_L0 (loop_hv step_armplanlaw11_KinematicsPlaced_L0)
theorem lok_armplanlaw11_KinematicsPlaced_L0 : LoopOk Tryz.prog (loopLH loop_armplanlaw11_KinematicsPlaced_L0 0) 0 (.loop (loopBody 0 (Tryz.f5.body.getD .skip))) := loop_in (D := loop_armplanlaw11_KinematicsPlaced_L0) (n := 200) (cur := 5) (mkC_ok itys_ok ieqs_ok (fns_cons ok_armplanref10_Placed (fns_nil _)) (inl_nil _) noLoops_ok mixed) Tryz.func5 (by kernel_rfl) (turns_of run_armplanlaw11_KinematicsPlaced_L0) (by kernel_rfl) (by kernel_rfl) (by kernel_rfl)

/- armplan/armplanlaw11.KinematicsPlaced -/
def t_armplanlaw11_KinematicsPlaced (a0 : List (Int)) (a1 : List (Int)) : Tr Bool :=
  let r1 : DScene := armplanmake_Scene a0
  .br (dom_armplanmake_Scene a0) (
   let r2 : List ((Int × Int)) := armplanmake_Box r1.1 a1
   .br (dom_armplanmake_Box r1.1 a1) (
    let r3 : List (List (DIVec)) := kinematics_Points r1 r2
    .br (dom_kinematics_Points r1 r2) (
     let x4 : Bool := !decide (((r3.length : Nat) : Int) = ((r1.2.1.length : Nat) : Int))
     .br (x4) (
      .leaf false) (
      let r5 : Outs os_armplanlaw11_KinematicsPlaced_L0 := val_armplanlaw11_KinematicsPlaced_L0 ((r3, ()), (0, ()), ())
      .br (dom_armplanlaw11_KinematicsPlaced_L0 ((r3, ()), (0, ()), ())) (
       let r6 := getL r5
       let r7 := getR r5
       .br (isL r5) (
        let r8 : Bool := armplanlaw11_awake
        .br (dom_armplanlaw11_awake) (
         .leaf r8) .fail) (
        let y9 : Bool := r7.1.1
        .leaf y9)) .fail)) .fail) .fail) .fail
def armplanlaw11_KinematicsPlaced (a0 : List (Int)) (a1 : List (Int)) : Bool := (t_armplanlaw11_KinematicsPlaced a0 a1).val
def dom_armplanlaw11_KinematicsPlaced (a0 : List (Int)) (a1 : List (Int)) : Bool := (t_armplanlaw11_KinematicsPlaced a0 a1).dom
theorem run_armplanlaw11_KinematicsPlaced : ∀ x, runF (mkC itys ieqs [(7, hd_armplanmake_Scene), (8, hd_armplanmake_Box), (9, hd_armplanlaw11_awake), (13, hd_kinematics_Points)] [] (lpOne 5 0 (loopLH loop_armplanlaw11_KinematicsPlaced_L0 0) noLoops)) 200 5 Tryz.f5 (argsA [.list (.int .i64), .list (.int .i64)] x) [] (fun v h => toRes h [.bool] v) = (t_armplanlaw11_KinematicsPlaced x.1 x.2.1).optA (fun r => (r, ())) := by
  intro x; kernel_rfl
theorem fn_armplanlaw11_KinematicsPlaced : FnOk Tryz.prog 5 [.list (.int .i64), .list (.int .i64)] [.bool] (fun x => bif dom_armplanlaw11_KinematicsPlaced x.1 x.2.1 then some ((fun r => (r, ())) (armplanlaw11_KinematicsPlaced x.1 x.2.1)) else none) :=
  fn_part (t := fun (x : Ar [.list (.int .i64), .list (.int .i64)]) => t_armplanlaw11_KinematicsPlaced x.1 x.2.1) (R := Bool) (Ts := [.bool]) (mk := (fun r => (r, ()))) (mkC_ok itys_ok ieqs_ok (fns_cons ok_armplanmake_Scene (fns_cons ok_armplanmake_Box (fns_cons ok_armplanlaw11_awake (fns_cons ok_kinematics_Points (fns_nil _))))) (inl_nil _) (lpOne_ok (b := loopBody 0 (Tryz.f5.body.getD .skip)) Tryz.func5 (by kernel_rfl) lok_armplanlaw11_KinematicsPlaced_L0 noLoops_ok) mixed) Tryz.func5 run_armplanlaw11_KinematicsPlaced
/- loop 0 of armplan/armplanref10.small -/
abbrev ss_armplanref10_small_L0 : List Slot := [⟨[0], false, false, [.d (.list (.int .i64))]⟩, ⟨[3], false, false, [.d (.int .i64)]⟩]
abbrev os_armplanref10_small_L0 : List (Exit × List Slot) := [(.exit 0, []), (.ret, [⟨[2], false, false, [.d (.bool)]⟩])]
def t_armplanref10_small_L0 (a0 : List (Int)) (a1 : Int) : Tr (Sl ss_armplanref10_small_L0 ⊕ Outs os_armplanref10_small_L0) :=
  let x1 : Bool := decide (a1 < ((a0.length : Nat) : Int))
  .br (x1) (
   .br (decide (0 ≤ a1) && decide (a1 < ((a0.length : Nat) : Int))) (
    let x2 : Bool := decide ((List.getD a0 a1.toNat (Ty.dflt (.int .i64))) < (-2147483648))
    .br (x2) (
     .leaf (.inr (.inr ((false, ()), ())))) (
     .br (decide (0 ≤ a1) && decide (a1 < ((a0.length : Nat) : Int))) (
      let x3 : Bool := decide (2147483648 < (List.getD a0 a1.toNat (Ty.dflt (.int .i64))))
      .br (x3) (
       .leaf (.inr (.inr ((false, ()), ())))) (
       let x4 : Int := IntKind.wrap .i64 (a1 + 1)
       .leaf (.inl ((a0, ()), (x4, ()), ())))) .fail)) .fail) (
   .leaf (.inr (.inl ())))
def step_armplanref10_small_L0 : Sl ss_armplanref10_small_L0 → Option (Sl ss_armplanref10_small_L0 ⊕ Outs os_armplanref10_small_L0) := fun x => (t_armplanref10_small_L0 x.1.1 x.2.1.1).optA id
theorem run_armplanref10_small_L0 : ∀ (x : Sl ss_armplanref10_small_L0) (vs : Nat → Value), run (mkC itys ieqs [] [] noLoops) 200 46 (loopBody 0 (Tryz.f46.body.getD .skip)) (mkSt ss_armplanref10_small_L0 x (baseT 22 [] [] vs)) (endK ss_armplanref10_small_L0 os_armplanref10_small_L0 22 []) = (t_armplanref10_small_L0 x.1.1 x.2.1.1).optA fun r => (r, [].map (keptA [] vs)) := by
  intro x vs; kernel_rfl
instance inh_armplanref10_small_L0 : Inhabited (Outs os_armplanref10_small_L0) := ⟨outsDflt os_armplanref10_small_L0⟩
def dom_armplanref10_small_L0 (x : Sl ss_armplanref10_small_L0) : Bool := (loopN step_armplanref10_small_L0 rounds x).isSome
def val_armplanref10_small_L0 (x : Sl ss_armplanref10_small_L0) : Outs os_armplanref10_small_L0 := (loopN step_armplanref10_small_L0 rounds x).getD default
def loop_armplanref10_small_L0 : LoopD := mkLoop ss_armplanref10_small_L0 os_armplanref10_small_L0 22 [] [] step_armplanref10_small_L0 dom_armplanref10_small_L0 val_armplanref10_small_L0 (loop_hv step_armplanref10_small_L0)
theorem lok_armplanref10_small_L0 : LoopOk Tryz.prog (loopLH loop_armplanref10_small_L0 0) 0 (.loop (loopBody 0 (Tryz.f46.body.getD .skip))) := loop_in (D := loop_armplanref10_small_L0) (n := 200) (cur := 46) (mkC_ok itys_ok ieqs_ok (fns_nil _) (inl_nil _) noLoops_ok mixed) Tryz.func46 (by kernel_rfl) (turns_of run_armplanref10_small_L0) (by kernel_rfl) (by kernel_rfl) (by kernel_rfl)

/- armplan/armplanref10.small -/
def t_armplanref10_small (a0 : List (Int)) : Tr Bool :=
  let r1 : Outs os_armplanref10_small_L0 := val_armplanref10_small_L0 ((a0, ()), (0, ()), ())
  .br (dom_armplanref10_small_L0 ((a0, ()), (0, ()), ())) (
   let r2 := getL r1
   let r3 := getR r1
   .br (isL r1) (
    .leaf true) (
    let y4 : Bool := r3.1.1
    .leaf y4)) .fail
def armplanref10_small (a0 : List (Int)) : Bool := (t_armplanref10_small a0).val
def dom_armplanref10_small (a0 : List (Int)) : Bool := (t_armplanref10_small a0).dom
theorem run_armplanref10_small : ∀ x, runF (mkC itys ieqs [] [] (lpOne 46 0 (loopLH loop_armplanref10_small_L0 0) noLoops)) 200 46 Tryz.f46 (argsA [.list (.int .i64)] x) [] (fun v h => toRes h [.bool] v) = (t_armplanref10_small x.1).optA (fun r => (r, ())) := by
  intro x; kernel_rfl
theorem fn_armplanref10_small : FnOk Tryz.prog 46 [.list (.int .i64)] [.bool] (fun x => bif dom_armplanref10_small x.1 then some ((fun r => (r, ())) (armplanref10_small x.1)) else none) :=
  fn_part (t := fun (x : Ar [.list (.int .i64)]) => t_armplanref10_small x.1) (R := Bool) (Ts := [.bool]) (mk := (fun r => (r, ()))) (mkC_ok itys_ok ieqs_ok (fns_nil _) (inl_nil _) (lpOne_ok (b := loopBody 0 (Tryz.f46.body.getD .skip)) Tryz.func46 (by kernel_rfl) lok_armplanref10_small_L0 noLoops_ok) mixed) Tryz.func46 run_armplanref10_small
def hd_armplanref10_small : Hd := guardHd [.list (.int .i64)] [.bool] (fun x => dom_armplanref10_small x.1) (fun x => (fun r => (r, ())) (armplanref10_small x.1))
theorem ok_armplanref10_small : HdOk Tryz.prog 46 hd_armplanref10_small.sem ∧ Enters Tryz.prog 46 := guard_ok fn_armplanref10_small Tryz.func46 (by kernel_rfl) (by kernel_rfl)

/- loop 0 of armplan/armplanref10.Box -/
abbrev ss_armplanref10_Box_L0 : List Slot := [⟨[0], false, false, [.d (.list (.int .i64))]⟩, ⟨[3], false, false, [.v 44 (.pair (.int .i64) (.int .i64))]⟩, ⟨[4], false, false, [.d (.int .i64)]⟩]
abbrev os_armplanref10_Box_L0 : List (Exit × List Slot) := [(.exit 0, [⟨[3], false, false, [.v 44 (.pair (.int .i64) (.int .i64))]⟩])]
def t_armplanref10_Box_L0 (a0 : List (Int)) (a1 : List ((Int × Int))) (a2 : Int) : Tr (Sl ss_armplanref10_Box_L0 ⊕ Outs os_armplanref10_Box_L0) :=
  let x1 : Bool := decide (a2 < ((a0.length : Nat) : Int))
  .br (x1) (
   .br (decide (0 ≤ a2) && decide (a2 < ((a0.length : Nat) : Int))) (
    .br (decide (0 ≤ a2) && decide (a2 < ((a0.length : Nat) : Int))) (
     .br (room (a1.length + [((List.getD a0 a2.toNat (Ty.dflt (.int .i64))), (List.getD a0 a2.toNat (Ty.dflt (.int .i64))))].length)) (
      let x2 : Int := IntKind.wrap .i64 (a2 + 1)
      .leaf (.inl ((a0, ()), ((a1 ++ [((List.getD a0 a2.toNat (Ty.dflt (.int .i64))), (List.getD a0 a2.toNat (Ty.dflt (.int .i64))))]), ()), (x2, ()), ()))) .fail) .fail) .fail) (
   .leaf (.inr ((a1, ()), ())))
def step_armplanref10_Box_L0 : Sl ss_armplanref10_Box_L0 → Option (Sl ss_armplanref10_Box_L0 ⊕ Outs os_armplanref10_Box_L0) := fun x => (t_armplanref10_Box_L0 x.1.1 x.2.1.1 x.2.2.1.1).optA id
theorem run_armplanref10_Box_L0 : ∀ (x : Sl ss_armplanref10_Box_L0) (vs : Nat → Value), run (mkC itys ieqs [] [] noLoops) 200 17 (loopBody 0 (Tryz.f17.body.getD .skip)) (mkSt ss_armplanref10_Box_L0 x (baseT 27 [] [] vs)) (endK ss_armplanref10_Box_L0 os_armplanref10_Box_L0 27 []) = (t_armplanref10_Box_L0 x.1.1 x.2.1.1 x.2.2.1.1).optA fun r => (r, [].map (keptA [] vs)) := by
  intro x vs; kernel_rfl
instance inh_armplanref10_Box_L0 : Inhabited (Outs os_armplanref10_Box_L0) := ⟨outsDflt os_armplanref10_Box_L0⟩
def dom_armplanref10_Box_L0 (x : Sl ss_armplanref10_Box_L0) : Bool := (loopN step_armplanref10_Box_L0 rounds x).isSome
def val_armplanref10_Box_L0 (x : Sl ss_armplanref10_Box_L0) : Outs os_armplanref10_Box_L0 := (loopN step_armplanref10_Box_L0 rounds x).getD default
def loop_armplanref10_Box_L0 : LoopD := mkLoop ss_armplanref10_Box_L0 os_armplanref10_Box_L0 27 [] [] step_armplanref10_Box_L0 dom_armplanref10_Box_L0 val_armplanref10_Box_L0 (loop_hv step_armplanref10_Box_L0)
theorem lok_armplanref10_Box_L0 : LoopOk Tryz.prog (loopLH loop_armplanref10_Box_L0 0) 0 (.loop (loopBody 0 (Tryz.f17.body.getD .skip))) := loop_in (D := loop_armplanref10_Box_L0) (n := 200) (cur := 17) (mkC_ok itys_ok ieqs_ok (fns_nil _) (inl_nil _) noLoops_ok mixed) Tryz.func17 (by kernel_rfl) (turns_of run_armplanref10_Box_L0) (by kernel_rfl) (by kernel_rfl) (by kernel_rfl)

/- armplan/armplanref10.Box -/
def t_armplanref10_Box (a0 : List (Int)) : Tr (List ((Int × Int))) :=
  let r1 : Bool := armplanref10_small a0
  .br (dom_armplanref10_small a0) (
   .br ((!r1)) (
    .leaf []) (
    let r2 : Outs os_armplanref10_Box_L0 := val_armplanref10_Box_L0 ((a0, ()), ([], ()), (0, ()), ())
    .br (dom_armplanref10_Box_L0 ((a0, ()), ([], ()), (0, ()), ())) (
     let y3 : List ((Int × Int)) := r2.1.1
     .leaf y3) .fail)) .fail
def armplanref10_Box (a0 : List (Int)) : List ((Int × Int)) := (t_armplanref10_Box a0).val
def dom_armplanref10_Box (a0 : List (Int)) : Bool := (t_armplanref10_Box a0).dom
theorem run_armplanref10_Box : ∀ x, runF (mkC itys ieqs [(46, hd_armplanref10_small)] [] (lpOne 17 0 (loopLH loop_armplanref10_Box_L0 0) noLoops)) 200 17 Tryz.f17 (argsA [.list (.int .i64)] x) [] (fun v h => toRes h [.list (.pair (.int .i64) (.int .i64))] v) = (t_armplanref10_Box x.1).optA (fun r => (r, ())) := by
  intro x; kernel_rfl
theorem fn_armplanref10_Box : FnOk Tryz.prog 17 [.list (.int .i64)] [.list (.pair (.int .i64) (.int .i64))] (fun x => bif dom_armplanref10_Box x.1 then some ((fun r => (r, ())) (armplanref10_Box x.1)) else none) :=
  fn_part (t := fun (x : Ar [.list (.int .i64)]) => t_armplanref10_Box x.1) (R := List ((Int × Int))) (Ts := [.list (.pair (.int .i64) (.int .i64))]) (mk := (fun r => (r, ()))) (mkC_ok itys_ok ieqs_ok (fns_cons ok_armplanref10_small (fns_nil _)) (inl_nil _) (lpOne_ok (b := loopBody 0 (Tryz.f17.body.getD .skip)) Tryz.func17 (by kernel_rfl) lok_armplanref10_Box_L0 noLoops_ok) mixed) Tryz.func17 run_armplanref10_Box
def hd_armplanref10_Box : Hd := guardHd [.list (.int .i64)] [.list (.pair (.int .i64) (.int .i64))] (fun x => dom_armplanref10_Box x.1) (fun x => (fun r => (r, ())) (armplanref10_Box x.1))
theorem ok_armplanref10_Box : HdOk Tryz.prog 17 hd_armplanref10_Box.sem ∧ Enters Tryz.prog 17 := guard_ok fn_armplanref10_Box Tryz.func17 (by kernel_rfl) (by kernel_rfl)

/- loop 0 of armplan/armplanmake.Config -/
abbrev ss_armplanmake_Config_L0 : List Slot := [⟨[2], true, false, [.d (TRobot)]⟩, ⟨[5], true, false, [.d (TSource)]⟩, ⟨[6], false, false, [.v 2 (.int .i64)]⟩, ⟨[7], false, false, [.d (.int .i64)]⟩]
abbrev os_armplanmake_Config_L0 : List (Exit × List Slot) := [(.exit 0, [⟨[2], true, false, [.d (TRobot)]⟩, ⟨[5], true, false, [.d (TSource)]⟩, ⟨[6], false, false, [.v 2 (.int .i64)]⟩])]
def t_armplanmake_Config_L0 (a0 : DRobot) (a1 : DSource) (a2 : List (Int)) (a3 : Int) : Tr (Sl ss_armplanmake_Config_L0 ⊕ Outs os_armplanmake_Config_L0) :=
  let x1 : Bool := decide (a3 < ((a0.1.length : Nat) : Int))
  .br (x1) (
   .br (decide (0 ≤ a3) && decide (a3 < ((a0.1.length : Nat) : Int))) (
    .br (decide (0 ≤ a3) && decide (a3 < ((a0.1.length : Nat) : Int))) (
     let r2 : (Int × DSource) := armplanmake_Source_Next a1 6
     .br (dom_armplanmake_Source_Next a1 6) (
      let x3 : Bool := decide (r2.1 = 0)
      .br (x3) (
       .br (room (a2.length + [((((((List.getD a0.1 a3.toNat (Ty.dflt (TJoint)))).2).2).2).2).1].length)) (
        let x4 : Int := IntKind.wrap .i64 (a3 + 1)
        .leaf (.inl ((a0, ()), (r2.2, ()), ((a2 ++ [((((((List.getD a0.1 a3.toNat (Ty.dflt (TJoint)))).2).2).2).2).1]), ()), (x4, ()), ()))) .fail) (
       let x5 : Bool := decide (r2.1 = 1)
       .br (x5) (
        .br (room (a2.length + [(((((((List.getD a0.1 a3.toNat (Ty.dflt (TJoint)))).2).2).2).2).2).1].length)) (
         let x6 : Int := IntKind.wrap .i64 (a3 + 1)
         .leaf (.inl ((a0, ()), (r2.2, ()), ((a2 ++ [(((((((List.getD a0.1 a3.toNat (Ty.dflt (TJoint)))).2).2).2).2).2).1]), ()), (x6, ()), ()))) .fail) (
        let x7 : Int := IntKind.wrap .i64 ((((((((List.getD a0.1 a3.toNat (Ty.dflt (TJoint)))).2).2).2).2).2).1 - ((((((List.getD a0.1 a3.toNat (Ty.dflt (TJoint)))).2).2).2).2).1)
        let x8 : Int := IntKind.wrap .i64 (x7 + 1)
        let r9 : (Int × DSource) := armplanmake_Source_Next r2.2 x8
        .br (dom_armplanmake_Source_Next r2.2 x8) (
         let x10 : Int := IntKind.wrap .i64 (((((((List.getD a0.1 a3.toNat (Ty.dflt (TJoint)))).2).2).2).2).1 + r9.1)
         .br (room (a2.length + [x10].length)) (
          let x11 : Int := IntKind.wrap .i64 (a3 + 1)
          .leaf (.inl ((a0, ()), (r9.2, ()), ((a2 ++ [x10]), ()), (x11, ()), ()))) .fail) .fail))) .fail) .fail) .fail) (
   .leaf (.inr ((a0, ()), (a1, ()), (a2, ()), ())))
def step_armplanmake_Config_L0 : Sl ss_armplanmake_Config_L0 → Option (Sl ss_armplanmake_Config_L0 ⊕ Outs os_armplanmake_Config_L0) := fun x => (t_armplanmake_Config_L0 x.1.1 x.2.1.1 x.2.2.1.1 x.2.2.2.1.1).optA id
theorem run_armplanmake_Config_L0 : ∀ (x : Sl ss_armplanmake_Config_L0) (vs : Nat → Value), run (mkC itys ieqs [(26, hd_armplanmake_Source_Next)] [] noLoops) 200 18 (loopBody 0 (Tryz.f18.body.getD .skip)) (mkSt ss_armplanmake_Config_L0 x (baseT 57 [] [] vs)) (endK ss_armplanmake_Config_L0 os_armplanmake_Config_L0 57 []) = (t_armplanmake_Config_L0 x.1.1 x.2.1.1 x.2.2.1.1 x.2.2.2.1.1).optA fun r => (r, [].map (keptA [] vs)) := by
  intro x vs; kernel_rfl
instance inh_armplanmake_Config_L0 : Inhabited (Outs os_armplanmake_Config_L0) := ⟨outsDflt os_armplanmake_Config_L0⟩
def dom_armplanmake_Config_L0 (x : Sl ss_armplanmake_Config_L0) : Bool := (loopN step_armplanmake_Config_L0 rounds x).isSome
def val_armplanmake_Config_L0 (x : Sl ss_armplanmake_Config_L0) : Outs os_armplanmake_Config_L0 := (loopN step_armplanmake_Config_L0 rounds x).getD default
def loop_armplanmake_Config_L0 : LoopD := mkLoop ss_armplanmake_Config_L0 os_armplanmake_Config_L0 57 [] [] step_armplanmake_Config_L0 dom_armplanmake_Config_L0 val_armplanmake_Config_L0 (loop_hv step_armplanmake_Config_L0)
theorem lok_armplanmake_Config_L0 : LoopOk Tryz.prog (loopLH loop_armplanmake_Config_L0 0) 0 (.loop (loopBody 0 (Tryz.f18.body.getD .skip))) := loop_in (D := loop_armplanmake_Config_L0) (n := 200) (cur := 18) (mkC_ok itys_ok ieqs_ok (fns_cons ok_armplanmake_Source_Next (fns_nil _)) (inl_nil _) noLoops_ok mixed) Tryz.func18 (by kernel_rfl) (turns_of run_armplanmake_Config_L0) (by kernel_rfl) (by kernel_rfl) (by kernel_rfl)

/- armplan/armplanmake.Config -/
def t_armplanmake_Config (a0 : DRobot) (a1 : List (Int)) : Tr (List (Int)) :=
  let r1 : Outs os_armplanmake_Config_L0 := val_armplanmake_Config_L0 ((a0, ()), ((a1, 0), ()), ([], ()), (0, ()), ())
  .br (dom_armplanmake_Config_L0 ((a0, ()), ((a1, 0), ()), ([], ()), (0, ()), ())) (
   let y2 : DRobot := r1.1.1
   let y3 : DSource := r1.2.1.1
   let y4 : List (Int) := r1.2.2.1.1
   .leaf y4) .fail
def armplanmake_Config (a0 : DRobot) (a1 : List (Int)) : List (Int) := (t_armplanmake_Config a0 a1).val
def dom_armplanmake_Config (a0 : DRobot) (a1 : List (Int)) : Bool := (t_armplanmake_Config a0 a1).dom
theorem run_armplanmake_Config : ∀ x, runF (mkC itys ieqs [] [(24, Tryz.f24)] (lpOne 18 0 (loopLH loop_armplanmake_Config_L0 0) noLoops)) 200 18 Tryz.f18 (argsA [TRobot, .list (.int .i64)] x) [] (fun v h => toRes h [.list (.int .i64)] v) = (t_armplanmake_Config x.1 x.2.1).optA (fun r => (r, ())) := by
  intro x; kernel_rfl
theorem fn_armplanmake_Config : FnOk Tryz.prog 18 [TRobot, .list (.int .i64)] [.list (.int .i64)] (fun x => bif dom_armplanmake_Config x.1 x.2.1 then some ((fun r => (r, ())) (armplanmake_Config x.1 x.2.1)) else none) :=
  fn_part (t := fun (x : Ar [TRobot, .list (.int .i64)]) => t_armplanmake_Config x.1 x.2.1) (R := List (Int)) (Ts := [.list (.int .i64)]) (mk := (fun r => (r, ()))) (mkC_ok itys_ok ieqs_ok (fns_nil _) (inl_cons Tryz.func24 (by kernel_rfl) (inl_nil _)) (lpOne_ok (b := loopBody 0 (Tryz.f18.body.getD .skip)) Tryz.func18 (by kernel_rfl) lok_armplanmake_Config_L0 noLoops_ok) mixed) Tryz.func18 run_armplanmake_Config
def hd_armplanmake_Config : Hd := guardHd [TRobot, .list (.int .i64)] [.list (.int .i64)] (fun x => dom_armplanmake_Config x.1 x.2.1) (fun x => (fun r => (r, ())) (armplanmake_Config x.1 x.2.1))
theorem ok_armplanmake_Config : HdOk Tryz.prog 18 hd_armplanmake_Config.sem ∧ Enters Tryz.prog 18 := guard_ok fn_armplanmake_Config Tryz.func18 (by kernel_rfl) (by kernel_rfl)

/- armplan/armplanlaw11.square -/
def t_armplanlaw11_square (a0 : DIVec) : Tr (Int × Int) :=
  let r1 : (Int × Int) := armplanref1_Square a0.1
  let r2 : (Int × Int) := armplanref1_Square a0.2.1
  let r3 : (Int × Int) := armplanref1_Add r1 r2
  let r4 : (Int × Int) := armplanref1_Square a0.2.2
  let r5 : (Int × Int) := armplanref1_Add r3 r4
  .leaf r5
def armplanlaw11_square (a0 : DIVec) : (Int × Int) := (t_armplanlaw11_square a0).val
theorem run_armplanlaw11_square : ∀ x, runF (mkC itys ieqs [(49, hd_armplanref1_Add), (50, hd_armplanref1_Square)] [] noLoops) 200 23 Tryz.f23 (argsA [TIVec] x) [] (fun v h => toRes h [.pair (.int .i64) (.int .i64)] v) = (t_armplanlaw11_square x.1).optA (fun r => (r, ())) := by
  intro x; kernel_rfl
theorem fn_armplanlaw11_square : FnOk Tryz.prog 23 [TIVec] [.pair (.int .i64) (.int .i64)] (fun x => some ((fun r => (r, ())) (armplanlaw11_square x.1))) :=
  fn_tot (t := fun (x : Ar [TIVec]) => t_armplanlaw11_square x.1) (R := (Int × Int)) (Ts := [.pair (.int .i64) (.int .i64)]) (mk := (fun r => (r, ()))) (mkC_ok itys_ok ieqs_ok (fns_cons ok_armplanref1_Add (fns_cons ok_armplanref1_Square (fns_nil _))) (inl_nil _) noLoops_ok mixed) Tryz.func23 run_armplanlaw11_square (fun _ => by kernel_rfl)
def hd_armplanlaw11_square : Hd := dataHd [TIVec] [.pair (.int .i64) (.int .i64)] (fun x => some ((fun r => (r, ())) (armplanlaw11_square x.1)))
theorem ok_armplanlaw11_square : HdOk Tryz.prog 23 hd_armplanlaw11_square.sem ∧ Enters Tryz.prog 23 := data_ok fn_armplanlaw11_square Tryz.func23 (by kernel_rfl) (by kernel_rfl)

/- loop 0 of armplan/armplanlaw11.KinematicsRigid -/
abbrev ss_armplanlaw11_KinematicsRigid_L0 : List Slot := [⟨[8], false, false, [.d (.list (.list (TIVec)))]⟩, ⟨[9], false, false, [.d (.int .i64)]⟩, ⟨[10], false, false, [.d (.list (TVec))]⟩, ⟨[11], false, false, [.d (.int .i64)]⟩]
abbrev os_armplanlaw11_KinematicsRigid_L0 : List (Exit × List Slot) := [(.exit 0, []), (.ret, [⟨[6], false, false, [.d (.bool)]⟩])]
def t_armplanlaw11_KinematicsRigid_L0 (a0 : List (List (DIVec))) (a1 : Int) (a2 : List (DVec)) (a3 : Int) : Tr (Sl ss_armplanlaw11_KinematicsRigid_L0 ⊕ Outs os_armplanlaw11_KinematicsRigid_L0) :=
  let x1 : Bool := decide (a3 < ((a2.length : Nat) : Int))
  .br (x1) (
   .br (decide (0 ≤ a3) && decide (a3 < ((a2.length : Nat) : Int))) (
    let r2 : DIVec := armplanref1_Point (List.getD a2 a3.toNat (Ty.dflt (TVec)))
    .br (decide (0 < ((a2.length : Nat) : Int))) (
     let r3 : DIVec := armplanref1_Point (List.getD a2 0 (Ty.dflt (TVec)))
     let r4 : DIVec := armplanref1_SubVec r2 r3
     .br (decide (0 ≤ a1) && decide (a1 < ((a0.length : Nat) : Int))) (
      .br (decide (0 ≤ a3) && decide (a3 < (((List.getD a0 a1.toNat (Ty.dflt (.list (TIVec)))).length : Nat) : Int))) (
       .br (decide (0 ≤ a1) && decide (a1 < ((a0.length : Nat) : Int))) (
        .br (decide (0 < (((List.getD a0 a1.toNat (Ty.dflt (.list (TIVec)))).length : Nat) : Int))) (
         let r5 : DIVec := armplanref1_SubVec (List.getD (List.getD a0 a1.toNat (Ty.dflt (.list (TIVec)))) a3.toNat (Ty.dflt (TIVec))) (List.getD (List.getD a0 a1.toNat (Ty.dflt (.list (TIVec)))) 0 (Ty.dflt (TIVec)))
         let r6 : (Int × Int) := armplanlaw11_square r4
         let r7 : (Int × Int) := armplanlaw11_square r5
         let r8 : ((Int × Int) × Bool) := armplanref1_Meet r6 r7
         .br ((!r8.2)) (
          .leaf (.inr (.inr ((false, ()), ())))) (
          let x9 : Int := IntKind.wrap .i64 (a3 + 1)
          .leaf (.inl ((a0, ()), (a1, ()), (a2, ()), (x9, ()), ())))) .fail) .fail) .fail) .fail) .fail) .fail) (
   .leaf (.inr (.inl ())))
def step_armplanlaw11_KinematicsRigid_L0 : Sl ss_armplanlaw11_KinematicsRigid_L0 → Option (Sl ss_armplanlaw11_KinematicsRigid_L0 ⊕ Outs os_armplanlaw11_KinematicsRigid_L0) := fun x => (t_armplanlaw11_KinematicsRigid_L0 x.1.1 x.2.1.1 x.2.2.1.1 x.2.2.2.1.1).optA id
theorem run_armplanlaw11_KinematicsRigid_L0 : ∀ (x : Sl ss_armplanlaw11_KinematicsRigid_L0) (vs : Nat → Value), run (mkC itys ieqs [(20, hd_armplanref1_SubVec), (21, hd_armplanref1_Point), (22, hd_armplanref1_Meet), (23, hd_armplanlaw11_square)] [] noLoops) 200 6 (loopBody 0 (Tryz.f6.body.getD .skip)) (mkSt ss_armplanlaw11_KinematicsRigid_L0 x (baseT 90 [] [] vs)) (endK ss_armplanlaw11_KinematicsRigid_L0 os_armplanlaw11_KinematicsRigid_L0 90 []) = (t_armplanlaw11_KinematicsRigid_L0 x.1.1 x.2.1.1 x.2.2.1.1 x.2.2.2.1.1).optA fun r => (r, [].map (keptA [] vs)) := by
  intro x vs; kernel_rfl
instance inh_armplanlaw11_KinematicsRigid_L0 : Inhabited (Outs os_armplanlaw11_KinematicsRigid_L0) := ⟨outsDflt os_armplanlaw11_KinematicsRigid_L0⟩
def dom_armplanlaw11_KinematicsRigid_L0 (x : Sl ss_armplanlaw11_KinematicsRigid_L0) : Bool := (loopN step_armplanlaw11_KinematicsRigid_L0 rounds x).isSome
def val_armplanlaw11_KinematicsRigid_L0 (x : Sl ss_armplanlaw11_KinematicsRigid_L0) : Outs os_armplanlaw11_KinematicsRigid_L0 := (loopN step_armplanlaw11_KinematicsRigid_L0 rounds x).getD default
def loop_armplanlaw11_KinematicsRigid_L0 : LoopD := mkLoop ss_armplanlaw11_KinematicsRigid_L0 os_armplanlaw11_KinematicsRigid_L0 90 [] [] step_armplanlaw11_KinematicsRigid_L0 dom_armplanlaw11_KinematicsRigid_L0 val_armplanlaw11_KinematicsRigid_L0 (loop_hv step_armplanlaw11_KinematicsRigid_L0)
theorem lok_armplanlaw11_KinematicsRigid_L0 : LoopOk Tryz.prog (loopLH loop_armplanlaw11_KinematicsRigid_L0 0) 0 (.loop (loopBody 0 (Tryz.f6.body.getD .skip))) := loop_in (D := loop_armplanlaw11_KinematicsRigid_L0) (n := 200) (cur := 6) (mkC_ok itys_ok ieqs_ok (fns_cons ok_armplanref1_SubVec (fns_cons ok_armplanref1_Point (fns_cons ok_armplanref1_Meet (fns_cons ok_armplanlaw11_square (fns_nil _))))) (inl_nil _) noLoops_ok mixed) Tryz.func6 (by kernel_rfl) (turns_of run_armplanlaw11_KinematicsRigid_L0) (by kernel_rfl) (by kernel_rfl) (by kernel_rfl)

/- armplan/armplanlaw11.KinematicsRigid -/
def t_armplanlaw11_KinematicsRigid (a0 : List (Int)) (a1 : List (Int)) (a2 : Int) : Tr Bool :=
  let r1 : DScene := armplanmake_Scene a0
  .br (dom_armplanmake_Scene a0) (
   let r2 : List (Int) := armplanmake_Config r1.1 a1
   .br (dom_armplanmake_Config r1.1 a1) (
    let r3 : List ((Int × Int)) := armplanref10_Box r2
    .br (dom_armplanref10_Box r2) (
     let r4 : List (List (DIVec)) := kinematics_Points r1 r3
     .br (dom_kinematics_Points r1 r3) (
      let x5 : Bool := !decide (((r4.length : Nat) : Int) = ((r1.2.1.length : Nat) : Int))
      .br (x5) (
       .leaf false) (
       let r6 : Int := armplanmake_Round a2 ((r4.length : Nat) : Int)
       .br (dom_armplanmake_Round a2 ((r4.length : Nat) : Int)) (
        .br (decide (0 ≤ r6) && decide (r6 < ((r1.2.1.length : Nat) : Int))) (
         .br (decide (0 ≤ r6) && decide (r6 < ((r4.length : Nat) : Int))) (
          let x7 : Bool := !decide ((((List.getD r4 r6.toNat (Ty.dflt (.list (TIVec)))).length : Nat) : Int) = ((((((List.getD r1.2.1 r6.toNat (Ty.dflt (TShape)))).2).2).length : Nat) : Int))
          .br (x7) (
           .leaf false) (
           let r8 : Outs os_armplanlaw11_KinematicsRigid_L0 := val_armplanlaw11_KinematicsRigid_L0 ((r4, ()), (r6, ()), ((((List.getD r1.2.1 r6.toNat (Ty.dflt (TShape)))).2).2, ()), (1, ()), ())
           .br (dom_armplanlaw11_KinematicsRigid_L0 ((r4, ()), (r6, ()), ((((List.getD r1.2.1 r6.toNat (Ty.dflt (TShape)))).2).2, ()), (1, ()), ())) (
            let r9 := getL r8
            let r10 := getR r8
            .br (isL r8) (
             let r11 : Bool := armplanlaw11_awake
             .br (dom_armplanlaw11_awake) (
              .leaf r11) .fail) (
             let y12 : Bool := r10.1.1
             .leaf y12)) .fail)) .fail) .fail) .fail)) .fail) .fail) .fail) .fail
def armplanlaw11_KinematicsRigid (a0 : List (Int)) (a1 : List (Int)) (a2 : Int) : Bool := (t_armplanlaw11_KinematicsRigid a0 a1 a2).val
def dom_armplanlaw11_KinematicsRigid (a0 : List (Int)) (a1 : List (Int)) (a2 : Int) : Bool := (t_armplanlaw11_KinematicsRigid a0 a1 a2).dom
theorem run_armplanlaw11_KinematicsRigid : ∀ x, runF (mkC itys ieqs [(7, hd_armplanmake_Scene), (9, hd_armplanlaw11_awake), (13, hd_kinematics_Points), (17, hd_armplanref10_Box), (18, hd_armplanmake_Config), (19, hd_armplanmake_Round)] [] (lpOne 6 0 (loopLH loop_armplanlaw11_KinematicsRigid_L0 0) noLoops)) 200 6 Tryz.f6 (argsA [.list (.int .i64), .list (.int .i64), .int .i64] x) [] (fun v h => toRes h [.bool] v) = (t_armplanlaw11_KinematicsRigid x.1 x.2.1 x.2.2.1).optA (fun r => (r, ())) := by
  intro x; kernel_rfl
theorem fn_armplanlaw11_KinematicsRigid : FnOk Tryz.prog 6 [.list (.int .i64), .list (.int .i64), .int .i64] [.bool] (fun x => bif dom_armplanlaw11_KinematicsRigid x.1 x.2.1 x.2.2.1 then some ((fun r => (r, ())) (armplanlaw11_KinematicsRigid x.1 x.2.1 x.2.2.1)) else none) :=
  fn_part (t := fun (x : Ar [.list (.int .i64), .list (.int .i64), .int .i64]) => t_armplanlaw11_KinematicsRigid x.1 x.2.1 x.2.2.1) (R := Bool) (Ts := [.bool]) (mk := (fun r => (r, ()))) (mkC_ok itys_ok ieqs_ok (fns_cons ok_armplanmake_Scene (fns_cons ok_armplanlaw11_awake (fns_cons ok_kinematics_Points (fns_cons ok_armplanref10_Box (fns_cons ok_armplanmake_Config (fns_cons ok_armplanmake_Round (fns_nil _))))))) (inl_nil _) (lpOne_ok (b := loopBody 0 (Tryz.f6.body.getD .skip)) Tryz.func6 (by kernel_rfl) lok_armplanlaw11_KinematicsRigid_L0 noLoops_ok) mixed) Tryz.func6 run_armplanlaw11_KinematicsRigid
end Go.RX

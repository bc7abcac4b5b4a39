/-
  The contracts of functions.
-/
import Derived.Test.YtkekddbdbfdjeaaG4
import Derived.Test.YtkekddbdbfdjeaaSe
namespace Go.RX
open Go.Proofs

def htys : List (Nat × TRow) := [(3, ⟨.int .i64, 1, 8, [.int .i64 0], .int .i64⟩),
  (26, ⟨.struct [(0, 1), (1, 1)], 2, 16, [.int .i64 0, .int .i64 0], .pair (.int .i64) (.int .i64)⟩),
  (49, ⟨.struct [(0, 18), (18, 6)], 24, 192, [.int .i64 0, .int .i64 0, .int .i64 0, .int .i64 0, .int .i64 0, .int .i64 0, .int .i64 0, .int .i64 0, .int .i64 0, .int .i64 0, .int .i64 0, .int .i64 0, .int .i64 0, .int .i64 0, .int .i64 0, .int .i64 0, .int .i64 0, .int .i64 0, .int .i64 0, .int .i64 0, .int .i64 0, .int .i64 0, .int .i64 0, .int .i64 0], TPose⟩),
  (62, ⟨.struct [(0, 1), (1, 1), (2, 1), (3, 3), (6, 1), (7, 1), (8, 1), (9, 1), (10, 1), (11, 1)], 12, 104, [.string (ByteArray.mk #[]), .int .i64 0, .int .i64 0, .int .i64 0, .int .i64 0, .int .i64 0, .int .i64 0, .int .i64 0, .int .i64 0, .int .i64 0, .int .i64 0, .int .i64 0], TJoint⟩),
  (63, ⟨.slice 62, 1, 24, [.slice none 0 0], .list (TJoint)⟩),
  (66, ⟨.struct [(0, 1), (1, 1)], 2, 48, [.slice none 0 0, .slice none 0 0], TRobot⟩),
  (72, ⟨.slice 26, 1, 24, [.slice none 0 0], .list (.pair (.int .i64) (.int .i64))⟩),
  (84, ⟨.slice 49, 1, 24, [.slice none 0 0], .list (TPose)⟩),
  (116, ⟨.struct [(0, 2), (2, 1), (3, 1)], 4, 96, [.slice none 0 0, .slice none 0 0, .slice none 0 0, .slice none 0 0], TTree⟩)]
def heqs : List (Nat × (Bool × List TK)) := []
theorem htys_ok : tableOk Try.prog htys = true := by kernel_rfl
theorem heqs_ok : eqsOk Try.prog heqs = true := by kernel_rfl

/- armplan/kinematics.isBox$1 -/
def t_kinematics_isBox_1 (a0 : (Int × Int)) : Tr Bool :=
  let r1 : Bool := interval_Valid a0
  .leaf (!r1)
def kinematics_isBox_1 (a0 : (Int × Int)) : Bool := (t_kinematics_isBox_1 a0).val
theorem run_kinematics_isBox_1 : ∀ x, runF (mkC htys heqs [(57, hd_interval_Valid)] [] noLoops) 200 110 Try.f110 (argsA [.pair (.int .i64) (.int .i64)] x) [] (fun v h => toRes h [.bool] v) = (t_kinematics_isBox_1 x.1).optA (fun r => (r, ())) := by
  intro x; kernel_rfl
theorem fn_kinematics_isBox_1 : FnOk Try.prog 110 [.pair (.int .i64) (.int .i64)] [.bool] (fun x => some ((fun r => (r, ())) (kinematics_isBox_1 x.1))) :=
  fn_tot (t := fun (x : Ar [.pair (.int .i64) (.int .i64)]) => t_kinematics_isBox_1 x.1) (R := Bool) (Ts := [.bool]) (mk := (fun r => (r, ()))) (mkC_ok htys_ok heqs_ok (fns_cons ok_interval_Valid (fns_nil _)) (inl_nil _) noLoops_ok mixed) Try.func110 run_kinematics_isBox_1 (fun _ => by kernel_rfl)
def hd_kinematics_isBox_1 : Hd := dataHd [.pair (.int .i64) (.int .i64)] [.bool] (fun x => some ((fun r => (r, ())) (kinematics_isBox_1 x.1)))
theorem ok_kinematics_isBox_1 : HdOk Try.prog 110 hd_kinematics_isBox_1.sem ∧ Enters Try.prog 110 := data_ok fn_kinematics_isBox_1 Try.func110 (by kernel_rfl) (by kernel_rfl)

/- loop 0 of slices.IndexFunc[[]armplan/api.Interval,armplan/api.Interval] -/
abbrev ss_kinematics_isBox_slices_IndexFunc___api_Interval_api_Interval__L0 : List Slot := [⟨[0], false, false, [.d (.list (.pair (.int .i64) (.int .i64)))]⟩, ⟨[7], false, false, [.d (.int .i64)]⟩, ⟨[8], false, false, [.d (.int .i64)]⟩]
abbrev os_kinematics_isBox_slices_IndexFunc___api_Interval_api_Interval__L0 : List (Exit × List Slot) := [(.exit 0, []), (.ret, [⟨[4], false, false, [.d (.int .i64)]⟩])]
def t_kinematics_isBox_slices_IndexFunc___api_Interval_api_Interval__L0 (a0 : List ((Int × Int))) (a1 : Int) (a2 : Int) : Tr (Sl ss_kinematics_isBox_slices_IndexFunc___api_Interval_api_Interval__L0 ⊕ Outs os_kinematics_isBox_slices_IndexFunc___api_Interval_api_Interval__L0) :=
  let x1 : Bool := decide (a2 < a1)
  .br (x1) (
   .br (decide (0 ≤ a2) && decide (a2 < ((a0.length : Nat) : Int))) (
    let r2 : Bool := kinematics_isBox_1 (List.getD a0 a2.toNat (Ty.dflt (.pair (.int .i64) (.int .i64))))
    .br (r2) (
     .leaf (.inr (.inr ((a2, ()), ())))) (
     let x3 : Int := IntKind.wrap .i64 (a2 + 1)
     .leaf (.inl ((a0, ()), (a1, ()), (x3, ()), ())))) .fail) (
   .leaf (.inr (.inl ())))
def step_kinematics_isBox_slices_IndexFunc___api_Interval_api_Interval__L0 : Sl ss_kinematics_isBox_slices_IndexFunc___api_Interval_api_Interval__L0 → Option (Sl ss_kinematics_isBox_slices_IndexFunc___api_Interval_api_Interval__L0 ⊕ Outs os_kinematics_isBox_slices_IndexFunc___api_Interval_api_Interval__L0) := fun x => (t_kinematics_isBox_slices_IndexFunc___api_Interval_api_Interval__L0 x.1.1 x.2.1.1 x.2.2.1.1).optA id
theorem run_kinematics_isBox_slices_IndexFunc___api_Interval_api_Interval__L0 : ∀ (x : Sl ss_kinematics_isBox_slices_IndexFunc___api_Interval_api_Interval__L0) (vs : Nat → Value), run (mkC htys heqs [(110, hd_kinematics_isBox_1)] [] noLoops) 200 126 (loopBody 0 (Try.f126.body.getD .skip)) (mkSt ss_kinematics_isBox_slices_IndexFunc___api_Interval_api_Interval__L0 x (baseT 19 [1] [(1, ⟨110, [], []⟩)] vs)) (endK ss_kinematics_isBox_slices_IndexFunc___api_Interval_api_Interval__L0 os_kinematics_isBox_slices_IndexFunc___api_Interval_api_Interval__L0 19 [1]) = (t_kinematics_isBox_slices_IndexFunc___api_Interval_api_Interval__L0 x.1.1 x.2.1.1 x.2.2.1.1).optA fun r => (r, [1].map (keptA [(1, ⟨110, [], []⟩)] vs)) := by
  intro x vs; kernel_rfl
instance inh_kinematics_isBox_slices_IndexFunc___api_Interval_api_Interval__L0 : Inhabited (Outs os_kinematics_isBox_slices_IndexFunc___api_Interval_api_Interval__L0) := ⟨outsDflt os_kinematics_isBox_slices_IndexFunc___api_Interval_api_Interval__L0⟩
def dom_kinematics_isBox_slices_IndexFunc___api_Interval_api_Interval__L0 (x : Sl ss_kinematics_isBox_slices_IndexFunc___api_Interval_api_Interval__L0) : Bool := (loopN step_kinematics_isBox_slices_IndexFunc___api_Interval_api_Interval__L0 rounds x).isSome
def val_kinematics_isBox_slices_IndexFunc___api_Interval_api_Interval__L0 (x : Sl ss_kinematics_isBox_slices_IndexFunc___api_Interval_api_Interval__L0) : Outs os_kinematics_isBox_slices_IndexFunc___api_Interval_api_Interval__L0 := (loopN step_kinematics_isBox_slices_IndexFunc___api_Interval_api_Interval__L0 rounds x).getD default
def loop_kinematics_isBox_slices_IndexFunc___api_Interval_api_Interval__L0 : LoopD := mkLoop ss_kinematics_isBox_slices_IndexFunc___api_Interval_api_Interval__L0 os_kinematics_isBox_slices_IndexFunc___api_Interval_api_Interval__L0 19 [1] [(1, ⟨110, [], []⟩)] step_kinematics_isBox_slices_IndexFunc___api_Interval_api_Interval__L0 dom_kinematics_isBox_slices_IndexFunc___api_Interval_api_Interval__L0 val_kinematics_isBox_slices_IndexFunc___api_Interval_api_Interval__L0 (loop_hv step_kinematics_isBox_slices_IndexFunc___api_Interval_api_Interval__L0)
theorem lok_kinematics_isBox_slices_IndexFunc___api_Interval_api_Interval__L0 : LoopOk Try.prog (loopLH loop_kinematics_isBox_slices_IndexFunc___api_Interval_api_Interval__L0 0) 0 (.loop (loopBody 0 (Try.f126.body.getD .skip))) := loop_in (D := loop_kinematics_isBox_slices_IndexFunc___api_Interval_api_Interval__L0) (n := 200) (cur := 126) (mkC_ok htys_ok heqs_ok (fns_cons ok_kinematics_isBox_1 (fns_nil _)) (inl_nil _) noLoops_ok mixed) Try.func126 (by kernel_rfl) (turns_of run_kinematics_isBox_slices_IndexFunc___api_Interval_api_Interval__L0) (by kernel_rfl) (by kernel_rfl) (by kernel_rfl)

/- armplan/kinematics.isBox -/
def t_kinematics_isBox (a0 : DRobot) (a1 : List ((Int × Int))) : Tr Bool :=
  let x1 : Bool := decide (((a1.length : Nat) : Int) = ((a0.1.length : Nat) : Int))
  .br (x1) (
   let r2 : Outs os_kinematics_isBox_slices_IndexFunc___api_Interval_api_Interval__L0 := val_kinematics_isBox_slices_IndexFunc___api_Interval_api_Interval__L0 ((a1, ()), (((a1.length : Nat) : Int), ()), (0, ()), ())
   .br (dom_kinematics_isBox_slices_IndexFunc___api_Interval_api_Interval__L0 ((a1, ()), (((a1.length : Nat) : Int), ()), (0, ()), ())) (
    let r3 := getL r2
    let r4 := getR r2
    .br (isL r2) (
     .leaf true) (
     let y5 : Int := r4.1.1
     let x6 : Bool := decide (0 ≤ y5)
     .leaf (!x6))) .fail) (
   .leaf false)
def kinematics_isBox (a0 : DRobot) (a1 : List ((Int × Int))) : Bool := (t_kinematics_isBox a0 a1).val
def dom_kinematics_isBox (a0 : DRobot) (a1 : List ((Int × Int))) : Bool := (t_kinematics_isBox a0 a1).dom
theorem run_kinematics_isBox : ∀ x, runF (mkC htys heqs [] [(109, Try.f109), (126, Try.f126)] (lpOne 126 0 (loopLH loop_kinematics_isBox_slices_IndexFunc___api_Interval_api_Interval__L0 0) noLoops)) 200 82 Try.f82 (argsA [TRobot, .list (.pair (.int .i64) (.int .i64))] x) [] (fun v h => toRes h [.bool] v) = (t_kinematics_isBox x.1 x.2.1).optA (fun r => (r, ())) := by
  intro x; kernel_rfl
theorem fn_kinematics_isBox : FnOk Try.prog 82 [TRobot, .list (.pair (.int .i64) (.int .i64))] [.bool] (fun x => bif dom_kinematics_isBox x.1 x.2.1 then some ((fun r => (r, ())) (kinematics_isBox x.1 x.2.1)) else none) :=
  fn_part (t := fun (x : Ar [TRobot, .list (.pair (.int .i64) (.int .i64))]) => t_kinematics_isBox x.1 x.2.1) (R := Bool) (Ts := [.bool]) (mk := (fun r => (r, ()))) (mkC_ok htys_ok heqs_ok (fns_nil _) (inl_cons Try.func109 (by kernel_rfl) (inl_cons Try.func126 (by kernel_rfl) (inl_nil _))) (lpOne_ok (b := loopBody 0 (Try.f126.body.getD .skip)) Try.func126 (by kernel_rfl) lok_kinematics_isBox_slices_IndexFunc___api_Interval_api_Interval__L0 noLoops_ok) mixed) Try.func82 run_kinematics_isBox
def hd_kinematics_isBox : Hd := guardHd [TRobot, .list (.pair (.int .i64) (.int .i64))] [.bool] (fun x => dom_kinematics_isBox x.1 x.2.1) (fun x => (fun r => (r, ())) (kinematics_isBox x.1 x.2.1))
theorem ok_kinematics_isBox : HdOk Try.prog 82 hd_kinematics_isBox.sem ∧ Enters Try.prog 82 := guard_ok fn_kinematics_isBox Try.func82 (by kernel_rfl) (by kernel_rfl)

/- (*armplan/kinematics.tree).add -/
def t_kinematics_tree_add (a0 : DRobot) (a1 : List ((Int × Int))) (a2 : List (DPose)) : Tr (DRobot × List ((Int × Int)) × List (DPose)) :=
  .br (decide (0 ≤ ((a2.length : Nat) : Int)) && decide (((a2.length : Nat) : Int) < ((a0.1.length : Nat) : Int))) (
   .br (decide (0 ≤ ((a2.length : Nat) : Int)) && decide (((a2.length : Nat) : Int) < ((a1.length : Nat) : Int))) (
    let r1 : DPose := kinematics_Joint (List.getD a0.1 (((a2.length : Nat) : Int)).toNat (Ty.dflt (TJoint))) (List.getD a1 (((a2.length : Nat) : Int)).toNat (Ty.dflt (.pair (.int .i64) (.int .i64))))
    .br (dom_kinematics_Joint (List.getD a0.1 (((a2.length : Nat) : Int)).toNat (Ty.dflt (TJoint))) (List.getD a1 (((a2.length : Nat) : Int)).toNat (Ty.dflt (.pair (.int .i64) (.int .i64))))) (
     let x2 : Bool := !decide (((((List.getD a0.1 (((a2.length : Nat) : Int)).toNat (Ty.dflt (TJoint)))).2).2).1 = (-1))
     .br (x2) (
      .br (decide (0 ≤ ((((List.getD a0.1 (((a2.length : Nat) : Int)).toNat (Ty.dflt (TJoint)))).2).2).1) && decide (((((List.getD a0.1 (((a2.length : Nat) : Int)).toNat (Ty.dflt (TJoint)))).2).2).1 < ((a2.length : Nat) : Int))) (
       let r3 : DPose := pose_Compose (List.getD a2 (((((List.getD a0.1 (((a2.length : Nat) : Int)).toNat (Ty.dflt (TJoint)))).2).2).1).toNat (Ty.dflt (TPose))) r1
       .br (room (a2.length + [r3].length)) (
        .leaf (a0, a1, (a2 ++ [r3]))) .fail) .fail) (
      .br (room (a2.length + [r1].length)) (
       .leaf (a0, a1, (a2 ++ [r1]))) .fail)) .fail) .fail) .fail
def kinematics_tree_add (a0 : DRobot) (a1 : List ((Int × Int))) (a2 : List (DPose)) : (DRobot × List ((Int × Int)) × List (DPose)) := (t_kinematics_tree_add a0 a1 a2).val
def dom_kinematics_tree_add (a0 : DRobot) (a1 : List ((Int × Int))) (a2 : List (DPose)) : Bool := (t_kinematics_tree_add a0 a1 a2).dom
theorem run_kinematics_tree_add : ∀ x, runF (mkC htys heqs [(31, hd_pose_Compose), (45, hd_kinematics_Joint)] [] noLoops) 200 83 Try.f83 (mkT id [⟨[0], true, false, [.d (TRobot), .d (.list (.pair (.int .i64) (.int .i64))), .v 49 (TPose)]⟩] x 0 (List.replicate 1 .top)) (mkH id [⟨[0], true, false, [.d (TRobot), .d (.list (.pair (.int .i64) (.int .i64))), .v 49 (TPose)]⟩] x 0) (endS [] [⟨[], true, false, [.d (TRobot), .d (.list (.pair (.int .i64) (.int .i64))), .v 49 (TPose)]⟩]) = (t_kinematics_tree_add x.1.1 x.1.2.1 x.1.2.2.1).optA (fun (r : (DRobot × List ((Int × Int)) × List (DPose))) => ((), ((r.1, r.2.1, r.2.2, ()), ()))) := by
  intro x; kernel_rfl
def hd_kinematics_tree_add : Hd := hdS 1 [⟨[0], true, false, [.d (TRobot), .d (.list (.pair (.int .i64) (.int .i64))), .v 49 (TPose)]⟩] [⟨[], true, false, [.d (TRobot), .d (.list (.pair (.int .i64) (.int .i64))), .v 49 (TPose)]⟩] [] (fun x => dom_kinematics_tree_add x.1.1 x.1.2.1 x.1.2.2.1) (fun x => (fun (r : (DRobot × List ((Int × Int)) × List (DPose))) => ((), ((r.1, r.2.1, r.2.2, ()), ()))) (kinematics_tree_add x.1.1 x.1.2.1 x.1.2.2.1)) (by kernel_rfl)
theorem fn_kinematics_tree_add : FnS Try.prog 83 1 [⟨[0], true, false, [.d (TRobot), .d (.list (.pair (.int .i64) (.int .i64))), .v 49 (TPose)]⟩] [⟨[], true, false, [.d (TRobot), .d (.list (.pair (.int .i64) (.int .i64))), .v 49 (TPose)]⟩] [] (fun x => bif (fun x => dom_kinematics_tree_add x.1.1 x.1.2.1 x.1.2.2.1) x then some ((fun x => (fun (r : (DRobot × List ((Int × Int)) × List (DPose))) => ((), ((r.1, r.2.1, r.2.2, ()), ()))) (kinematics_tree_add x.1.1 x.1.2.1 x.1.2.2.1)) x) else none) :=
  fnS_tree (np := 1) (ss := [⟨[0], true, false, [.d (TRobot), .d (.list (.pair (.int .i64) (.int .i64))), .v 49 (TPose)]⟩]) (ss1 := [⟨[], true, false, [.d (TRobot), .d (.list (.pair (.int .i64) (.int .i64))), .v 49 (TPose)]⟩]) (Ts := []) (R := (DRobot × List ((Int × Int)) × List (DPose))) (dom := fun x => dom_kinematics_tree_add x.1.1 x.1.2.1 x.1.2.2.1) (t := fun (x : Sl [⟨[0], true, false, [.d (TRobot), .d (.list (.pair (.int .i64) (.int .i64))), .v 49 (TPose)]⟩]) => t_kinematics_tree_add x.1.1 x.1.2.1 x.1.2.2.1) (mk := (fun (r : (DRobot × List ((Int × Int)) × List (DPose))) => ((), ((r.1, r.2.1, r.2.2, ()), ())))) (mkC_ok htys_ok heqs_ok (fns_cons ok_pose_Compose (fns_cons ok_kinematics_Joint (fns_nil _))) (inl_nil _) noLoops_ok mixed) Try.func83 (by kernel_rfl) run_kinematics_tree_add (fun _ => .inr rfl)
theorem ok_kinematics_tree_add : HdOk Try.prog 83 hd_kinematics_tree_add.sem ∧ Enters Try.prog 83 := ⟨hdS_ok (by kernel_rfl) fn_kinematics_tree_add, _, Try.func83, by kernel_rfl, by kernel_rfl⟩

/- loop 0 of armplan/kinematics.Links -/
abbrev ss_kinematics_Links_L0 : List Slot := [⟨[5], true, false, [.d (TRobot), .d (.list (.pair (.int .i64) (.int .i64))), .v 49 (TPose)]⟩, ⟨[22], false, false, [.d (.int .i64)]⟩, ⟨[23], false, false, [.d (.int .i64)]⟩]
abbrev os_kinematics_Links_L0 : List (Exit × List Slot) := [(.exit 0, [⟨[5], true, false, [.d (TRobot), .d (.list (.pair (.int .i64) (.int .i64))), .v 49 (TPose)]⟩])]
def t_kinematics_Links_L0 (a0 : DRobot) (a1 : List ((Int × Int))) (a2 : List (DPose)) (a3 : Int) (a4 : Int) : Tr (Sl ss_kinematics_Links_L0 ⊕ Outs os_kinematics_Links_L0) :=
  let x1 : Bool := decide (a4 < a3)
  .br (x1) (
   let r2 : (DRobot × List ((Int × Int)) × List (DPose)) := kinematics_tree_add a0 a1 a2
   .br (dom_kinematics_tree_add a0 a1 a2) (
    let x3 : Int := IntKind.wrap .i64 (a4 + 1)
    .leaf (.inl ((r2.1, r2.2.1, r2.2.2, ()), (a3, ()), (x3, ()), ()))) .fail) (
   .leaf (.inr ((a0, a1, a2, ()), ())))
def step_kinematics_Links_L0 : Sl ss_kinematics_Links_L0 → Option (Sl ss_kinematics_Links_L0 ⊕ Outs os_kinematics_Links_L0) := fun x => (t_kinematics_Links_L0 x.1.1 x.1.2.1 x.1.2.2.1 x.2.1.1 x.2.2.1.1).optA id
theorem run_kinematics_Links_L0 : ∀ (x : Sl ss_kinematics_Links_L0) (vs : Nat → Value), run (mkC htys heqs [(83, hd_kinematics_tree_add)] [] noLoops) 200 53 (loopBody 0 (Try.f53.body.getD .skip)) (mkSt ss_kinematics_Links_L0 x (baseT 30 [6] [(6, ⟨83, [0], []⟩)] vs)) (endK ss_kinematics_Links_L0 os_kinematics_Links_L0 30 [6]) = (t_kinematics_Links_L0 x.1.1 x.1.2.1 x.1.2.2.1 x.2.1.1 x.2.2.1.1).optA fun r => (r, [6].map (keptA [(6, ⟨83, [0], []⟩)] vs)) := by
  intro x vs; kernel_rfl
instance inh_kinematics_Links_L0 : Inhabited (Outs os_kinematics_Links_L0) := ⟨outsDflt os_kinematics_Links_L0⟩
def dom_kinematics_Links_L0 (x : Sl ss_kinematics_Links_L0) : Bool := (loopN step_kinematics_Links_L0 rounds x).isSome
def val_kinematics_Links_L0 (x : Sl ss_kinematics_Links_L0) : Outs os_kinematics_Links_L0 := (loopN step_kinematics_Links_L0 rounds x).getD default
def loop_kinematics_Links_L0 : LoopD := mkLoop ss_kinematics_Links_L0 os_kinematics_Links_L0 30 [6] [(6, ⟨83, [0], []⟩)] step_kinematics_Links_L0 dom_kinematics_Links_L0 val_kinematics_Links_L0 (loop_hv step_kinematics_Links_L0)
theorem lok_kinematics_Links_L0 : LoopOk Try.prog (loopLH loop_kinematics_Links_L0 0) 0 (.loop (loopBody 0 (Try.f53.body.getD .skip))) := loop_in (D := loop_kinematics_Links_L0) (n := 200) (cur := 53) (mkC_ok htys_ok heqs_ok (fns_cons ok_kinematics_tree_add (fns_nil _)) (inl_nil _) noLoops_ok mixed) Try.func53 (by kernel_rfl) (turns_of run_kinematics_Links_L0) (by kernel_rfl) (by kernel_rfl) (by kernel_rfl)

/- armplan/kinematics.Links -/
def t_kinematics_Links (a0 : DRobot) (a1 : List ((Int × Int))) : Tr (List (DPose)) :=
  let r1 : Int := robot_Check a0
  .br (dom_robot_Check a0) (
   let x2 : Bool := !decide (r1 = 0)
   .br (x2) (
    .leaf []) (
    let r3 : Bool := kinematics_isBox a0 a1
    .br (dom_kinematics_isBox a0 a1) (
     .br ((!r3)) (
      .leaf []) (
      let r4 : Outs os_kinematics_Links_L0 := val_kinematics_Links_L0 ((a0, a1, [], ()), (((a0.1.length : Nat) : Int), ()), (0, ()), ())
      .br (dom_kinematics_Links_L0 ((a0, a1, [], ()), (((a0.1.length : Nat) : Int), ()), (0, ()), ())) (
       let y5 : DRobot := r4.1.1
       let y6 : List ((Int × Int)) := r4.1.2.1
       let y7 : List (DPose) := r4.1.2.2.1
       .leaf y7) .fail)) .fail)) .fail
def kinematics_Links (a0 : DRobot) (a1 : List ((Int × Int))) : List (DPose) := (t_kinematics_Links a0 a1).val
def dom_kinematics_Links (a0 : DRobot) (a1 : List ((Int × Int))) : Bool := (t_kinematics_Links a0 a1).dom
theorem run_kinematics_Links : ∀ x, runF (mkC htys heqs [(81, hd_robot_Check), (82, hd_kinematics_isBox)] [] (lpOne 53 0 (loopLH loop_kinematics_Links_L0 0) noLoops)) 200 53 Try.f53 (argsA [TRobot, .list (.pair (.int .i64) (.int .i64))] x) [] (fun v h => toRes h [.list (TPose)] v) = (t_kinematics_Links x.1 x.2.1).optA (fun r => (r, ())) := by
  intro x; kernel_rfl
theorem fn_kinematics_Links : FnOk Try.prog 53 [TRobot, .list (.pair (.int .i64) (.int .i64))] [.list (TPose)] (fun x => bif dom_kinematics_Links x.1 x.2.1 then some ((fun r => (r, ())) (kinematics_Links x.1 x.2.1)) else none) :=
  fn_part (t := fun (x : Ar [TRobot, .list (.pair (.int .i64) (.int .i64))]) => t_kinematics_Links x.1 x.2.1) (R := List (DPose)) (Ts := [.list (TPose)]) (mk := (fun r => (r, ()))) (mkC_ok htys_ok heqs_ok (fns_cons ok_robot_Check (fns_cons ok_kinematics_isBox (fns_nil _))) (inl_nil _) (lpOne_ok (b := loopBody 0 (Try.f53.body.getD .skip)) Try.func53 (by kernel_rfl) lok_kinematics_Links_L0 noLoops_ok) mixed) Try.func53 run_kinematics_Links
def hd_kinematics_Links : Hd := guardHd [TRobot, .list (.pair (.int .i64) (.int .i64))] [.list (TPose)] (fun x => dom_kinematics_Links x.1 x.2.1) (fun x => (fun r => (r, ())) (kinematics_Links x.1 x.2.1))
theorem ok_kinematics_Links : HdOk Try.prog 53 hd_kinematics_Links.sem ∧ Enters Try.prog 53 := guard_ok fn_kinematics_Links Try.func53 (by kernel_rfl) (by kernel_rfl)

end Go.RX

/-
  The contracts of functions.
-/
namespace Go.RX
open Go.Proofs

def itys : List (Nat × TRow) := [(2, ⟨.int .i64, 1, 8, [.int .i64 0], .int .i64⟩),
  (3, ⟨.int .i64, 1, 8, [.int .i64 0], .int .i64⟩),
  (26, ⟨.struct [(0, 1), (1, 1)], 2, 16, [.int .i64 0, .int .i64 0], .pair (.int .i64) (.int .i64)⟩),
  (27, ⟨.arr 3 26, 6, 48, [.int .i64 0, .int .i64 0, .int .i64 0, .int .i64 0, .int .i64 0, .int .i64 0], TIVec⟩),
  (28, ⟨.arr 3 26, 6, 48, [.int .i64 0, .int .i64 0, .int .i64 0, .int .i64 0, .int .i64 0, .int .i64 0], TIVec⟩),
  (35, ⟨.arr 3 27, 18, 144, [.int .i64 0, .int .i64 0, .int .i64 0, .int .i64 0, .int .i64 0, .int .i64 0, .int .i64 0, .int .i64 0, .int .i64 0, .int .i64 0, .int .i64 0, .int .i64 0, .int .i64 0, .int .i64 0, .int .i64 0, .int .i64 0, .int .i64 0, .int .i64 0], TIMat⟩),
  (49, ⟨.struct [(0, 18), (18, 6)], 24, 192, [.int .i64 0, .int .i64 0, .int .i64 0, .int .i64 0, .int .i64 0, .int .i64 0, .int .i64 0, .int .i64 0, .int .i64 0, .int .i64 0, .int .i64 0, .int .i64 0, .int .i64 0, .int .i64 0, .int .i64 0, .int .i64 0, .int .i64 0, .int .i64 0, .int .i64 0, .int .i64 0, .int .i64 0, .int .i64 0, .int .i64 0, .int .i64 0], TPose⟩),
  (62, ⟨.struct [(0, 1), (1, 1), (2, 1), (3, 3), (6, 1), (7, 1), (8, 1), (9, 1), (10, 1), (11, 1)], 12, 104, [.string (ByteArray.mk #[]), .int .i64 0, .int .i64 0, .int .i64 0, .int .i64 0, .int .i64 0, .int .i64 0, .int .i64 0, .int .i64 0, .int .i64 0, .int .i64 0, .int .i64 0], TJoint⟩),
  (63, ⟨.slice 62, 1, 24, [.slice none 0 0], .list (TJoint)⟩),
  (66, ⟨.struct [(0, 1), (1, 1)], 2, 48, [.slice none 0 0, .slice none 0 0], TRobot⟩),
  (70, ⟨.struct [(0, 2), (2, 1), (3, 1)], 4, 96, [.slice none 0 0, .slice none 0 0, .slice none 0 0, .slice none 0 0], TScene⟩),
  (72, ⟨.slice 26, 1, 24, [.slice none 0 0], .list (.pair (.int .i64) (.int .i64))⟩),
  (84, ⟨.slice 49, 1, 24, [.slice none 0 0], .list (TPose)⟩),
  (87, ⟨.slice 2, 1, 24, [.slice none 0 0], .list (.int .i64)⟩),
  (91, ⟨.struct [(0, 1), (1, 1)], 2, 32, [.slice none 0 0, .int .i64 0], TSource⟩)]
def ieqs : List (Nat × (Bool × List TK)) := [(49, (true, [.int .i64, .int .i64, .int .i64, .int .i64, .int .i64, .int .i64, .int .i64, .int .i64, .int .i64, .int .i64, .int .i64, .int .i64, .int .i64, .int .i64, .int .i64, .int .i64, .int .i64, .int .i64, .int .i64, .int .i64, .int .i64, .int .i64, .int .i64, .int .i64]))]
theorem itys_ok : tableOk Try.prog itys = true := by kernel_rfl
theorem ieqs_ok : eqsOk Try.prog ieqs = true := by kernel_rfl

/- loop 2 of armplan/armplanlaw11.KinematicsLocal -/
abbrev ss_armplanlaw11_KinematicsLocal_L2 : List Slot := [⟨[11], true, false, [.d (TScene)]⟩, ⟨[14], false, false, [.d (.int .i64)]⟩, ⟨[18], false, false, [.d (.bool)]⟩, ⟨[19], false, false, [.d (.int .i64)]⟩]
abbrev os_armplanlaw11_KinematicsLocal_L2 : List (Exit × List Slot) := [(.exit 2, [⟨[11], true, false, [.d (TScene)]⟩, ⟨[14], false, false, [.d (.int .i64)]⟩, ⟨[18], false, false, [.d (.bool)]⟩])]
def t_armplanlaw11_KinematicsLocal_L2 (a0 : DScene) (a1 : Int) (a2 : Bool) (a3 : Int) : Tr (Sl ss_armplanlaw11_KinematicsLocal_L2 ⊕ Outs os_armplanlaw11_KinematicsLocal_L2) :=
  let x1 : Bool := !decide (a3 = (-1))
  .br (x1) (
   .br (a2) (
    .br (decide (0 ≤ a3) && decide (a3 < ((a0.1.1.length : Nat) : Int))) (
     .leaf (.inl ((a0, ()), (a1, ()), (true, ()), (((((List.getD a0.1.1 a3.toNat (Ty.dflt (TJoint)))).2).2).1, ()), ()))) .fail) (
    let x2 : Bool := decide (a3 = a1)
    .br (decide (0 ≤ a3) && decide (a3 < ((a0.1.1.length : Nat) : Int))) (
     .leaf (.inl ((a0, ()), (a1, ()), (x2, ()), (((((List.getD a0.1.1 a3.toNat (Ty.dflt (TJoint)))).2).2).1, ()), ()))) .fail)) (
   .leaf (.inr ((a0, ()), (a1, ()), (a2, ()), ())))
def step_armplanlaw11_KinematicsLocal_L2 : Sl ss_armplanlaw11_KinematicsLocal_L2 → Option (Sl ss_armplanlaw11_KinematicsLocal_L2 ⊕ Outs os_armplanlaw11_KinematicsLocal_L2) := fun x => (t_armplanlaw11_KinematicsLocal_L2 x.1.1 x.2.1.1 x.2.2.1.1 x.2.2.2.1.1).optA id
theorem run_armplanlaw11_KinematicsLocal_L2 : ∀ (x : Sl ss_armplanlaw11_KinematicsLocal_L2) (vs : Nat → Value), run (mkC itys ieqs [] [] noLoops) 200 13 (loopBody 2 (Try.f13.body.getD .skip)) (mkSt ss_armplanlaw11_KinematicsLocal_L2 x (baseT 94 [15, 16, 17] [] vs)) (endK ss_armplanlaw11_KinematicsLocal_L2 os_armplanlaw11_KinematicsLocal_L2 94 [15, 16, 17]) = (t_armplanlaw11_KinematicsLocal_L2 x.1.1 x.2.1.1 x.2.2.1.1 x.2.2.2.1.1).optA fun r => (r, [15, 16, 17].map (keptA [] vs)) := by
  intro x vs; kernel_rfl
instance inh_armplanlaw11_KinematicsLocal_L2 : Inhabited (Outs os_armplanlaw11_KinematicsLocal_L2) := ⟨outsDflt os_armplanlaw11_KinematicsLocal_L2⟩
def dom_armplanlaw11_KinematicsLocal_L2 (x : Sl ss_armplanlaw11_KinematicsLocal_L2) : Bool := (loopN step_armplanlaw11_KinematicsLocal_L2 rounds x).isSome
def val_armplanlaw11_KinematicsLocal_L2 (x : Sl ss_armplanlaw11_KinematicsLocal_L2) : Outs os_armplanlaw11_KinematicsLocal_L2 := (loopN step_armplanlaw11_KinematicsLocal_L2 rounds x).getD default
def loop_armplanlaw11_KinematicsLocal_L2 : LoopD := mkLoop ss_armplanlaw11_KinematicsLocal_L2 os_armplanlaw11_KinematicsLocal_L2 94 [15, 16, 17] [] step_armplanlaw11_KinematicsLocal_L2 dom_armplanlaw11_KinematicsLocal_L2 val_armplanlaw11_KinematicsLocal_L2 (loop_hv step_armplanlaw11_KinematicsLocal_L2)
theorem lok_armplanlaw11_KinematicsLocal_L2 : LoopOk Try.prog (loopLH loop_armplanlaw11_KinematicsLocal_L2 2) 2 (.loop (loopBody 2 (Try.f13.body.getD .skip))) := loop_in (D := loop_armplanlaw11_KinematicsLocal_L2) (n := 200) (cur := 13) (mkC_ok itys_ok ieqs_ok (fns_nil _) (inl_nil _) noLoops_ok mixed) Try.func13 (by kernel_rfl) (turns_of run_armplanlaw11_KinematicsLocal_L2) (by kernel_rfl) (by kernel_rfl) (by kernel_rfl)

/- loop 0 of armplan/armplanlaw11.KinematicsLocal -/
abbrev ss_armplanlaw11_KinematicsLocal_L0 : List Slot := [⟨[11], true, false, [.d (TScene)]⟩, ⟨[14], false, false, [.d (.int .i64)]⟩, ⟨[15], false, false, [.d (.list (TPose))]⟩, ⟨[16], false, false, [.d (.list (TPose))]⟩, ⟨[17], false, false, [.d (.int .i64)]⟩]
abbrev os_armplanlaw11_KinematicsLocal_L0 : List (Exit × List Slot) := [(.exit 0, [⟨[11], true, false, [.d (TScene)]⟩]), (.ret, [⟨[11], true, false, [.d (TScene)]⟩, ⟨[10], false, false, [.d (.bool)]⟩])]
def t_armplanlaw11_KinematicsLocal_L0 (a0 : DScene) (a1 : Int) (a2 : List (DPose)) (a3 : List (DPose)) (a4 : Int) : Tr (Sl ss_armplanlaw11_KinematicsLocal_L0 ⊕ Outs os_armplanlaw11_KinematicsLocal_L0) :=
  let x1 : Bool := decide (a4 < ((a2.length : Nat) : Int))
  .br (x1) (
   let r2 : Outs os_armplanlaw11_KinematicsLocal_L2 := val_armplanlaw11_KinematicsLocal_L2 ((a0, ()), (a1, ()), (false, ()), (a4, ()), ())
   .br (dom_armplanlaw11_KinematicsLocal_L2 ((a0, ()), (a1, ()), (false, ()), (a4, ()), ())) (
    let y3 : DScene := r2.1.1
    let y4 : Int := r2.2.1.1
    let y5 : Bool := r2.2.2.1.1
    .br ((!y5)) (
     .br (decide (0 ≤ a4) && decide (a4 < ((a2.length : Nat) : Int))) (
      .br (decide (0 ≤ a4) && decide (a4 < ((a3.length : Nat) : Int))) (
       let x6 : Bool := !(decide ((((((List.getD a2 a4.toNat (Ty.dflt (TPose)))).1).1).1).1 = (((((List.getD a3 a4.toNat (Ty.dflt (TPose)))).1).1).1).1) && (decide ((((((List.getD a2 a4.toNat (Ty.dflt (TPose)))).1).1).1).2 = (((((List.getD a3 a4.toNat (Ty.dflt (TPose)))).1).1).1).2) && (decide (((((((List.getD a2 a4.toNat (Ty.dflt (TPose)))).1).1).2).1).1 = ((((((List.getD a3 a4.toNat (Ty.dflt (TPose)))).1).1).2).1).1) && (decide (((((((List.getD a2 a4.toNat (Ty.dflt (TPose)))).1).1).2).1).2 = ((((((List.getD a3 a4.toNat (Ty.dflt (TPose)))).1).1).2).1).2) && (decide (((((((List.getD a2 a4.toNat (Ty.dflt (TPose)))).1).1).2).2).1 = ((((((List.getD a3 a4.toNat (Ty.dflt (TPose)))).1).1).2).2).1) && (decide (((((((List.getD a2 a4.toNat (Ty.dflt (TPose)))).1).1).2).2).2 = ((((((List.getD a3 a4.toNat (Ty.dflt (TPose)))).1).1).2).2).2) && (decide (((((((List.getD a2 a4.toNat (Ty.dflt (TPose)))).1).2).1).1).1 = ((((((List.getD a3 a4.toNat (Ty.dflt (TPose)))).1).2).1).1).1) && (decide (((((((List.getD a2 a4.toNat (Ty.dflt (TPose)))).1).2).1).1).2 = ((((((List.getD a3 a4.toNat (Ty.dflt (TPose)))).1).2).1).1).2) && (decide ((((((((List.getD a2 a4.toNat (Ty.dflt (TPose)))).1).2).1).2).1).1 = (((((((List.getD a3 a4.toNat (Ty.dflt (TPose)))).1).2).1).2).1).1) && (decide ((((((((List.getD a2 a4.toNat (Ty.dflt (TPose)))).1).2).1).2).1).2 = (((((((List.getD a3 a4.toNat (Ty.dflt (TPose)))).1).2).1).2).1).2) && (decide ((((((((List.getD a2 a4.toNat (Ty.dflt (TPose)))).1).2).1).2).2).1 = (((((((List.getD a3 a4.toNat (Ty.dflt (TPose)))).1).2).1).2).2).1) && (decide ((((((((List.getD a2 a4.toNat (Ty.dflt (TPose)))).1).2).1).2).2).2 = (((((((List.getD a3 a4.toNat (Ty.dflt (TPose)))).1).2).1).2).2).2) && (decide (((((((List.getD a2 a4.toNat (Ty.dflt (TPose)))).1).2).2).1).1 = ((((((List.getD a3 a4.toNat (Ty.dflt (TPose)))).1).2).2).1).1) && (decide (((((((List.getD a2 a4.toNat (Ty.dflt (TPose)))).1).2).2).1).2 = ((((((List.getD a3 a4.toNat (Ty.dflt (TPose)))).1).2).2).1).2) && (decide ((((((((List.getD a2 a4.toNat (Ty.dflt (TPose)))).1).2).2).2).1).1 = (((((((List.getD a3 a4.toNat (Ty.dflt (TPose)))).1).2).2).2).1).1) && (decide ((((((((List.getD a2 a4.toNat (Ty.dflt (TPose)))).1).2).2).2).1).2 = (((((((List.getD a3 a4.toNat (Ty.dflt (TPose)))).1).2).2).2).1).2) && (decide ((((((((List.getD a2 a4.toNat (Ty.dflt (TPose)))).1).2).2).2).2).1 = (((((((List.getD a3 a4.toNat (Ty.dflt (TPose)))).1).2).2).2).2).1) && (decide ((((((((List.getD a2 a4.toNat (Ty.dflt (TPose)))).1).2).2).2).2).2 = (((((((List.getD a3 a4.toNat (Ty.dflt (TPose)))).1).2).2).2).2).2) && (decide (((((List.getD a2 a4.toNat (Ty.dflt (TPose)))).2).1).1 = ((((List.getD a3 a4.toNat (Ty.dflt (TPose)))).2).1).1) && (decide (((((List.getD a2 a4.toNat (Ty.dflt (TPose)))).2).1).2 = ((((List.getD a3 a4.toNat (Ty.dflt (TPose)))).2).1).2) && (decide ((((((List.getD a2 a4.toNat (Ty.dflt (TPose)))).2).2).1).1 = (((((List.getD a3 a4.toNat (Ty.dflt (TPose)))).2).2).1).1) && (decide ((((((List.getD a2 a4.toNat (Ty.dflt (TPose)))).2).2).1).2 = (((((List.getD a3 a4.toNat (Ty.dflt (TPose)))).2).2).1).2) && (decide ((((((List.getD a2 a4.toNat (Ty.dflt (TPose)))).2).2).2).1 = (((((List.getD a3 a4.toNat (Ty.dflt (TPose)))).2).2).2).1) && (decide ((((((List.getD a2 a4.toNat (Ty.dflt (TPose)))).2).2).2).2 = (((((List.getD a3 a4.toNat (Ty.dflt (TPose)))).2).2).2).2) && true))))))))))))))))))))))))
       .br (x6) (
        .leaf (.inr (.inr ((y3, ()), (false, ()), ())))) (
        let x7 : Int := IntKind.wrap .i64 (a4 + 1)
        .leaf (.inl ((y3, ()), (y4, ()), (a2, ()), (a3, ()), (x7, ()), ())))) .fail) .fail) (
     let x8 : Int := IntKind.wrap .i64 (a4 + 1)
     .leaf (.inl ((y3, ()), (y4, ()), (a2, ()), (a3, ()), (x8, ()), ())))) .fail) (
   .leaf (.inr (.inl ((a0, ()), ()))))
def step_armplanlaw11_KinematicsLocal_L0 : Sl ss_armplanlaw11_KinematicsLocal_L0 → Option (Sl ss_armplanlaw11_KinematicsLocal_L0 ⊕ Outs os_armplanlaw11_KinematicsLocal_L0) := fun x => (t_armplanlaw11_KinematicsLocal_L0 x.1.1 x.2.1.1 x.2.2.1.1 x.2.2.2.1.1 x.2.2.2.2.1.1).optA id
theorem run_armplanlaw11_KinematicsLocal_L0 : ∀ (x : Sl ss_armplanlaw11_KinematicsLocal_L0) (vs : Nat → Value), run (mkC itys ieqs [] [] (lpOne 13 2 (loopLH loop_armplanlaw11_KinematicsLocal_L2 2) noLoops)) 200 13 (loopBody 0 (Try.f13.body.getD .skip)) (mkSt ss_armplanlaw11_KinematicsLocal_L0 x (baseT 94 [] [] vs)) (endK ss_armplanlaw11_KinematicsLocal_L0 os_armplanlaw11_KinematicsLocal_L0 94 []) = (t_armplanlaw11_KinematicsLocal_L0 x.1.1 x.2.1.1 x.2.2.1.1 x.2.2.2.1.1 x.2.2.2.2.1.1).optA fun r => (r, [].map (keptA [] vs)) := by
  intro x vs; kernel_rfl
instance inh_armplanlaw11_KinematicsLocal_L0 : Inhabited (Outs os_armplanlaw11_KinematicsLocal_L0) := ⟨outsDflt os_armplanlaw11_KinematicsLocal_L0⟩
def dom_armplanlaw11_KinematicsLocal_L0 (x : Sl ss_armplanlaw11_KinematicsLocal_L0) : Bool := (loopN step_armplanlaw11_KinematicsLocal_L0 rounds x).isSome
def val_armplanlaw11_KinematicsLocal_L0 (x : Sl ss_armplanlaw11_KinematicsLocal_L0) : Outs os_armplanlaw11_KinematicsLocal_L0 := (loopN step_armplanlaw11_KinematicsLocal_L0 rounds x).getD default
def loop_armplanlaw11_KinematicsLocal_L0 : LoopD := mkLoop ss_armplanlaw11_KinematicsLocal_L0 os_armplanlaw11_KinematicsLocal_L0 94 [] [] step_armplanlaw11_KinematicsLocal_L0 dom_armplanlaw11_KinematicsLocal_L0 val_armplanlaw11_KinematicsLocal_L0 (loop_hv step_armplanlaw11_KinematicsLocal_L0)
theorem lok_armplanlaw11_KinematicsLocal_L0 : LoopOk Try.prog (loopLH loop_armplanlaw11_KinematicsLocal_L0 0) 0 (.loop (loopBody 0 (Try.f13.body.getD .skip))) := loop_in (D := loop_armplanlaw11_KinematicsLocal_L0) (n := 200) (cur := 13) (mkC_ok itys_ok ieqs_ok (fns_nil _) (inl_nil _) (lpOne_ok (b := loopBody 2 (Try.f13.body.getD .skip)) Try.func13 (by kernel_rfl) lok_armplanlaw11_KinematicsLocal_L2 noLoops_ok) mixed) Try.func13 (by kernel_rfl) (turns_of run_armplanlaw11_KinematicsLocal_L0) (by kernel_rfl) (by kernel_rfl) (by kernel_rfl)

/- armplan/armplanlaw11.KinematicsLocal -/
def t_armplanlaw11_KinematicsLocal (a0 : List (Int)) (a1 : List (Int)) (a2 : Int) (a3 : Int) (a4 : Int) : Tr Bool :=
  let r1 : DScene := armplanmake_Scene a0
  .br (dom_armplanmake_Scene a0) (
   let r2 : List ((Int × Int)) := armplanmake_Box r1.1 a1
   .br (dom_armplanmake_Box r1.1 a1) (
    .br (room r2.length) (
     let r3 : Int := armplanmake_Round a2 ((r2.length : Nat) : Int)
     .br (dom_armplanmake_Round a2 ((r2.length : Nat) : Int)) (
      let r4 : (Int × Int) := armplanmake_Interval a3 a4
      .br (dom_armplanmake_Interval a3 a4) (
       .br (decide (0 ≤ r3) && decide (r3 < ((r2.length : Nat) : Int))) (
        let r5 : List (DPose) := kinematics_Links r1.1 r2
        .br (dom_kinematics_Links r1.1 r2) (
         let r6 : List (DPose) := kinematics_Links r1.1 (List.set r2 r3.toNat r4)
         .br (dom_kinematics_Links r1.1 (List.set r2 r3.toNat r4)) (
          let x7 : Bool := !decide (((r5.length : Nat) : Int) = ((r2.length : Nat) : Int))
          .br (x7) (
           .leaf false) (
           let x8 : Bool := !decide (((r6.length : Nat) : Int) = ((r2.length : Nat) : Int))
           .br (x8) (
            .leaf false) (
            let r9 : Outs os_armplanlaw11_KinematicsLocal_L0 := val_armplanlaw11_KinematicsLocal_L0 ((r1, ()), (r3, ()), (r5, ()), (r6, ()), (0, ()), ())
            .br (dom_armplanlaw11_KinematicsLocal_L0 ((r1, ()), (r3, ()), (r5, ()), (r6, ()), (0, ()), ())) (
             let r10 := getL r9
             let r11 := getR r9
             .br (isL r9) (
              let y12 : DScene := r10.1.1
              let r13 : Bool := armplanlaw11_awake
              .br (dom_armplanlaw11_awake) (
               .leaf r13) .fail) (
              let y14 : DScene := r11.1.1
              let y15 : Bool := r11.2.1.1
              .leaf y15)) .fail))) .fail) .fail) .fail) .fail) .fail) .fail) .fail) .fail
def armplanlaw11_KinematicsLocal (a0 : List (Int)) (a1 : List (Int)) (a2 : Int) (a3 : Int) (a4 : Int) : Bool := (t_armplanlaw11_KinematicsLocal a0 a1 a2 a3 a4).val
def dom_armplanlaw11_KinematicsLocal (a0 : List (Int)) (a1 : List (Int)) (a2 : Int) (a3 : Int) (a4 : Int) : Bool := (t_armplanlaw11_KinematicsLocal a0 a1 a2 a3 a4).dom
theorem run_armplanlaw11_KinematicsLocal : ∀ x, runF (mkC itys ieqs [(36, hd_armplanmake_Round), (42, hd_armplanmake_Scene), (43, hd_armplanmake_Box), (44, hd_armplanlaw11_awake), (52, hd_armplanmake_Interval), (53, hd_kinematics_Links)] [] (lpOne 13 0 (loopLH loop_armplanlaw11_KinematicsLocal_L0 0) noLoops)) 200 13 Try.f13 (argsA [.list (.int .i64), .list (.int .i64), .int .i64, .int .i64, .int .i64] x) [] (fun v h => toRes h [.bool] v) = (t_armplanlaw11_KinematicsLocal x.1 x.2.1 x.2.2.1 x.2.2.2.1 x.2.2.2.2.1).optA (fun r => (r, ())) := by
  intro x; kernel_rfl
theorem fn_armplanlaw11_KinematicsLocal : FnOk Try.prog 13 [.list (.int .i64), .list (.int .i64), .int .i64, .int .i64, .int .i64] [.bool] (fun x => bif dom_armplanlaw11_KinematicsLocal x.1 x.2.1 x.2.2.1 x.2.2.2.1 x.2.2.2.2.1 then some ((fun r => (r, ())) (armplanlaw11_KinematicsLocal x.1 x.2.1 x.2.2.1 x.2.2.2.1 x.2.2.2.2.1)) else none) :=
  fn_part (t := fun (x : Ar [.list (.int .i64), .list (.int .i64), .int .i64, .int .i64, .int .i64]) => t_armplanlaw11_KinematicsLocal x.1 x.2.1 x.2.2.1 x.2.2.2.1 x.2.2.2.2.1) (R := Bool) (Ts := [.bool]) (mk := (fun r => (r, ()))) (mkC_ok itys_ok ieqs_ok (fns_cons ok_armplanmake_Round (fns_cons ok_armplanmake_Scene (fns_cons ok_armplanmake_Box (fns_cons ok_armplanlaw11_awake (fns_cons ok_armplanmake_Interval (fns_cons ok_kinematics_Links (fns_nil _))))))) (inl_nil _) (lpOne_ok (b := loopBody 0 (Try.f13.body.getD .skip)) Try.func13 (by kernel_rfl) lok_armplanlaw11_KinematicsLocal_L0 noLoops_ok) mixed) Try.func13 run_armplanlaw11_KinematicsLocal
/- loop 0 of armplan/armplanmake.Config -/
abbrev ss_armplanmake_Config_L0 : List Slot := [⟨[2], true, false, [.d (TRobot)]⟩, ⟨[5], true, false, [.d (TSource)]⟩, ⟨[6], false, false, [.v 2 (.int .i64)]⟩, ⟨[7], false, false, [.d (.int .i64)]⟩]
abbrev os_armplanmake_Config_L0 : List (Exit × List Slot) := [(.exit 0, [⟨[2], true, false, [.d (TRobot)]⟩, ⟨[5], true, false, [.d (TSource)]⟩, ⟨[6], false, false, [.v 2 (.int .i64)]⟩])]
def t_armplanmake_Config_L0 (a0 : DRobot) (a1 : DSource) (a2 : List (Int)) (a3 : Int) : Tr (Sl ss_armplanmake_Config_L0 ⊕ Outs os_armplanmake_Config_L0) :=
  let x1 : Bool := decide (a3 < ((a0.1.length : Nat) : Int))
  .br (x1) (
   .br (decide (0 ≤ a3) && decide (a3 < ((a0.1.length : Nat) : Int))) (
    .br (decide (0 ≤ a3) && decide (a3 < ((a0.1.length : Nat) : Int))) (
     let r2 : (Int × DSource) := armplanmake_Source_Next a1 6
     .br (dom_armplanmake_Source_Next a1 6) (
      let x3 : Bool := decide (r2.1 = 0)
      .br (x3) (
       .br (room (a2.length + [((((((List.getD a0.1 a3.toNat (Ty.dflt (TJoint)))).2).2).2).2).1].length)) (
        let x4 : Int := IntKind.wrap .i64 (a3 + 1)
        .leaf (.inl ((a0, ()), (r2.2, ()), ((a2 ++ [((((((List.getD a0.1 a3.toNat (Ty.dflt (TJoint)))).2).2).2).2).1]), ()), (x4, ()), ()))) .fail) (
       let x5 : Bool := decide (r2.1 = 1)
       .br (x5) (
        .br (room (a2.length + [(((((((List.getD a0.1 a3.toNat (Ty.dflt (TJoint)))).2).2).2).2).2).1].length)) (
         let x6 : Int := IntKind.wrap .i64 (a3 + 1)
         .leaf (.inl ((a0, ()), (r2.2, ()), ((a2 ++ [(((((((List.getD a0.1 a3.toNat (Ty.dflt (TJoint)))).2).2).2).2).2).1]), ()), (x6, ()), ()))) .fail) (
        let x7 : Int := IntKind.wrap .i64 ((((((((List.getD a0.1 a3.toNat (Ty.dflt (TJoint)))).2).2).2).2).2).1 - ((((((List.getD a0.1 a3.toNat (Ty.dflt (TJoint)))).2).2).2).2).1)
        let x8 : Int := IntKind.wrap .i64 (x7 + 1)
        let r9 : (Int × DSource) := armplanmake_Source_Next r2.2 x8
        .br (dom_armplanmake_Source_Next r2.2 x8) (
         let x10 : Int := IntKind.wrap .i64 (((((((List.getD a0.1 a3.toNat (Ty.dflt (TJoint)))).2).2).2).2).1 + r9.1)
         .br (room (a2.length + [x10].length)) (
          let x11 : Int := IntKind.wrap .i64 (a3 + 1)
          .leaf (.inl ((a0, ()), (r9.2, ()), ((a2 ++ [x10]), ()), (x11, ()), ()))) .fail) .fail))) .fail) .fail) .fail) (
   .leaf (.inr ((a0, ()), (a1, ()), (a2, ()), ())))
def step_armplanmake_Config_L0 : Sl ss_armplanmake_Config_L0 → Option (Sl ss_armplanmake_Config_L0 ⊕ Outs os_armplanmake_Config_L0) := fun x => (t_armplanmake_Config_L0 x.1.1 x.2.1.1 x.2.2.1.1 x.2.2.2.1.1).optA id
instance inh_armplanmake_Config_L0 : Inhabited (Outs os_armplanmake_Config_L0) := ⟨outsDflt os_armplanmake_Config_L0⟩
def dom_armplanmake_Config_L0 (x : Sl ss_armplanmake_Config_L0) : Bool := (loopN step_armplanmake_Config_L0 rounds x).isSome
def val_armplanmake_Config_L0 (x : Sl ss_armplanmake_Config_L0) : Outs os_armplanmake_Config_L0 := (loopN step_armplanmake_Config_L0 rounds x).getD default
/- loop 0 of armplan/armplanref10.small -/
abbrev ss_armplanref10_small_L0 : List Slot := [⟨[0], false, false, [.d (.list (.int .i64))]⟩, ⟨[3], false, false, [.d (.int .i64)]⟩]
abbrev os_armplanref10_small_L0 : List (Exit × List Slot) := [(.exit 0, []), (.ret, [⟨[2], false, false, [.d (.bool)]⟩])]
def t_armplanref10_small_L0 (a0 : List (Int)) (a1 : Int) : Tr (Sl ss_armplanref10_small_L0 ⊕ Outs os_armplanref10_small_L0) :=
  let x1 : Bool := decide (a1 < ((a0.length : Nat) : Int))
  .br (x1) (
   .br (decide (0 ≤ a1) && decide (a1 < ((a0.length : Nat) : Int))) (
    let x2 : Bool := decide ((List.getD a0 a1.toNat (Ty.dflt (.int .i64))) < (-2147483648))
    .br (x2) (
     .leaf (.inr (.inr ((false, ()), ())))) (
     .br (decide (0 ≤ a1) && decide (a1 < ((a0.length : Nat) : Int))) (
      let x3 : Bool := decide (2147483648 < (List.getD a0 a1.toNat (Ty.dflt (.int .i64))))
      .br (x3) (
       .leaf (.inr (.inr ((false, ()), ())))) (
       let x4 : Int := IntKind.wrap .i64 (a1 + 1)
       .leaf (.inl ((a0, ()), (x4, ()), ())))) .fail)) .fail) (
   .leaf (.inr (.inl ())))
def step_armplanref10_small_L0 : Sl ss_armplanref10_small_L0 → Option (Sl ss_armplanref10_small_L0 ⊕ Outs os_armplanref10_small_L0) := fun x => (t_armplanref10_small_L0 x.1.1 x.2.1.1).optA id
theorem run_armplanref10_small_L0 : ∀ (x : Sl ss_armplanref10_small_L0) (vs : Nat → Value), run (mkC itys ieqs [] [] noLoops) 200 84 (loopBody 0 (Try.f84.body.getD .skip)) (mkSt ss_armplanref10_small_L0 x (baseT 22 [] [] vs)) (endK ss_armplanref10_small_L0 os_armplanref10_small_L0 22 []) = (t_armplanref10_small_L0 x.1.1 x.2.1.1).optA fun r => (r, [].map (keptA [] vs)) := by
  intro x vs; kernel_rfl
instance inh_armplanref10_small_L0 : Inhabited (Outs os_armplanref10_small_L0) := ⟨outsDflt os_armplanref10_small_L0⟩
def dom_armplanref10_small_L0 (x : Sl ss_armplanref10_small_L0) : Bool := (loopN step_armplanref10_small_L0 rounds x).isSome
def val_armplanref10_small_L0 (x : Sl ss_armplanref10_small_L0) : Outs os_armplanref10_small_L0 := (loopN step_armplanref10_small_L0 rounds x).getD default
def loop_armplanref10_small_L0 : LoopD := mkLoop ss_armplanref10_small_L0 os_armplanref10_small_L0 22 [] [] step_armplanref10_small_L0 dom_armplanref10_small_L0 val_armplanref10_small_L0 (loop_hv step_armplanref10_small_L0)
theorem lok_armplanref10_small_L0 : LoopOk Try.prog (loopLH loop_armplanref10_small_L0 0) 0 (.loop (loopBody 0 (Try.f84.body.getD .skip))) := loop_in (D := loop_armplanref10_small_L0) (n := 200) (cur := 84) (mkC_ok itys_ok ieqs_ok (fns_nil _) (inl_nil _) noLoops_ok mixed) Try.func84 (by kernel_rfl) (turns_of run_armplanref10_small_L0) (by kernel_rfl) (by kernel_rfl) (by kernel_rfl)

/- armplan/armplanref10.small -/
def t_armplanref10_small (a0 : List (Int)) : Tr Bool :=
  let r1 : Outs os_armplanref10_small_L0 := val_armplanref10_small_L0 ((a0, ()), (0, ()), ())
  .br (dom_armplanref10_small_L0 ((a0, ()), (0, ()), ())) (
   let r2 := getL r1
   let r3 := getR r1
   .br (isL r1) (
    .leaf true) (
    let y4 : Bool := r3.1.1
    .leaf y4)) .fail
def armplanref10_small (a0 : List (Int)) : Bool := (t_armplanref10_small a0).val
def dom_armplanref10_small (a0 : List (Int)) : Bool := (t_armplanref10_small a0).dom
theorem run_armplanref10_small : ∀ x, runF (mkC itys ieqs [] [] (lpOne 84 0 (loopLH loop_armplanref10_small_L0 0) noLoops)) 200 84 Try.f84 (argsA [.list (.int .i64)] x) [] (fun v h => toRes h [.bool] v) = (t_armplanref10_small x.1).optA (fun r => (r, ())) := by
  intro x; kernel_rfl
theorem fn_armplanref10_small : FnOk Try.prog 84 [.list (.int .i64)] [.bool] (fun x => bif dom_armplanref10_small x.1 then some ((fun r => (r, ())) (armplanref10_small x.1)) else none) :=
  fn_part (t := fun (x : Ar [.list (.int .i64)]) => t_armplanref10_small x.1) (R := Bool) (Ts := [.bool]) (mk := (fun r => (r, ()))) (mkC_ok itys_ok ieqs_ok (fns_nil _) (inl_nil _) (lpOne_ok (b := loopBody 0 (Try.f84.body.getD .skip)) Try.func84 (by kernel_rfl) lok_armplanref10_small_L0 noLoops_ok) mixed) Try.func84 run_armplanref10_small
def hd_armplanref10_small : Hd := guardHd [.list (.int .i64)] [.bool] (fun x => dom_armplanref10_small x.1) (fun x => (fun r => (r, ())) (armplanref10_small x.1))
theorem ok_armplanref10_small : HdOk Try.prog 84 hd_armplanref10_small.sem ∧ Enters Try.prog 84 := guard_ok fn_armplanref10_small Try.func84 (by kernel_rfl) (by kernel_rfl)

/- loop 0 of armplan/armplanref10.Box -/
abbrev ss_armplanref10_Box_L0 : List Slot := [⟨[0], false, false, [.d (.list (.int .i64))]⟩, ⟨[3], false, false, [.v 26 (.pair (.int .i64) (.int .i64))]⟩, ⟨[4], false, false, [.d (.int .i64)]⟩]
abbrev os_armplanref10_Box_L0 : List (Exit × List Slot) := [(.exit 0, [⟨[3], false, false, [.v 26 (.pair (.int .i64) (.int .i64))]⟩])]
def t_armplanref10_Box_L0 (a0 : List (Int)) (a1 : List ((Int × Int))) (a2 : Int) : Tr (Sl ss_armplanref10_Box_L0 ⊕ Outs os_armplanref10_Box_L0) :=
  let x1 : Bool := decide (a2 < ((a0.length : Nat) : Int))
  .br (x1) (
   .br (decide (0 ≤ a2) && decide (a2 < ((a0.length : Nat) : Int))) (
    .br (decide (0 ≤ a2) && decide (a2 < ((a0.length : Nat) : Int))) (
     .br (room (a1.length + [((List.getD a0 a2.toNat (Ty.dflt (.int .i64))), (List.getD a0 a2.toNat (Ty.dflt (.int .i64))))].length)) (
      let x2 : Int := IntKind.wrap .i64 (a2 + 1)
      .leaf (.inl ((a0, ()), ((a1 ++ [((List.getD a0 a2.toNat (Ty.dflt (.int .i64))), (List.getD a0 a2.toNat (Ty.dflt (.int .i64))))]), ()), (x2, ()), ()))) .fail) .fail) .fail) (
   .leaf (.inr ((a1, ()), ())))
def step_armplanref10_Box_L0 : Sl ss_armplanref10_Box_L0 → Option (Sl ss_armplanref10_Box_L0 ⊕ Outs os_armplanref10_Box_L0) := fun x => (t_armplanref10_Box_L0 x.1.1 x.2.1.1 x.2.2.1.1).optA id
theorem run_armplanref10_Box_L0 : ∀ (x : Sl ss_armplanref10_Box_L0) (vs : Nat → Value), run (mkC itys ieqs [] [] noLoops) 200 55 (loopBody 0 (Try.f55.body.getD .skip)) (mkSt ss_armplanref10_Box_L0 x (baseT 27 [] [] vs)) (endK ss_armplanref10_Box_L0 os_armplanref10_Box_L0 27 []) = (t_armplanref10_Box_L0 x.1.1 x.2.1.1 x.2.2.1.1).optA fun r => (r, [].map (keptA [] vs)) := by
  intro x vs; kernel_rfl
instance inh_armplanref10_Box_L0 : Inhabited (Outs os_armplanref10_Box_L0) := ⟨outsDflt os_armplanref10_Box_L0⟩
def dom_armplanref10_Box_L0 (x : Sl ss_armplanref10_Box_L0) : Bool := (loopN step_armplanref10_Box_L0 rounds x).isSome
def val_armplanref10_Box_L0 (x : Sl ss_armplanref10_Box_L0) : Outs os_armplanref10_Box_L0 := (loopN step_armplanref10_Box_L0 rounds x).getD default
def loop_armplanref10_Box_L0 : LoopD := mkLoop ss_armplanref10_Box_L0 os_armplanref10_Box_L0 27 [] [] step_armplanref10_Box_L0 dom_armplanref10_Box_L0 val_armplanref10_Box_L0 (loop_hv step_armplanref10_Box_L0)
theorem lok_armplanref10_Box_L0 : LoopOk Try.prog (loopLH loop_armplanref10_Box_L0 0) 0 (.loop (loopBody 0 (Try.f55.body.getD .skip))) := loop_in (D := loop_armplanref10_Box_L0) (n := 200) (cur := 55) (mkC_ok itys_ok ieqs_ok (fns_nil _) (inl_nil _) noLoops_ok mixed) Try.func55 (by kernel_rfl) (turns_of run_armplanref10_Box_L0) (by kernel_rfl) (by kernel_rfl) (by kernel_rfl)

/- armplan/armplanref10.Box -/
def t_armplanref10_Box (a0 : List (Int)) : Tr (List ((Int × Int))) :=
  let r1 : Bool := armplanref10_small a0
  .br (dom_armplanref10_small a0) (
   .br ((!r1)) (
    .leaf []) (
    let r2 : Outs os_armplanref10_Box_L0 := val_armplanref10_Box_L0 ((a0, ()), ([], ()), (0, ()), ())
    .br (dom_armplanref10_Box_L0 ((a0, ()), ([], ()), (0, ()), ())) (
     let y3 : List ((Int × Int)) := r2.1.1
     .leaf y3) .fail)) .fail
def armplanref10_Box (a0 : List (Int)) : List ((Int × Int)) := (t_armplanref10_Box a0).val
def dom_armplanref10_Box (a0 : List (Int)) : Bool := (t_armplanref10_Box a0).dom
theorem run_armplanref10_Box : ∀ x, runF (mkC itys ieqs [(84, hd_armplanref10_small)] [] (lpOne 55 0 (loopLH loop_armplanref10_Box_L0 0) noLoops)) 200 55 Try.f55 (argsA [.list (.int .i64)] x) [] (fun v h => toRes h [.list (.pair (.int .i64) (.int .i64))] v) = (t_armplanref10_Box x.1).optA (fun r => (r, ())) := by
  intro x; kernel_rfl
theorem fn_armplanref10_Box : FnOk Try.prog 55 [.list (.int .i64)] [.list (.pair (.int .i64) (.int .i64))] (fun x => bif dom_armplanref10_Box x.1 then some ((fun r => (r, ())) (armplanref10_Box x.1)) else none) :=
  fn_part (t := fun (x : Ar [.list (.int .i64)]) => t_armplanref10_Box x.1) (R := List ((Int × Int))) (Ts := [.list (.pair (.int .i64) (.int .i64))]) (mk := (fun r => (r, ()))) (mkC_ok itys_ok ieqs_ok (fns_cons ok_armplanref10_small (fns_nil _)) (inl_nil _) (lpOne_ok (b := loopBody 0 (Try.f55.body.getD .skip)) Try.func55 (by kernel_rfl) lok_armplanref10_Box_L0 noLoops_ok) mixed) Try.func55 run_armplanref10_Box
def hd_armplanref10_Box : Hd := vecHd [.list (.int .i64)] [.list (.pair (.int .i64) (.int .i64))] (fun x => dom_armplanref10_Box x.1) (fun x => (fun r => (r, ())) (armplanref10_Box x.1))
theorem ok_armplanref10_Box : HdOk Try.prog 55 hd_armplanref10_Box.sem ∧ Enters Try.prog 55 := guard_ok fn_armplanref10_Box Try.func55 (by kernel_rfl) (by kernel_rfl)

/- loop 0 of armplan/armplanmake.Config -/
abbrev ss_armplanlaw11_KinematicsQuarters_armplanmake_Config_L0 : List Slot := [⟨[2], true, false, [.d (TRobot)]⟩, ⟨[5], true, false, [.d (TSource)]⟩, ⟨[6], false, false, [.v 2 (.int .i64)]⟩, ⟨[7], false, false, [.d (.int .i64)]⟩]
abbrev os_armplanlaw11_KinematicsQuarters_armplanmake_Config_L0 : List (Exit × List Slot) := [(.exit 0, [⟨[2], true, false, [.d (TRobot)]⟩, ⟨[5], true, false, [.d (TSource)]⟩, ⟨[6], false, false, [.v 2 (.int .i64)]⟩])]
def t_armplanlaw11_KinematicsQuarters_armplanmake_Config_L0 (a0 : DRobot) (a1 : DSource) (a2 : List (Int)) (a3 : Int) : Tr (Sl ss_armplanlaw11_KinematicsQuarters_armplanmake_Config_L0 ⊕ Outs os_armplanlaw11_KinematicsQuarters_armplanmake_Config_L0) :=
  let x1 : Bool := decide (a3 < ((a0.1.length : Nat) : Int))
  .br (x1) (
   .br (decide (0 ≤ a3) && decide (a3 < ((a0.1.length : Nat) : Int))) (
    .br (decide (0 ≤ a3) && decide (a3 < ((a0.1.length : Nat) : Int))) (
     let r2 : (Int × DSource) := armplanmake_Source_Next a1 6
     .br (dom_armplanmake_Source_Next a1 6) (
      let x3 : Bool := decide (r2.1 = 0)
      .br (x3) (
       .br (room (a2.length + [((((((List.getD a0.1 a3.toNat (Ty.dflt (TJoint)))).2).2).2).2).1].length)) (
        let x4 : Int := IntKind.wrap .i64 (a3 + 1)
        .leaf (.inl ((a0, ()), (r2.2, ()), ((a2 ++ [((((((List.getD a0.1 a3.toNat (Ty.dflt (TJoint)))).2).2).2).2).1]), ()), (x4, ()), ()))) .fail) (
       let x5 : Bool := decide (r2.1 = 1)
       .br (x5) (
        .br (room (a2.length + [(((((((List.getD a0.1 a3.toNat (Ty.dflt (TJoint)))).2).2).2).2).2).1].length)) (
         let x6 : Int := IntKind.wrap .i64 (a3 + 1)
         .leaf (.inl ((a0, ()), (r2.2, ()), ((a2 ++ [(((((((List.getD a0.1 a3.toNat (Ty.dflt (TJoint)))).2).2).2).2).2).1]), ()), (x6, ()), ()))) .fail) (
        let x7 : Int := IntKind.wrap .i64 ((((((((List.getD a0.1 a3.toNat (Ty.dflt (TJoint)))).2).2).2).2).2).1 - ((((((List.getD a0.1 a3.toNat (Ty.dflt (TJoint)))).2).2).2).2).1)
        let x8 : Int := IntKind.wrap .i64 (x7 + 1)
        let r9 : (Int × DSource) := armplanmake_Source_Next r2.2 x8
        .br (dom_armplanmake_Source_Next r2.2 x8) (
         let x10 : Int := IntKind.wrap .i64 (((((((List.getD a0.1 a3.toNat (Ty.dflt (TJoint)))).2).2).2).2).1 + r9.1)
         .br (room (a2.length + [x10].length)) (
          let x11 : Int := IntKind.wrap .i64 (a3 + 1)
          .leaf (.inl ((a0, ()), (r9.2, ()), ((a2 ++ [x10]), ()), (x11, ()), ()))) .fail) .fail))) .fail) .fail) .fail) (
   .leaf (.inr ((a0, ()), (a1, ()), (a2, ()), ())))
def step_armplanlaw11_KinematicsQuarters_armplanmake_Config_L0 : Sl ss_armplanlaw11_KinematicsQuarters_armplanmake_Config_L0 → Option (Sl ss_armplanlaw11_KinematicsQuarters_armplanmake_Config_L0 ⊕ Outs os_armplanlaw11_KinematicsQuarters_armplanmake_Config_L0) := fun x => (t_armplanlaw11_KinematicsQuarters_armplanmake_Config_L0 x.1.1 x.2.1.1 x.2.2.1.1 x.2.2.2.1.1).optA id
theorem run_armplanlaw11_KinematicsQuarters_armplanmake_Config_L0 : ∀ (x : Sl ss_armplanlaw11_KinematicsQuarters_armplanmake_Config_L0) (vs : Nat → Value), run (mkC itys ieqs [(20, hd_armplanmake_Source_Next)] [] noLoops) 200 54 (loopBody 0 (Try.f54.body.getD .skip)) (mkSt ss_armplanlaw11_KinematicsQuarters_armplanmake_Config_L0 x (baseT 57 [] [] vs)) (endK ss_armplanlaw11_KinematicsQuarters_armplanmake_Config_L0 os_armplanlaw11_KinematicsQuarters_armplanmake_Config_L0 57 []) = (t_armplanlaw11_KinematicsQuarters_armplanmake_Config_L0 x.1.1 x.2.1.1 x.2.2.1.1 x.2.2.2.1.1).optA fun r => (r, [].map (keptA [] vs)) := by
  intro x vs; kernel_rfl
instance inh_armplanlaw11_KinematicsQuarters_armplanmake_Config_L0 : Inhabited (Outs os_armplanlaw11_KinematicsQuarters_armplanmake_Config_L0) := ⟨outsDflt os_armplanlaw11_KinematicsQuarters_armplanmake_Config_L0⟩
def dom_armplanlaw11_KinematicsQuarters_armplanmake_Config_L0 (x : Sl ss_armplanlaw11_KinematicsQuarters_armplanmake_Config_L0) : Bool := (loopN step_armplanlaw11_KinematicsQuarters_armplanmake_Config_L0 rounds x).isSome
def val_armplanlaw11_KinematicsQuarters_armplanmake_Config_L0 (x : Sl ss_armplanlaw11_KinematicsQuarters_armplanmake_Config_L0) : Outs os_armplanlaw11_KinematicsQuarters_armplanmake_Config_L0 := (loopN step_armplanlaw11_KinematicsQuarters_armplanmake_Config_L0 rounds x).getD default
def loop_armplanlaw11_KinematicsQuarters_armplanmake_Config_L0 : LoopD := mkLoop ss_armplanlaw11_KinematicsQuarters_armplanmake_Config_L0 os_armplanlaw11_KinematicsQuarters_armplanmake_Config_L0 57 [] [] step_armplanlaw11_KinematicsQuarters_armplanmake_Config_L0 dom_armplanlaw11_KinematicsQuarters_armplanmake_Config_L0 val_armplanlaw11_KinematicsQuarters_armplanmake_Config_L0 (loop_hv step_armplanlaw11_KinematicsQuarters_armplanmake_Config_L0)
theorem lok_armplanlaw11_KinematicsQuarters_armplanmake_Config_L0 : LoopOk Try.prog (loopLH loop_armplanlaw11_KinematicsQuarters_armplanmake_Config_L0 0) 0 (.loop (loopBody 0 (Try.f54.body.getD .skip))) := loop_in (D := loop_armplanlaw11_KinematicsQuarters_armplanmake_Config_L0) (n := 200) (cur := 54) (mkC_ok itys_ok ieqs_ok (fns_cons ok_armplanmake_Source_Next (fns_nil _)) (inl_nil _) noLoops_ok mixed) Try.func54 (by kernel_rfl) (turns_of run_armplanlaw11_KinematicsQuarters_armplanmake_Config_L0) (by kernel_rfl) (by kernel_rfl) (by kernel_rfl)

/- loop 0 of armplan/armplanlaw11.KinematicsQuarters -/
abbrev ss_armplanlaw11_KinematicsQuarters_L0 : List Slot := [⟨[5], true, false, [.d (TScene)]⟩, ⟨[6], true, false, [.d (TSource)]⟩, ⟨[7], false, false, [.v 2 (.int .i64)]⟩, ⟨[8], false, false, [.d (.int .i64)]⟩]
abbrev os_armplanlaw11_KinematicsQuarters_L0 : List (Exit × List Slot) := [(.exit 0, [⟨[5], true, false, [.d (TScene)]⟩, ⟨[6], true, false, [.d (TSource)]⟩, ⟨[7], false, false, [.v 2 (.int .i64)]⟩])]
def t_armplanlaw11_KinematicsQuarters_L0 (a0 : DScene) (a1 : DSource) (a2 : List (Int)) (a3 : Int) : Tr (Sl ss_armplanlaw11_KinematicsQuarters_L0 ⊕ Outs os_armplanlaw11_KinematicsQuarters_L0) :=
  let x1 : Bool := decide (a3 < ((a2.length : Nat) : Int))
  .br (x1) (
   .br (decide (0 ≤ a3) && decide (a3 < ((a0.1.1.length : Nat) : Int))) (
    let x2 : Bool := decide ((((List.getD a0.1.1 a3.toNat (Ty.dflt (TJoint)))).2).1 < 4)
    .br (x2) (
     let r3 : (Int × DSource) := armplanmake_Source_Signed a1 5
     .br (dom_armplanmake_Source_Signed a1 5) (
      let x4 : Int := IntKind.wrap .i64 (r3.1 * 65536)
      let x5 : Int := IntKind.wrap .i64 (Int.tdiv x4 4)
      .br (decide (0 ≤ a3) && decide (a3 < ((a2.length : Nat) : Int))) (
       let x6 : Int := IntKind.wrap .i64 (a3 + 1)
       .leaf (.inl ((a0, ()), (r3.2, ()), ((List.set a2 a3.toNat x5), ()), (x6, ()), ()))) .fail) .fail) (
     let x7 : Int := IntKind.wrap .i64 (a3 + 1)
     .leaf (.inl ((a0, ()), (a1, ()), (a2, ()), (x7, ()), ())))) .fail) (
   .leaf (.inr ((a0, ()), (a1, ()), (a2, ()), ())))
def step_armplanlaw11_KinematicsQuarters_L0 : Sl ss_armplanlaw11_KinematicsQuarters_L0 → Option (Sl ss_armplanlaw11_KinematicsQuarters_L0 ⊕ Outs os_armplanlaw11_KinematicsQuarters_L0) := fun x => (t_armplanlaw11_KinematicsQuarters_L0 x.1.1 x.2.1.1 x.2.2.1.1 x.2.2.2.1.1).optA id
theorem run_armplanlaw11_KinematicsQuarters_L0 : ∀ (x : Sl ss_armplanlaw11_KinematicsQuarters_L0) (vs : Nat → Value), run (mkC itys ieqs [(17, hd_armplanmake_Source_Signed)] [] noLoops) 200 14 (loopBody 0 (Try.f14.body.getD .skip)) (mkSt ss_armplanlaw11_KinematicsQuarters_L0 x (baseT 144 [] [] vs)) (endK ss_armplanlaw11_KinematicsQuarters_L0 os_armplanlaw11_KinematicsQuarters_L0 144 []) = (t_armplanlaw11_KinematicsQuarters_L0 x.1.1 x.2.1.1 x.2.2.1.1 x.2.2.2.1.1).optA fun r => (r, [].map (keptA [] vs)) := by
  intro x vs; kernel_rfl
instance inh_armplanlaw11_KinematicsQuarters_L0 : Inhabited (Outs os_armplanlaw11_KinematicsQuarters_L0) := ⟨outsDflt os_armplanlaw11_KinematicsQuarters_L0⟩
def dom_armplanlaw11_KinematicsQuarters_L0 (x : Sl ss_armplanlaw11_KinematicsQuarters_L0) : Bool := (loopN step_armplanlaw11_KinematicsQuarters_L0 rounds x).isSome
def val_armplanlaw11_KinematicsQuarters_L0 (x : Sl ss_armplanlaw11_KinematicsQuarters_L0) : Outs os_armplanlaw11_KinematicsQuarters_L0 := (loopN step_armplanlaw11_KinematicsQuarters_L0 rounds x).getD default
def loop_armplanlaw11_KinematicsQuarters_L0 : LoopD := mkLoop ss_armplanlaw11_KinematicsQuarters_L0 os_armplanlaw11_KinematicsQuarters_L0 144 [] [] step_armplanlaw11_KinematicsQuarters_L0 dom_armplanlaw11_KinematicsQuarters_L0 val_armplanlaw11_KinematicsQuarters_L0 (loop_hv step_armplanlaw11_KinematicsQuarters_L0)
theorem lok_armplanlaw11_KinematicsQuarters_L0 : LoopOk Try.prog (loopLH loop_armplanlaw11_KinematicsQuarters_L0 0) 0 (.loop (loopBody 0 (Try.f14.body.getD .skip))) := loop_in (D := loop_armplanlaw11_KinematicsQuarters_L0) (n := 200) (cur := 14) (mkC_ok itys_ok ieqs_ok (fns_cons ok_armplanmake_Source_Signed (fns_nil _)) (inl_nil _) noLoops_ok mixed) Try.func14 (by kernel_rfl) (turns_of run_armplanlaw11_KinematicsQuarters_L0) (by kernel_rfl) (by kernel_rfl) (by kernel_rfl)

/- loop 2 of armplan/armplanlaw11.KinematicsQuarters -/
abbrev ss_armplanlaw11_KinematicsQuarters_L2 : List Slot := [⟨[7], false, false, [.d (.list (.int .i64))]⟩, ⟨[9], false, false, [.d (.list (TPose))]⟩, ⟨[10], false, false, [.d (.int .i64)]⟩]
abbrev os_armplanlaw11_KinematicsQuarters_L2 : List (Exit × List Slot) := [(.exit 2, [⟨[7], false, false, [.d (.list (.int .i64))]⟩, ⟨[9], false, false, [.d (.list (TPose))]⟩]), (.ret, [⟨[4], false, false, [.d (.bool)]⟩])]
def t_armplanlaw11_KinematicsQuarters_L2 (a0 : List (Int)) (a1 : List (DPose)) (a2 : Int) : Tr (Sl ss_armplanlaw11_KinematicsQuarters_L2 ⊕ Outs os_armplanlaw11_KinematicsQuarters_L2) :=
  let x1 : Bool := decide (a2 < ((a1.length : Nat) : Int))
  .br (x1) (
   .br (decide (0 ≤ a2) && decide (a2 < ((a1.length : Nat) : Int))) (
    .br (decide (0 ≤ a2) && decide (a2 < ((a1.length : Nat) : Int))) (
     let x2 : Bool := !decide (((((List.getD a1 a2.toNat (Ty.dflt (TPose)))).2).1).1 = ((((List.getD a1 a2.toNat (Ty.dflt (TPose)))).2).1).2)
     .br (x2) (
      .leaf (.inr (.inr ((false, ()), ())))) (
      .br (decide (0 ≤ a2) && decide (a2 < ((a1.length : Nat) : Int))) (
       .br (decide (0 ≤ a2) && decide (a2 < ((a1.length : Nat) : Int))) (
        let x3 : Bool := !decide ((((((List.getD a1 a2.toNat (Ty.dflt (TPose)))).1).1).1).1 = (((((List.getD a1 a2.toNat (Ty.dflt (TPose)))).1).1).1).2)
        .br (x3) (
         .leaf (.inr (.inr ((false, ()), ())))) (
         .br (decide (0 ≤ a2) && decide (a2 < ((a1.length : Nat) : Int))) (
          .br (decide (0 ≤ a2) && decide (a2 < ((a1.length : Nat) : Int))) (
           let x4 : Bool := !decide (((((((List.getD a1 a2.toNat (Ty.dflt (TPose)))).1).1).2).1).1 = ((((((List.getD a1 a2.toNat (Ty.dflt (TPose)))).1).1).2).1).2)
           .br (x4) (
            .leaf (.inr (.inr ((false, ()), ())))) (
            .br (decide (0 ≤ a2) && decide (a2 < ((a1.length : Nat) : Int))) (
             .br (decide (0 ≤ a2) && decide (a2 < ((a1.length : Nat) : Int))) (
              let x5 : Bool := !decide (((((((List.getD a1 a2.toNat (Ty.dflt (TPose)))).1).1).2).2).1 = ((((((List.getD a1 a2.toNat (Ty.dflt (TPose)))).1).1).2).2).2)
              .br (x5) (
               .leaf (.inr (.inr ((false, ()), ())))) (
               .br (decide (0 ≤ a2) && decide (a2 < ((a1.length : Nat) : Int))) (
                .br (decide (0 ≤ a2) && decide (a2 < ((a1.length : Nat) : Int))) (
                 let x6 : Bool := !decide ((((((List.getD a1 a2.toNat (Ty.dflt (TPose)))).2).2).1).1 = (((((List.getD a1 a2.toNat (Ty.dflt (TPose)))).2).2).1).2)
                 .br (x6) (
                  .leaf (.inr (.inr ((false, ()), ())))) (
                  .br (decide (0 ≤ a2) && decide (a2 < ((a1.length : Nat) : Int))) (
                   .br (decide (0 ≤ a2) && decide (a2 < ((a1.length : Nat) : Int))) (
                    let x7 : Bool := !decide (((((((List.getD a1 a2.toNat (Ty.dflt (TPose)))).1).2).1).1).1 = ((((((List.getD a1 a2.toNat (Ty.dflt (TPose)))).1).2).1).1).2)
                    .br (x7) (
                     .leaf (.inr (.inr ((false, ()), ())))) (
                     .br (decide (0 ≤ a2) && decide (a2 < ((a1.length : Nat) : Int))) (
                      .br (decide (0 ≤ a2) && decide (a2 < ((a1.length : Nat) : Int))) (
                       let x8 : Bool := !decide ((((((((List.getD a1 a2.toNat (Ty.dflt (TPose)))).1).2).1).2).1).1 = (((((((List.getD a1 a2.toNat (Ty.dflt (TPose)))).1).2).1).2).1).2)
                       .br (x8) (
                        .leaf (.inr (.inr ((false, ()), ())))) (
                        .br (decide (0 ≤ a2) && decide (a2 < ((a1.length : Nat) : Int))) (
                         .br (decide (0 ≤ a2) && decide (a2 < ((a1.length : Nat) : Int))) (
                          let x9 : Bool := !decide ((((((((List.getD a1 a2.toNat (Ty.dflt (TPose)))).1).2).1).2).2).1 = (((((((List.getD a1 a2.toNat (Ty.dflt (TPose)))).1).2).1).2).2).2)
                          .br (x9) (
                           .leaf (.inr (.inr ((false, ()), ())))) (
                           .br (decide (0 ≤ a2) && decide (a2 < ((a1.length : Nat) : Int))) (
                            .br (decide (0 ≤ a2) && decide (a2 < ((a1.length : Nat) : Int))) (
                             let x10 : Bool := !decide ((((((List.getD a1 a2.toNat (Ty.dflt (TPose)))).2).2).2).1 = (((((List.getD a1 a2.toNat (Ty.dflt (TPose)))).2).2).2).2)
                             .br (x10) (
                              .leaf (.inr (.inr ((false, ()), ())))) (
                              .br (decide (0 ≤ a2) && decide (a2 < ((a1.length : Nat) : Int))) (
                               .br (decide (0 ≤ a2) && decide (a2 < ((a1.length : Nat) : Int))) (
                                let x11 : Bool := !decide (((((((List.getD a1 a2.toNat (Ty.dflt (TPose)))).1).2).2).1).1 = ((((((List.getD a1 a2.toNat (Ty.dflt (TPose)))).1).2).2).1).2)
                                .br (x11) (
                                 .leaf (.inr (.inr ((false, ()), ())))) (
                                 .br (decide (0 ≤ a2) && decide (a2 < ((a1.length : Nat) : Int))) (
                                  .br (decide (0 ≤ a2) && decide (a2 < ((a1.length : Nat) : Int))) (
                                   let x12 : Bool := !decide ((((((((List.getD a1 a2.toNat (Ty.dflt (TPose)))).1).2).2).2).1).1 = (((((((List.getD a1 a2.toNat (Ty.dflt (TPose)))).1).2).2).2).1).2)
                                   .br (x12) (
                                    .leaf (.inr (.inr ((false, ()), ())))) (
                                    .br (decide (0 ≤ a2) && decide (a2 < ((a1.length : Nat) : Int))) (
                                     .br (decide (0 ≤ a2) && decide (a2 < ((a1.length : Nat) : Int))) (
                                      let x13 : Bool := !decide ((((((((List.getD a1 a2.toNat (Ty.dflt (TPose)))).1).2).2).2).2).1 = (((((((List.getD a1 a2.toNat (Ty.dflt (TPose)))).1).2).2).2).2).2)
                                      .br (x13) (
                                       .leaf (.inr (.inr ((false, ()), ())))) (
                                       let x14 : Int := IntKind.wrap .i64 (a2 + 1)
                                       .leaf (.inl ((a0, ()), (a1, ()), (x14, ()), ())))) .fail) .fail)) .fail) .fail)) .fail) .fail)) .fail) .fail)) .fail) .fail)) .fail) .fail)) .fail) .fail)) .fail) .fail)) .fail) .fail)) .fail) .fail)) .fail) .fail)) .fail) .fail) (
   .leaf (.inr (.inl ((a0, ()), (a1, ()), ()))))
def step_armplanlaw11_KinematicsQuarters_L2 : Sl ss_armplanlaw11_KinematicsQuarters_L2 → Option (Sl ss_armplanlaw11_KinematicsQuarters_L2 ⊕ Outs os_armplanlaw11_KinematicsQuarters_L2) := fun x => (t_armplanlaw11_KinematicsQuarters_L2 x.1.1 x.2.1.1 x.2.2.1.1).optA id
theorem run_armplanlaw11_KinematicsQuarters_L2 : ∀ (x : Sl ss_armplanlaw11_KinematicsQuarters_L2) (vs : Nat → Value), run (mkC itys ieqs [] [] noLoops) 200 14 (loopBody 2 (Try.f14.body.getD .skip)) (mkSt ss_armplanlaw11_KinematicsQuarters_L2 x (baseT 144 [] [] vs)) (endK ss_armplanlaw11_KinematicsQuarters_L2 os_armplanlaw11_KinematicsQuarters_L2 144 []) = (t_armplanlaw11_KinematicsQuarters_L2 x.1.1 x.2.1.1 x.2.2.1.1).optA fun r => (r, [].map (keptA [] vs)) := by
  intro x vs; kernel_rfl
instance inh_armplanlaw11_KinematicsQuarters_L2 : Inhabited (Outs os_armplanlaw11_KinematicsQuarters_L2) := ⟨outsDflt os_armplanlaw11_KinematicsQuarters_L2⟩
def dom_armplanlaw11_KinematicsQuarters_L2 (x : Sl ss_armplanlaw11_KinematicsQuarters_L2) : Bool := (loopN step_armplanlaw11_KinematicsQuarters_L2 rounds x).isSome
def val_armplanlaw11_KinematicsQuarters_L2 (x : Sl ss_armplanlaw11_KinematicsQuarters_L2) : Outs os_armplanlaw11_KinematicsQuarters_L2 := (loopN step_armplanlaw11_KinematicsQuarters_L2 rounds x).getD default
def loop_armplanlaw11_KinematicsQuarters_L2 : LoopD := mkLoop ss_armplanlaw11_KinematicsQuarters_L2 os_armplanlaw11_KinematicsQuarters_L2 144 [] [] step_armplanlaw11_KinematicsQuarters_L2 dom_armplanlaw11_KinematicsQuarters_L2 val_armplanlaw11_KinematicsQuarters_L2 (loop_hv step_armplanlaw11_KinematicsQuarters_L2)
theorem lok_armplanlaw11_KinematicsQuarters_L2 : LoopOk Try.prog (loopLH loop_armplanlaw11_KinematicsQuarters_L2 2) 2 (.loop (loopBody 2 (Try.f14.body.getD .skip))) := loop_in (D := loop_armplanlaw11_KinematicsQuarters_L2) (n := 200) (cur := 14) (mkC_ok itys_ok ieqs_ok (fns_nil _) (inl_nil _) noLoops_ok mixed) Try.func14 (by kernel_rfl) (turns_of run_armplanlaw11_KinematicsQuarters_L2) (by kernel_rfl) (by kernel_rfl) (by kernel_rfl)

/- armplan/armplanlaw11.KinematicsQuarters -/
def t_armplanlaw11_KinematicsQuarters (a0 : List (Int)) (a1 : List (Int)) : Tr Bool :=
  let r1 : DScene := armplanmake_Scene a0
  .br (dom_armplanmake_Scene a0) (
   let r2 : Outs os_armplanlaw11_KinematicsQuarters_armplanmake_Config_L0 := val_armplanlaw11_KinematicsQuarters_armplanmake_Config_L0 ((r1.1, ()), ((a1, 0), ()), ([], ()), (0, ()), ())
   .br (dom_armplanlaw11_KinematicsQuarters_armplanmake_Config_L0 ((r1.1, ()), ((a1, 0), ()), ([], ()), (0, ()), ())) (
    let y3 : DRobot := r2.1.1
    let y4 : DSource := r2.2.1.1
    let y5 : List (Int) := r2.2.2.1.1
    let r6 : Outs os_armplanlaw11_KinematicsQuarters_L0 := val_armplanlaw11_KinematicsQuarters_L0 ((r1, ()), ((a1, 0), ()), (y5, ()), (0, ()), ())
    .br (dom_armplanlaw11_KinematicsQuarters_L0 ((r1, ()), ((a1, 0), ()), (y5, ()), (0, ()), ())) (
     let y7 : DScene := r6.1.1
     let y8 : DSource := r6.2.1.1
     let y9 : List (Int) := r6.2.2.1.1
     let r10 : List ((Int × Int)) := armplanref10_Box y9
     .br (dom_armplanref10_Box y9) (
      let r11 : List (DPose) := kinematics_Links y7.1 r10
      .br (dom_kinematics_Links y7.1 r10) (
       let r12 : Outs os_armplanlaw11_KinematicsQuarters_L2 := val_armplanlaw11_KinematicsQuarters_L2 ((y9, ()), (r11, ()), (0, ()), ())
       .br (dom_armplanlaw11_KinematicsQuarters_L2 ((y9, ()), (r11, ()), (0, ()), ())) (
        let r13 := getL r12
        let r14 := getR r12
        .br (isL r12) (
         let y15 : List (Int) := r13.1.1
         let y16 : List (DPose) := r13.2.1.1
         let r17 : Bool := armplanlaw11_awake
         .br (dom_armplanlaw11_awake) (
          .br (r17) (
           let x18 : Bool := decide (((y16.length : Nat) : Int) = ((y15.length : Nat) : Int))
           .leaf x18) (
           .leaf false)) .fail) (
         let y19 : Bool := r14.1.1
         .leaf y19)) .fail) .fail) .fail) .fail) .fail) .fail
def armplanlaw11_KinematicsQuarters (a0 : List (Int)) (a1 : List (Int)) : Bool := (t_armplanlaw11_KinematicsQuarters a0 a1).val
def dom_armplanlaw11_KinematicsQuarters (a0 : List (Int)) (a1 : List (Int)) : Bool := (t_armplanlaw11_KinematicsQuarters a0 a1).dom
theorem run_armplanlaw11_KinematicsQuarters : ∀ x, runF (mkC itys ieqs [(42, hd_armplanmake_Scene), (44, hd_armplanlaw11_awake), (53, hd_kinematics_Links), (55, hd_armplanref10_Box)] [(15, Try.f15), (54, Try.f54)] (lpOne 54 0 (loopLH loop_armplanlaw11_KinematicsQuarters_armplanmake_Config_L0 0) (lpOne 14 0 (loopLH loop_armplanlaw11_KinematicsQuarters_L0 0) (lpOne 14 2 (loopLH loop_armplanlaw11_KinematicsQuarters_L2 2) noLoops)))) 200 14 Try.f14 (argsA [.list (.int .i64), .list (.int .i64)] x) [] (fun v h => toRes h [.bool] v) = (t_armplanlaw11_KinematicsQuarters x.1 x.2.1).optA (fun r => (r, ())) := by
  intro x; kernel_rfl
theorem fn_armplanlaw11_KinematicsQuarters : FnOk Try.prog 14 [.list (.int .i64), .list (.int .i64)] [.bool] (fun x => bif dom_armplanlaw11_KinematicsQuarters x.1 x.2.1 then some ((fun r => (r, ())) (armplanlaw11_KinematicsQuarters x.1 x.2.1)) else none) :=
  fn_part (t := fun (x : Ar [.list (.int .i64), .list (.int .i64)]) => t_armplanlaw11_KinematicsQuarters x.1 x.2.1) (R := Bool) (Ts := [.bool]) (mk := (fun r => (r, ()))) (mkC_ok itys_ok ieqs_ok (fns_cons ok_armplanmake_Scene (fns_cons ok_armplanlaw11_awake (fns_cons ok_kinematics_Links (fns_cons ok_armplanref10_Box (fns_nil _))))) (inl_cons Try.func15 (by kernel_rfl) (inl_cons Try.func54 (by kernel_rfl) (inl_nil _))) (lpOne_ok (b := loopBody 0 (Try.f54.body.getD .skip)) Try.func54 (by kernel_rfl) lok_armplanlaw11_KinematicsQuarters_armplanmake_Config_L0 (lpOne_ok (b := loopBody 0 (Try.f14.body.getD .skip)) Try.func14 (by kernel_rfl) lok_armplanlaw11_KinematicsQuarters_L0 (lpOne_ok (b := loopBody 2 (Try.f14.body.getD .skip)) Try.func14 (by kernel_rfl) lok_armplanlaw11_KinematicsQuarters_L2 noLoops_ok))) mixed) Try.func14 run_armplanlaw11_KinematicsQuarters
end Go.RX

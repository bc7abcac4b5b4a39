/-
  The contracts of functions.
-/
import Derived.Test.YtleejiihlldflaaGreatG4
namespace Go.RX
open Go.Proofs

def htys : List (Nat × TRow) := [(3, ⟨.int .i64, 1, 8, [.int .i64 0], .int .i64⟩),
  (22, ⟨.slice 69, 1, 24, [.slice none 0 0], .list (TJoint)⟩),
  (25, ⟨.struct [(0, 1), (1, 1)], 2, 48, [.slice none 0 0, .slice none 0 0], TRobot⟩),
  (31, ⟨.slice 46, 1, 24, [.slice none 0 0], .list (.pair (.int .i64) (.int .i64))⟩),
  (46, ⟨.struct [(0, 1), (1, 1)], 2, 16, [.int .i64 0, .int .i64 0], .pair (.int .i64) (.int .i64)⟩),
  (69, ⟨.struct [(0, 1), (1, 1), (2, 1), (3, 3), (6, 1), (7, 1), (8, 1), (9, 1), (10, 1), (11, 1)], 12, 104, [.string (ByteArray.mk #[]), .int .i64 0, .int .i64 0, .int .i64 0, .int .i64 0, .int .i64 0, .int .i64 0, .int .i64 0, .int .i64 0, .int .i64 0, .int .i64 0, .int .i64 0], TJoint⟩),
  (92, ⟨.struct [(0, 18), (18, 6)], 24, 192, [.int .i64 0, .int .i64 0, .int .i64 0, .int .i64 0, .int .i64 0, .int .i64 0, .int .i64 0, .int .i64 0, .int .i64 0, .int .i64 0, .int .i64 0, .int .i64 0, .int .i64 0, .int .i64 0, .int .i64 0, .int .i64 0, .int .i64 0, .int .i64 0, .int .i64 0, .int .i64 0, .int .i64 0, .int .i64 0, .int .i64 0, .int .i64 0], TPose⟩),
  (93, ⟨.slice 92, 1, 24, [.slice none 0 0], .list (TPose)⟩),
  (124, ⟨.struct [(0, 2), (2, 1), (3, 1)], 4, 96, [.slice none 0 0, .slice none 0 0, .slice none 0 0, .slice none 0 0], TTree⟩)]
def heqs : List (Nat × (Bool × List TK)) := []
theorem htys_ok : tableOk Tryz.prog htys = true := by kernel_rfl
theorem heqs_ok : eqsOk Tryz.prog heqs = true := by kernel_rfl

/- armplan/kinematics.isBox$1 -/
def t_kinematics_isBox_1 (a0 : (Int × Int)) : Tr Bool :=
  let r1 : Bool := interval_Valid a0
  .leaf (!r1)
def kinematics_isBox_1 (a0 : (Int × Int)) : Bool := (t_kinematics_isBox_1 a0).val
theorem run_kinematics_isBox_1 : ∀ x, runF (mkC htys heqs [(100, hd_interval_Valid)] [] noLoops) 200 99 Tryz.f99 (argsA [.pair (.int .i64) (.int .i64)] x) [] (fun v h => toRes h [.bool] v) = (t_kinematics_isBox_1 x.1).optA (fun r => (r, ())) := by
  intro x; kernel_rfl
theorem fn_kinematics_isBox_1 : FnOk Tryz.prog 99 [.pair (.int .i64) (.int .i64)] [.bool] (fun x => some ((fun r => (r, ())) (kinematics_isBox_1 x.1))) :=
  fn_tot (t := fun (x : Ar [.pair (.int .i64) (.int .i64)]) => t_kinematics_isBox_1 x.1) (R := Bool) (Ts := [.bool]) (mk := (fun r => (r, ()))) (mkC_ok htys_ok heqs_ok (fns_cons ok_interval_Valid (fns_nil _)) (inl_nil _) noLoops_ok mixed) Tryz.func99 run_kinematics_isBox_1 (fun _ => by kernel_rfl)
def hd_kinematics_isBox_1 : Hd := dataHd [.pair (.int .i64) (.int .i64)] [.bool] (fun x => some ((fun r => (r, ())) (kinematics_isBox_1 x.1)))
theorem ok_kinematics_isBox_1 : HdOk Tryz.prog 99 hd_kinematics_isBox_1.sem ∧ Enters Tryz.prog 99 := data_ok fn_kinematics_isBox_1 Tryz.func99 (by kernel_rfl) (by kernel_rfl)

/- loop 0 of slices.IndexFunc[[]armplan/api.Interval,armplan/api.Interval] -/
abbrev ss_kinematics_isBox_slices_IndexFunc___api_Interval_api_Interval__L0 : List Slot := [⟨[0], false, false, [.d (.list (.pair (.int .i64) (.int .i64)))]⟩, ⟨[7], false, false, [.d (.int .i64)]⟩, ⟨[8], false, false, [.d (.int .i64)]⟩]
abbrev os_kinematics_isBox_slices_IndexFunc___api_Interval_api_Interval__L0 : List (Exit × List Slot) := [(.exit 0, []), (.ret, [⟨[4], false, false, [.d (.int .i64)]⟩])]
def t_kinematics_isBox_slices_IndexFunc___api_Interval_api_Interval__L0 (a0 : List ((Int × Int))) (a1 : Int) (a2 : Int) : Tr (Sl ss_kinematics_isBox_slices_IndexFunc___api_Interval_api_Interval__L0 ⊕ Outs os_kinematics_isBox_slices_IndexFunc___api_Interval_api_Interval__L0) :=
  let x1 : Bool := decide (a2 < a1)
  .br (x1) (
   .br (decide (0 ≤ a2) && decide (a2 < ((a0.length : Nat) : Int))) (
    let r2 : Bool := kinematics_isBox_1 (List.getD a0 a2.toNat (Ty.dflt (.pair (.int .i64) (.int .i64))))
    .br (r2) (
     .leaf (.inr (.inr ((a2, ()), ())))) (
     let x3 : Int := IntKind.wrap .i64 (a2 + 1)
     .leaf (.inl ((a0, ()), (a1, ()), (x3, ()), ())))) .fail) (
   .leaf (.inr (.inl ())))
def step_kinematics_isBox_slices_IndexFunc___api_Interval_api_Interval__L0 : Sl ss_kinematics_isBox_slices_IndexFunc___api_Interval_api_Interval__L0 → Option (Sl ss_kinematics_isBox_slices_IndexFunc___api_Interval_api_Interval__L0 ⊕ Outs os_kinematics_isBox_slices_IndexFunc___api_Interval_api_Interval__L0) := fun x => (t_kinematics_isBox_slices_IndexFunc___api_Interval_api_Interval__L0 x.1.1 x.2.1.1 x.2.2.1.1).optA id
theorem run_kinematics_isBox_slices_IndexFunc___api_Interval_api_Interval__L0 : ∀ (x : Sl ss_kinematics_isBox_slices_IndexFunc___api_Interval_api_Interval__L0) (vs : Nat → Value), run (mkC htys heqs [(99, hd_kinematics_isBox_1)] [] noLoops) 200 110 (loopBody 0 (Tryz.f110.body.getD .skip)) (mkSt ss_kinematics_isBox_slices_IndexFunc___api_Interval_api_Interval__L0 x (baseT 19 [1] [(1, ⟨99, [], []⟩)] vs)) (endK ss_kinematics_isBox_slices_IndexFunc___api_Interval_api_Interval__L0 os_kinematics_isBox_slices_IndexFunc___api_Interval_api_Interval__L0 19 [1]) = (t_kinematics_isBox_slices_IndexFunc___api_Interval_api_Interval__L0 x.1.1 x.2.1.1 x.2.2.1.1).optA fun r => (r, [1].map (keptA [(1, ⟨99, [], []⟩)] vs)) := by
  intro x vs; kernel_rfl
instance inh_kinematics_isBox_slices_IndexFunc___api_Interval_api_Interval__L0 : Inhabited (Outs os_kinematics_isBox_slices_IndexFunc___api_Interval_api_Interval__L0) := ⟨outsDflt os_kinematics_isBox_slices_IndexFunc___api_Interval_api_Interval__L0⟩
def dom_kinematics_isBox_slices_IndexFunc___api_Interval_api_Interval__L0 (x : Sl ss_kinematics_isBox_slices_IndexFunc___api_Interval_api_Interval__L0) : Bool := (loopN step_kinematics_isBox_slices_IndexFunc___api_Interval_api_Interval__L0 rounds x).isSome
def val_kinematics_isBox_slices_IndexFunc___api_Interval_api_Interval__L0 (x : Sl ss_kinematics_isBox_slices_IndexFunc___api_Interval_api_Interval__L0) : Outs os_kinematics_isBox_slices_IndexFunc___api_Interval_api_Interval__L0 := (loopN step_kinematics_isBox_slices_IndexFunc___api_Interval_api_Interval__L0 rounds x).getD default
def loop_kinematics_isBox_slices_IndexFunc___api_Interval_api_Interval__L0 : LoopD := mkLoop ss_kinematics_isBox_slices_IndexFunc___api_Interval_api_Interval__L0 os_kinematics_isBox_slices_IndexFunc___api_Interval_api_Interval__L0 19 [1] [(1, ⟨99, [], []⟩)] step_kinematics_isBox_slices_IndexFunc___api_Interval_api_Interval__L0 dom_kinematics_isBox_slices_IndexFunc___api_Interval_api_Interval__L0 val_kinematics_isBox_slices_IndexFunc___api_Interval_api_Interval__L0 (loop_hv step_kinematics_isBox_slices_IndexFunc___api_Interval_api_Interval__L0)
theorem lok_kinematics_isBox_slices_IndexFunc___api_Interval_api_Interval__L0 : LoopOk Tryz.prog (loopLH loop_kinematics_isBox_slices_IndexFunc___api_Interval_api_Interval__L0 0) 0 (.loop (loopBody 0 (Tryz.f110.body.getD .skip))) := loop_in (D := loop_kinematics_isBox_slices_IndexFunc___api_Interval_api_Interval__L0) (n := 200) (cur := 110) (mkC_ok htys_ok heqs_ok (fns_cons ok_kinematics_isBox_1 (fns_nil _)) (inl_nil _) noLoops_ok mixed) Tryz.func110 (by kernel_rfl) (turns_of run_kinematics_isBox_slices_IndexFunc___api_Interval_api_Interval__L0) (by kernel_rfl) (by kernel_rfl) (by kernel_rfl)

/- armplan/kinematics.isBox -/
def t_kinematics_isBox (a0 : DRobot) (a1 : List ((Int × Int))) : Tr Bool :=
  let x1 : Bool := decide (((a1.length : Nat) : Int) = ((a0.1.length : Nat) : Int))
  .br (x1) (
   let r2 : Outs os_kinematics_isBox_slices_IndexFunc___api_Interval_api_Interval__L0 := val_kinematics_isBox_slices_IndexFunc___api_Interval_api_Interval__L0 ((a1, ()), (((a1.length : Nat) : Int), ()), (0, ()), ())
   .br (dom_kinematics_isBox_slices_IndexFunc___api_Interval_api_Interval__L0 ((a1, ()), (((a1.length : Nat) : Int), ()), (0, ()), ())) (
    let r3 := getL r2
    let r4 := getR r2
    .br (isL r2) (
     .leaf true) (
     let y5 : Int := r4.1.1
     let x6 : Bool := decide (0 ≤ y5)
     .leaf (!x6))) .fail) (
   .leaf false)
def kinematics_isBox (a0 : DRobot) (a1 : List ((Int × Int))) : Bool := (t_kinematics_isBox a0 a1).val
def dom_kinematics_isBox (a0 : DRobot) (a1 : List ((Int × Int))) : Bool := (t_kinematics_isBox a0 a1).dom
theorem run_kinematics_isBox : ∀ x, runF (mkC htys heqs [] [(98, Tryz.f98), (110, Tryz.f110)] (lpOne 110 0 (loopLH loop_kinematics_isBox_slices_IndexFunc___api_Interval_api_Interval__L0 0) noLoops)) 200 72 Tryz.f72 (argsA [TRobot, .list (.pair (.int .i64) (.int .i64))] x) [] (fun v h => toRes h [.bool] v) = (t_kinematics_isBox x.1 x.2.1).optA (fun r => (r, ())) := by
  intro x; kernel_rfl
theorem fn_kinematics_isBox : FnOk Tryz.prog 72 [TRobot, .list (.pair (.int .i64) (.int .i64))] [.bool] (fun x => bif dom_kinematics_isBox x.1 x.2.1 then some ((fun r => (r, ())) (kinematics_isBox x.1 x.2.1)) else none) :=
  fn_part (t := fun (x : Ar [TRobot, .list (.pair (.int .i64) (.int .i64))]) => t_kinematics_isBox x.1 x.2.1) (R := Bool) (Ts := [.bool]) (mk := (fun r => (r, ()))) (mkC_ok htys_ok heqs_ok (fns_nil _) (inl_cons Tryz.func98 (by kernel_rfl) (inl_cons Tryz.func110 (by kernel_rfl) (inl_nil _))) (lpOne_ok (b := loopBody 0 (Tryz.f110.body.getD .skip)) Tryz.func110 (by kernel_rfl) lok_kinematics_isBox_slices_IndexFunc___api_Interval_api_Interval__L0 noLoops_ok) mixed) Tryz.func72 run_kinematics_isBox
def hd_kinematics_isBox : Hd := guardHd [TRobot, .list (.pair (.int .i64) (.int .i64))] [.bool] (fun x => dom_kinematics_isBox x.1 x.2.1) (fun x => (fun r => (r, ())) (kinematics_isBox x.1 x.2.1))
theorem ok_kinematics_isBox : HdOk Tryz.prog 72 hd_kinematics_isBox.sem ∧ Enters Tryz.prog 72 := guard_ok fn_kinematics_isBox Tryz.func72 (by kernel_rfl) (by kernel_rfl)

/- (*armplan/kinematics.tree).add -/
def t_kinematics_tree_add (a0 : DRobot) (a1 : List ((Int × Int))) (a2 : List (DPose)) : Tr (DRobot × List ((Int × Int)) × List (DPose)) :=
  .br (decide (0 ≤ ((a2.length : Nat) : Int)) && decide (((a2.length : Nat) : Int) < ((a0.1.length : Nat) : Int))) (
   .br (decide (0 ≤ ((a2.length : Nat) : Int)) && decide (((a2.length : Nat) : Int) < ((a1.length : Nat) : Int))) (
    let r1 : DPose := kinematics_Joint (List.getD a0.1 (((a2.length : Nat) : Int)).toNat (Ty.dflt (TJoint))) (List.getD a1 (((a2.length : Nat) : Int)).toNat (Ty.dflt (.pair (.int .i64) (.int .i64))))
    .br (dom_kinematics_Joint (List.getD a0.1 (((a2.length : Nat) : Int)).toNat (Ty.dflt (TJoint))) (List.getD a1 (((a2.length : Nat) : Int)).toNat (Ty.dflt (.pair (.int .i64) (.int .i64))))) (
     let x2 : Bool := !decide (((((List.getD a0.1 (((a2.length : Nat) : Int)).toNat (Ty.dflt (TJoint)))).2).2).1 = (-1))
     .br (x2) (
      .br (decide (0 ≤ ((((List.getD a0.1 (((a2.length : Nat) : Int)).toNat (Ty.dflt (TJoint)))).2).2).1) && decide (((((List.getD a0.1 (((a2.length : Nat) : Int)).toNat (Ty.dflt (TJoint)))).2).2).1 < ((a2.length : Nat) : Int))) (
       let r3 : DPose := pose_Compose (List.getD a2 (((((List.getD a0.1 (((a2.length : Nat) : Int)).toNat (Ty.dflt (TJoint)))).2).2).1).toNat (Ty.dflt (TPose))) r1
       .br (room (a2.length + [r3].length)) (
        .leaf (a0, a1, (a2 ++ [r3]))) .fail) .fail) (
      .br (room (a2.length + [r1].length)) (
       .leaf (a0, a1, (a2 ++ [r1]))) .fail)) .fail) .fail) .fail
def kinematics_tree_add (a0 : DRobot) (a1 : List ((Int × Int))) (a2 : List (DPose)) : (DRobot × List ((Int × Int)) × List (DPose)) := (t_kinematics_tree_add a0 a1 a2).val
def dom_kinematics_tree_add (a0 : DRobot) (a1 : List ((Int × Int))) (a2 : List (DPose)) : Bool := (t_kinematics_tree_add a0 a1 a2).dom
theorem run_kinematics_tree_add : ∀ x, runF (mkC htys heqs [(101, hd_kinematics_Joint), (102, hd_pose_Compose)] [] noLoops) 200 73 Tryz.f73 (mkT id [⟨[0], true, false, [.d (TRobot), .d (.list (.pair (.int .i64) (.int .i64))), .v 92 (TPose)]⟩] x 0 (List.replicate 1 .top)) (mkH id [⟨[0], true, false, [.d (TRobot), .d (.list (.pair (.int .i64) (.int .i64))), .v 92 (TPose)]⟩] x 0) (endS [] [⟨[], true, false, [.d (TRobot), .d (.list (.pair (.int .i64) (.int .i64))), .v 92 (TPose)]⟩]) = (t_kinematics_tree_add x.1.1 x.1.2.1 x.1.2.2.1).optA (fun (r : (DRobot × List ((Int × Int)) × List (DPose))) => ((), ((r.1, r.2.1, r.2.2, ()), ()))) := by
  intro x; kernel_rfl
def hd_kinematics_tree_add : Hd := hdS 1 [⟨[0], true, false, [.d (TRobot), .d (.list (.pair (.int .i64) (.int .i64))), .v 92 (TPose)]⟩] [⟨[], true, false, [.d (TRobot), .d (.list (.pair (.int .i64) (.int .i64))), .v 92 (TPose)]⟩] [] (fun x => dom_kinematics_tree_add x.1.1 x.1.2.1 x.1.2.2.1) (fun x => (fun (r : (DRobot × List ((Int × Int)) × List (DPose))) => ((), ((r.1, r.2.1, r.2.2, ()), ()))) (kinematics_tree_add x.1.1 x.1.2.1 x.1.2.2.1)) (by kernel_rfl)
theorem fn_kinematics_tree_add : FnS Tryz.prog 73 1 [⟨[0], true, false, [.d (TRobot), .d (.list (.pair (.int .i64) (.int .i64))), .v 92 (TPose)]⟩] [⟨[], true, false, [.d (TRobot), .d (.list (.pair (.int .i64) (.int .i64))), .v 92 (TPose)]⟩] [] (fun x => bif (fun x => dom_kinematics_tree_add x.1.1 x.1.2.1 x.1.2.2.1) x then some ((fun x => (fun (r : (DRobot × List ((Int × Int)) × List (DPose))) => ((), ((r.1, r.2.1, r.2.2, ()), ()))) (kinematics_tree_add x.1.1 x.1.2.1 x.1.2.2.1)) x) else none) :=
  fnS_tree (np := 1) (ss := [⟨[0], true, false, [.d (TRobot), .d (.list (.pair (.int .i64) (.int .i64))), .v 92 (TPose)]⟩]) (ss1 := [⟨[], true, false, [.d (TRobot), .d (.list (.pair (.int .i64) (.int .i64))), .v 92 (TPose)]⟩]) (Ts := []) (R := (DRobot × List ((Int × Int)) × List (DPose))) (dom := fun x => dom_kinematics_tree_add x.1.1 x.1.2.1 x.1.2.2.1) (t := fun (x : Sl [⟨[0], true, false, [.d (TRobot), .d (.list (.pair (.int .i64) (.int .i64))), .v 92 (TPose)]⟩]) => t_kinematics_tree_add x.1.1 x.1.2.1 x.1.2.2.1) (mk := (fun (r : (DRobot × List ((Int × Int)) × List (DPose))) => ((), ((r.1, r.2.1, r.2.2, ()), ())))) (mkC_ok htys_ok heqs_ok (fns_cons ok_kinematics_Joint (fns_cons ok_pose_Compose (fns_nil _))) (inl_nil _) noLoops_ok mixed) Tryz.func73 (by kernel_rfl) run_kinematics_tree_add (fun _ => .inr rfl)
theorem ok_kinematics_tree_add : HdOk Tryz.prog 73 hd_kinematics_tree_add.sem ∧ Enters Tryz.prog 73 := ⟨hdS_ok (by kernel_rfl) fn_kinematics_tree_add, _, Tryz.func73, by kernel_rfl, by kernel_rfl⟩

/- loop 0 of armplan/kinematics.Links -/
abbrev ss_kinematics_Links_L0 : List Slot := [⟨[5], true, false, [.d (TRobot), .d (.list (.pair (.int .i64) (.int .i64))), .v 92 (TPose)]⟩, ⟨[22], false, false, [.d (.int .i64)]⟩, ⟨[23], false, false, [.d (.int .i64)]⟩]
abbrev os_kinematics_Links_L0 : List (Exit × List Slot) := [(.exit 0, [⟨[5], true, false, [.d (TRobot), .d (.list (.pair (.int .i64) (.int .i64))), .v 92 (TPose)]⟩])]
def t_kinematics_Links_L0 (a0 : DRobot) (a1 : List ((Int × Int))) (a2 : List (DPose)) (a3 : Int) (a4 : Int) : Tr (Sl ss_kinematics_Links_L0 ⊕ Outs os_kinematics_Links_L0) :=
  let x1 : Bool := decide (a4 < a3)
  .br (x1) (
   let r2 : (DRobot × List ((Int × Int)) × List (DPose)) := kinematics_tree_add a0 a1 a2
   .br (dom_kinematics_tree_add a0 a1 a2) (
    let x3 : Int := IntKind.wrap .i64 (a4 + 1)
    .leaf (.inl ((r2.1, r2.2.1, r2.2.2, ()), (a3, ()), (x3, ()), ()))) .fail) (
   .leaf (.inr ((a0, a1, a2, ()), ())))
def step_kinematics_Links_L0 : Sl ss_kinematics_Links_L0 → Option (Sl ss_kinematics_Links_L0 ⊕ Outs os_kinematics_Links_L0) := fun x => (t_kinematics_Links_L0 x.1.1 x.1.2.1 x.1.2.2.1 x.2.1.1 x.2.2.1.1).optA id
theorem run_kinematics_Links_L0 : ∀ (x : Sl ss_kinematics_Links_L0) (vs : Nat → Value), run (mkC htys heqs [(73, hd_kinematics_tree_add)] [] noLoops) 200 45 (loopBody 0 (Tryz.f45.body.getD .skip)) (mkSt ss_kinematics_Links_L0 x (baseT 30 [6] [(6, ⟨73, [0], []⟩)] vs)) (endK ss_kinematics_Links_L0 os_kinematics_Links_L0 30 [6]) = (t_kinematics_Links_L0 x.1.1 x.1.2.1 x.1.2.2.1 x.2.1.1 x.2.2.1.1).optA fun r => (r, [6].map (keptA [(6, ⟨73, [0], []⟩)] vs)) := by
  intro x vs; kernel_rfl
instance inh_kinematics_Links_L0 : Inhabited (Outs os_kinematics_Links_L0) := ⟨outsDflt os_kinematics_Links_L0⟩
def dom_kinematics_Links_L0 (x : Sl ss_kinematics_Links_L0) : Bool := (loopN step_kinematics_Links_L0 rounds x).isSome
def val_kinematics_Links_L0 (x : Sl ss_kinematics_Links_L0) : Outs os_kinematics_Links_L0 := (loopN step_kinematics_Links_L0 rounds x).getD default
def loop_kinematics_Links_L0 : LoopD := mkLoop ss_kinematics_Links_L0 os_kinematics_Links_L0 30 [6] [(6, ⟨73, [0], []⟩)] step_kinematics_Links_L0 dom_kinematics_Links_L0 val_kinematics_Links_L0 (loop_hv step_kinematics_Links_L0)
theorem lok_kinematics_Links_L0 : LoopOk Tryz.prog (loopLH loop_kinematics_Links_L0 0) 0 (.loop (loopBody 0 (Tryz.f45.body.getD .skip))) := loop_in (D := loop_kinematics_Links_L0) (n := 200) (cur := 45) (mkC_ok htys_ok heqs_ok (fns_cons ok_kinematics_tree_add (fns_nil _)) (inl_nil _) noLoops_ok mixed) Tryz.func45 (by kernel_rfl) (turns_of run_kinematics_Links_L0) (by kernel_rfl) (by kernel_rfl) (by kernel_rfl)

/- armplan/kinematics.Links -/
def t_kinematics_Links (a0 : DRobot) (a1 : List ((Int × Int))) : Tr (List (DPose)) :=
  let r1 : Int := robot_Check a0
  .br (dom_robot_Check a0) (
   let x2 : Bool := !decide (r1 = 0)
   .br (x2) (
    .leaf []) (
    let r3 : Bool := kinematics_isBox a0 a1
    .br (dom_kinematics_isBox a0 a1) (
     .br ((!r3)) (
      .leaf []) (
      let r4 : Outs os_kinematics_Links_L0 := val_kinematics_Links_L0 ((a0, a1, [], ()), (((a0.1.length : Nat) : Int), ()), (0, ()), ())
      .br (dom_kinematics_Links_L0 ((a0, a1, [], ()), (((a0.1.length : Nat) : Int), ()), (0, ()), ())) (
       let y5 : DRobot := r4.1.1
       let y6 : List ((Int × Int)) := r4.1.2.1
       let y7 : List (DPose) := r4.1.2.2.1
       .leaf y7) .fail)) .fail)) .fail
def kinematics_Links (a0 : DRobot) (a1 : List ((Int × Int))) : List (DPose) := (t_kinematics_Links a0 a1).val
def dom_kinematics_Links (a0 : DRobot) (a1 : List ((Int × Int))) : Bool := (t_kinematics_Links a0 a1).dom
theorem run_kinematics_Links : ∀ x, runF (mkC htys heqs [(21, hd_robot_Check), (72, hd_kinematics_isBox)] [] (lpOne 45 0 (loopLH loop_kinematics_Links_L0 0) noLoops)) 200 45 Tryz.f45 (argsA [TRobot, .list (.pair (.int .i64) (.int .i64))] x) [] (fun v h => toRes h [.list (TPose)] v) = (t_kinematics_Links x.1 x.2.1).optA (fun r => (r, ())) := by
  intro x; kernel_rfl
theorem fn_kinematics_Links : FnOk Tryz.prog 45 [TRobot, .list (.pair (.int .i64) (.int .i64))] [.list (TPose)] (fun x => bif dom_kinematics_Links x.1 x.2.1 then some ((fun r => (r, ())) (kinematics_Links x.1 x.2.1)) else none) :=
  fn_part (t := fun (x : Ar [TRobot, .list (.pair (.int .i64) (.int .i64))]) => t_kinematics_Links x.1 x.2.1) (R := List (DPose)) (Ts := [.list (TPose)]) (mk := (fun r => (r, ()))) (mkC_ok htys_ok heqs_ok (fns_cons ok_robot_Check (fns_cons ok_kinematics_isBox (fns_nil _))) (inl_nil _) (lpOne_ok (b := loopBody 0 (Tryz.f45.body.getD .skip)) Tryz.func45 (by kernel_rfl) lok_kinematics_Links_L0 noLoops_ok) mixed) Tryz.func45 run_kinematics_Links
def hd_kinematics_Links : Hd := guardHd [TRobot, .list (.pair (.int .i64) (.int .i64))] [.list (TPose)] (fun x => dom_kinematics_Links x.1 x.2.1) (fun x => (fun r => (r, ())) (kinematics_Links x.1 x.2.1))
theorem ok_kinematics_Links : HdOk Tryz.prog 45 hd_kinematics_Links.sem ∧ Enters Tryz.prog 45 := guard_ok fn_kinematics_Links Tryz.func45 (by kernel_rfl) (by kernel_rfl)

/- loop 0 of armplan/armplanref10.allValid -/
abbrev ss_armplanref10_allValid_L0 : List Slot := [⟨[0], false, false, [.d (.list (.pair (.int .i64) (.int .i64)))]⟩, ⟨[3], false, false, [.d (.int .i64)]⟩]
abbrev os_armplanref10_allValid_L0 : List (Exit × List Slot) := [(.exit 0, []), (.ret, [⟨[2], false, false, [.d (.bool)]⟩])]
def t_armplanref10_allValid_L0 (a0 : List ((Int × Int))) (a1 : Int) : Tr (Sl ss_armplanref10_allValid_L0 ⊕ Outs os_armplanref10_allValid_L0) :=
  let x1 : Bool := decide (a1 < ((a0.length : Nat) : Int))
  .br (x1) (
   .br (decide (0 ≤ a1) && decide (a1 < ((a0.length : Nat) : Int))) (
    let r2 : Bool := armplanref1_Valid (List.getD a0 a1.toNat (Ty.dflt (.pair (.int .i64) (.int .i64))))
    .br ((!r2)) (
     .leaf (.inr (.inr ((false, ()), ())))) (
     let x3 : Int := IntKind.wrap .i64 (a1 + 1)
     .leaf (.inl ((a0, ()), (x3, ()), ())))) .fail) (
   .leaf (.inr (.inl ())))
def step_armplanref10_allValid_L0 : Sl ss_armplanref10_allValid_L0 → Option (Sl ss_armplanref10_allValid_L0 ⊕ Outs os_armplanref10_allValid_L0) := fun x => (t_armplanref10_allValid_L0 x.1.1 x.2.1.1).optA id
theorem run_armplanref10_allValid_L0 : ∀ (x : Sl ss_armplanref10_allValid_L0) (vs : Nat → Value), run (mkC htys heqs [(93, hd_armplanref1_Valid)] [] noLoops) 200 86 (loopBody 0 (Tryz.f86.body.getD .skip)) (mkSt ss_armplanref10_allValid_L0 x (baseT 16 [] [] vs)) (endK ss_armplanref10_allValid_L0 os_armplanref10_allValid_L0 16 []) = (t_armplanref10_allValid_L0 x.1.1 x.2.1.1).optA fun r => (r, [].map (keptA [] vs)) := by
  intro x vs; kernel_rfl
instance inh_armplanref10_allValid_L0 : Inhabited (Outs os_armplanref10_allValid_L0) := ⟨outsDflt os_armplanref10_allValid_L0⟩
def dom_armplanref10_allValid_L0 (x : Sl ss_armplanref10_allValid_L0) : Bool := (loopN step_armplanref10_allValid_L0 rounds x).isSome
def val_armplanref10_allValid_L0 (x : Sl ss_armplanref10_allValid_L0) : Outs os_armplanref10_allValid_L0 := (loopN step_armplanref10_allValid_L0 rounds x).getD default
def loop_armplanref10_allValid_L0 : LoopD := mkLoop ss_armplanref10_allValid_L0 os_armplanref10_allValid_L0 16 [] [] step_armplanref10_allValid_L0 dom_armplanref10_allValid_L0 val_armplanref10_allValid_L0 (loop_hv step_armplanref10_allValid_L0)
theorem lok_armplanref10_allValid_L0 : LoopOk Tryz.prog (loopLH loop_armplanref10_allValid_L0 0) 0 (.loop (loopBody 0 (Tryz.f86.body.getD .skip))) := loop_in (D := loop_armplanref10_allValid_L0) (n := 200) (cur := 86) (mkC_ok htys_ok heqs_ok (fns_cons ok_armplanref1_Valid (fns_nil _)) (inl_nil _) noLoops_ok mixed) Tryz.func86 (by kernel_rfl) (turns_of run_armplanref10_allValid_L0) (by kernel_rfl) (by kernel_rfl) (by kernel_rfl)

/- armplan/armplanref10.allValid -/
def t_armplanref10_allValid (a0 : List ((Int × Int))) : Tr Bool :=
  let r1 : Outs os_armplanref10_allValid_L0 := val_armplanref10_allValid_L0 ((a0, ()), (0, ()), ())
  .br (dom_armplanref10_allValid_L0 ((a0, ()), (0, ()), ())) (
   let r2 := getL r1
   let r3 := getR r1
   .br (isL r1) (
    .leaf true) (
    let y4 : Bool := r3.1.1
    .leaf y4)) .fail
def armplanref10_allValid (a0 : List ((Int × Int))) : Bool := (t_armplanref10_allValid a0).val
def dom_armplanref10_allValid (a0 : List ((Int × Int))) : Bool := (t_armplanref10_allValid a0).dom
theorem run_armplanref10_allValid : ∀ x, runF (mkC htys heqs [] [] (lpOne 86 0 (loopLH loop_armplanref10_allValid_L0 0) noLoops)) 200 86 Tryz.f86 (argsA [.list (.pair (.int .i64) (.int .i64))] x) [] (fun v h => toRes h [.bool] v) = (t_armplanref10_allValid x.1).optA (fun r => (r, ())) := by
  intro x; kernel_rfl
theorem fn_armplanref10_allValid : FnOk Tryz.prog 86 [.list (.pair (.int .i64) (.int .i64))] [.bool] (fun x => bif dom_armplanref10_allValid x.1 then some ((fun r => (r, ())) (armplanref10_allValid x.1)) else none) :=
  fn_part (t := fun (x : Ar [.list (.pair (.int .i64) (.int .i64))]) => t_armplanref10_allValid x.1) (R := Bool) (Ts := [.bool]) (mk := (fun r => (r, ()))) (mkC_ok htys_ok heqs_ok (fns_nil _) (inl_nil _) (lpOne_ok (b := loopBody 0 (Tryz.f86.body.getD .skip)) Tryz.func86 (by kernel_rfl) lok_armplanref10_allValid_L0 noLoops_ok) mixed) Tryz.func86 run_armplanref10_allValid
def hd_armplanref10_allValid : Hd := guardHd [.list (.pair (.int .i64) (.int .i64))] [.bool] (fun x => dom_armplanref10_allValid x.1) (fun x => (fun r => (r, ())) (armplanref10_allValid x.1))
theorem ok_armplanref10_allValid : HdOk Tryz.prog 86 hd_armplanref10_allValid.sem ∧ Enters Tryz.prog 86 := guard_ok fn_armplanref10_allValid Tryz.func86 (by kernel_rfl) (by kernel_rfl)

/- armplan/armplanref10.IsBox -/
def t_armplanref10_IsBox (a0 : DRobot) (a1 : List ((Int × Int))) : Tr Bool :=
  let x1 : Bool := decide (((a1.length : Nat) : Int) = ((a0.1.length : Nat) : Int))
  .br (x1) (
   let r2 : Bool := armplanref10_allValid a1
   .br (dom_armplanref10_allValid a1) (
    .leaf r2) .fail) (
   .leaf false)
def armplanref10_IsBox (a0 : DRobot) (a1 : List ((Int × Int))) : Bool := (t_armplanref10_IsBox a0 a1).val
def dom_armplanref10_IsBox (a0 : DRobot) (a1 : List ((Int × Int))) : Bool := (t_armplanref10_IsBox a0 a1).dom
theorem run_armplanref10_IsBox : ∀ x, runF (mkC htys heqs [(86, hd_armplanref10_allValid)] [] noLoops) 200 60 Tryz.f60 (argsA [TRobot, .list (.pair (.int .i64) (.int .i64))] x) [] (fun v h => toRes h [.bool] v) = (t_armplanref10_IsBox x.1 x.2.1).optA (fun r => (r, ())) := by
  intro x; kernel_rfl
theorem fn_armplanref10_IsBox : FnOk Tryz.prog 60 [TRobot, .list (.pair (.int .i64) (.int .i64))] [.bool] (fun x => bif dom_armplanref10_IsBox x.1 x.2.1 then some ((fun r => (r, ())) (armplanref10_IsBox x.1 x.2.1)) else none) :=
  fn_part (t := fun (x : Ar [TRobot, .list (.pair (.int .i64) (.int .i64))]) => t_armplanref10_IsBox x.1 x.2.1) (R := Bool) (Ts := [.bool]) (mk := (fun r => (r, ()))) (mkC_ok htys_ok heqs_ok (fns_cons ok_armplanref10_allValid (fns_nil _)) (inl_nil _) noLoops_ok mixed) Tryz.func60 run_armplanref10_IsBox
def hd_armplanref10_IsBox : Hd := guardHd [TRobot, .list (.pair (.int .i64) (.int .i64))] [.bool] (fun x => dom_armplanref10_IsBox x.1 x.2.1) (fun x => (fun r => (r, ())) (armplanref10_IsBox x.1 x.2.1))
theorem ok_armplanref10_IsBox : HdOk Tryz.prog 60 hd_armplanref10_IsBox.sem ∧ Enters Tryz.prog 60 := guard_ok fn_armplanref10_IsBox Tryz.func60 (by kernel_rfl) (by kernel_rfl)

/- loop 0 of armplan/armplanref10.Links -/
abbrev ss_armplanref10_Links_L0 : List Slot := [⟨[2], true, false, [.d (TRobot)]⟩, ⟨[1], false, false, [.d (.list (.pair (.int .i64) (.int .i64)))]⟩, ⟨[5], false, false, [.v 92 (TPose)]⟩, ⟨[6], false, false, [.d (.int .i64)]⟩]
abbrev os_armplanref10_Links_L0 : List (Exit × List Slot) := [(.exit 0, [⟨[2], true, false, [.d (TRobot)]⟩, ⟨[5], false, false, [.v 92 (TPose)]⟩])]
def t_armplanref10_Links_L0 (a0 : DRobot) (a1 : List ((Int × Int))) (a2 : List (DPose)) (a3 : Int) : Tr (Sl ss_armplanref10_Links_L0 ⊕ Outs os_armplanref10_Links_L0) :=
  let x1 : Bool := decide (a3 < ((a1.length : Nat) : Int))
  .br (x1) (
   .br (decide (0 ≤ a3) && decide (a3 < ((a0.1.length : Nat) : Int))) (
    .br (decide (0 ≤ a3) && decide (a3 < ((a1.length : Nat) : Int))) (
     let r2 : DPose := armplanref10_Joint (List.getD a0.1 a3.toNat (Ty.dflt (TJoint))) (List.getD a1 a3.toNat (Ty.dflt (.pair (.int .i64) (.int .i64))))
     .br (dom_armplanref10_Joint (List.getD a0.1 a3.toNat (Ty.dflt (TJoint))) (List.getD a1 a3.toNat (Ty.dflt (.pair (.int .i64) (.int .i64))))) (
      .br (decide (0 ≤ a3) && decide (a3 < ((a0.1.length : Nat) : Int))) (
       let x3 : Bool := !decide (((((List.getD a0.1 a3.toNat (Ty.dflt (TJoint)))).2).2).1 = (-1))
       .br (x3) (
        .br (decide (0 ≤ a3) && decide (a3 < ((a0.1.length : Nat) : Int))) (
         .br (decide (0 ≤ ((((List.getD a0.1 a3.toNat (Ty.dflt (TJoint)))).2).2).1) && decide (((((List.getD a0.1 a3.toNat (Ty.dflt (TJoint)))).2).2).1 < ((a2.length : Nat) : Int))) (
          let r4 : DPose := armplanref1_Compose (List.getD a2 (((((List.getD a0.1 a3.toNat (Ty.dflt (TJoint)))).2).2).1).toNat (Ty.dflt (TPose))) r2
          .br (room (a2.length + [r4].length)) (
           let x5 : Int := IntKind.wrap .i64 (a3 + 1)
           .leaf (.inl ((a0, ()), (a1, ()), ((a2 ++ [r4]), ()), (x5, ()), ()))) .fail) .fail) .fail) (
        .br (room (a2.length + [r2].length)) (
         let x6 : Int := IntKind.wrap .i64 (a3 + 1)
         .leaf (.inl ((a0, ()), (a1, ()), ((a2 ++ [r2]), ()), (x6, ()), ()))) .fail)) .fail) .fail) .fail) .fail) (
   .leaf (.inr ((a0, ()), (a2, ()), ())))
def step_armplanref10_Links_L0 : Sl ss_armplanref10_Links_L0 → Option (Sl ss_armplanref10_Links_L0 ⊕ Outs os_armplanref10_Links_L0) := fun x => (t_armplanref10_Links_L0 x.1.1 x.2.1.1 x.2.2.1.1 x.2.2.2.1.1).optA id
theorem run_armplanref10_Links_L0 : ∀ (x : Sl ss_armplanref10_Links_L0) (vs : Nat → Value), run (mkC htys heqs [(61, hd_armplanref10_Joint), (62, hd_armplanref1_Compose)] [] noLoops) 200 39 (loopBody 0 (Tryz.f39.body.getD .skip)) (mkSt ss_armplanref10_Links_L0 x (baseT 56 [] [] vs)) (endK ss_armplanref10_Links_L0 os_armplanref10_Links_L0 56 []) = (t_armplanref10_Links_L0 x.1.1 x.2.1.1 x.2.2.1.1 x.2.2.2.1.1).optA fun r => (r, [].map (keptA [] vs)) := by
  intro x vs; kernel_rfl
instance inh_armplanref10_Links_L0 : Inhabited (Outs os_armplanref10_Links_L0) := ⟨outsDflt os_armplanref10_Links_L0⟩
def dom_armplanref10_Links_L0 (x : Sl ss_armplanref10_Links_L0) : Bool := (loopN step_armplanref10_Links_L0 rounds x).isSome
def val_armplanref10_Links_L0 (x : Sl ss_armplanref10_Links_L0) : Outs os_armplanref10_Links_L0 := (loopN step_armplanref10_Links_L0 rounds x).getD default
def loop_armplanref10_Links_L0 : LoopD := mkLoop ss_armplanref10_Links_L0 os_armplanref10_Links_L0 56 [] [] step_armplanref10_Links_L0 dom_armplanref10_Links_L0 val_armplanref10_Links_L0 (loop_hv step_armplanref10_Links_L0)
theorem lok_armplanref10_Links_L0 : LoopOk Tryz.prog (loopLH loop_armplanref10_Links_L0 0) 0 (.loop (loopBody 0 (Tryz.f39.body.getD .skip))) := loop_in (D := loop_armplanref10_Links_L0) (n := 200) (cur := 39) (mkC_ok htys_ok heqs_ok (fns_cons ok_armplanref10_Joint (fns_cons ok_armplanref1_Compose (fns_nil _))) (inl_nil _) noLoops_ok mixed) Tryz.func39 (by kernel_rfl) (turns_of run_armplanref10_Links_L0) (by kernel_rfl) (by kernel_rfl) (by kernel_rfl)

/- armplan/armplanref10.Links -/
def t_armplanref10_Links (a0 : DRobot) (a1 : List ((Int × Int))) : Tr (List (DPose)) :=
  let r1 : Int := armplanref6_CheckRobot a0
  .br (dom_armplanref6_CheckRobot a0) (
   let x2 : Bool := !decide (r1 = 0)
   .br (x2) (
    .leaf []) (
    let r3 : Bool := armplanref10_IsBox a0 a1
    .br (dom_armplanref10_IsBox a0 a1) (
     .br ((!r3)) (
      .leaf []) (
      let r4 : Outs os_armplanref10_Links_L0 := val_armplanref10_Links_L0 ((a0, ()), (a1, ()), ([], ()), (0, ()), ())
      .br (dom_armplanref10_Links_L0 ((a0, ()), (a1, ()), ([], ()), (0, ()), ())) (
       let y5 : DRobot := r4.1.1
       let y6 : List (DPose) := r4.2.1.1
       .leaf y6) .fail)) .fail)) .fail
def armplanref10_Links (a0 : DRobot) (a1 : List ((Int × Int))) : List (DPose) := (t_armplanref10_Links a0 a1).val
def dom_armplanref10_Links (a0 : DRobot) (a1 : List ((Int × Int))) : Bool := (t_armplanref10_Links a0 a1).dom
theorem run_armplanref10_Links : ∀ x, runF (mkC htys heqs [(23, hd_armplanref6_CheckRobot), (60, hd_armplanref10_IsBox)] [] (lpOne 39 0 (loopLH loop_armplanref10_Links_L0 0) noLoops)) 200 39 Tryz.f39 (argsA [TRobot, .list (.pair (.int .i64) (.int .i64))] x) [] (fun v h => toRes h [.list (TPose)] v) = (t_armplanref10_Links x.1 x.2.1).optA (fun r => (r, ())) := by
  intro x; kernel_rfl
theorem fn_armplanref10_Links : FnOk Tryz.prog 39 [TRobot, .list (.pair (.int .i64) (.int .i64))] [.list (TPose)] (fun x => bif dom_armplanref10_Links x.1 x.2.1 then some ((fun r => (r, ())) (armplanref10_Links x.1 x.2.1)) else none) :=
  fn_part (t := fun (x : Ar [TRobot, .list (.pair (.int .i64) (.int .i64))]) => t_armplanref10_Links x.1 x.2.1) (R := List (DPose)) (Ts := [.list (TPose)]) (mk := (fun r => (r, ()))) (mkC_ok htys_ok heqs_ok (fns_cons ok_armplanref6_CheckRobot (fns_cons ok_armplanref10_IsBox (fns_nil _))) (inl_nil _) (lpOne_ok (b := loopBody 0 (Tryz.f39.body.getD .skip)) Tryz.func39 (by kernel_rfl) lok_armplanref10_Links_L0 noLoops_ok) mixed) Tryz.func39 run_armplanref10_Links
def hd_armplanref10_Links : Hd := guardHd [TRobot, .list (.pair (.int .i64) (.int .i64))] [.list (TPose)] (fun x => dom_armplanref10_Links x.1 x.2.1) (fun x => (fun r => (r, ())) (armplanref10_Links x.1 x.2.1))
theorem ok_armplanref10_Links : HdOk Tryz.prog 39 hd_armplanref10_Links.sem ∧ Enters Tryz.prog 39 := guard_ok fn_armplanref10_Links Tryz.func39 (by kernel_rfl) (by kernel_rfl)

end Go.RX

/-
  The contracts of functions.
-/
namespace Go.RX
open Go.Proofs

end Go.RX

/-
  The contracts of functions.
-/
namespace Go.RX
open Go.Proofs

def jtys : List (Nat × TRow) := [(2, ⟨.int .i64, 1, 8, [.int .i64 0], .int .i64⟩),
  (22, ⟨.slice 69, 1, 24, [.slice none 0 0], .list (TJoint)⟩),
  (25, ⟨.struct [(0, 1), (1, 1)], 2, 48, [.slice none 0 0, .slice none 0 0], TRobot⟩),
  (28, ⟨.arr 3 2, 3, 24, [.int .i64 0, .int .i64 0, .int .i64 0], TVec⟩),
  (31, ⟨.slice 46, 1, 24, [.slice none 0 0], .list (.pair (.int .i64) (.int .i64))⟩),
  (46, ⟨.struct [(0, 1), (1, 1)], 2, 16, [.int .i64 0, .int .i64 0], .pair (.int .i64) (.int .i64)⟩),
  (51, ⟨.slice 2, 1, 24, [.slice none 0 0], .list (.int .i64)⟩),
  (69, ⟨.struct [(0, 1), (1, 1), (2, 1), (3, 3), (6, 1), (7, 1), (8, 1), (9, 1), (10, 1), (11, 1)], 12, 104, [.string (ByteArray.mk #[]), .int .i64 0, .int .i64 0, .int .i64 0, .int .i64 0, .int .i64 0, .int .i64 0, .int .i64 0, .int .i64 0, .int .i64 0, .int .i64 0, .int .i64 0], TJoint⟩),
  (82, ⟨.struct [(0, 1), (1, 1)], 2, 32, [.slice none 0 0, .int .i64 0], TSource⟩),
  (90, ⟨.arr 3 46, 6, 48, [.int .i64 0, .int .i64 0, .int .i64 0, .int .i64 0, .int .i64 0, .int .i64 0], TIVec⟩),
  (126, ⟨.slice 90, 1, 24, [.slice none 0 0], .list (TIVec)⟩)]
def jeqs : List (Nat × (Bool × List TK)) := [(28, (true, [.int .i64, .int .i64, .int .i64]))]
theorem jtys_ok : tableOk Tryz.prog jtys = true := by kernel_rfl
theorem jeqs_ok : eqsOk Tryz.prog jeqs = true := by kernel_rfl

/- armplan/config.limits -/
def t_config_limits (a0 : DJoint) : Tr (Int × Int) :=
  .leaf (a0.2.2.2.2.1, a0.2.2.2.2.2.1)
def config_limits (a0 : DJoint) : (Int × Int) := (t_config_limits a0).val
theorem run_config_limits : ∀ x, runF (mkC jtys jeqs [] [] noLoops) 200 71 Tryz.f71 (argsA [TJoint] x) [] (fun v h => toRes h [.pair (.int .i64) (.int .i64)] v) = (t_config_limits x.1).optA (fun r => (r, ())) := by
  intro x; kernel_rfl
theorem fn_config_limits : FnOk Tryz.prog 71 [TJoint] [.pair (.int .i64) (.int .i64)] (fun x => some ((fun r => (r, ())) (config_limits x.1))) :=
  fn_tot (t := fun (x : Ar [TJoint]) => t_config_limits x.1) (R := (Int × Int)) (Ts := [.pair (.int .i64) (.int .i64)]) (mk := (fun r => (r, ()))) (mkC_ok jtys_ok jeqs_ok (fns_nil _) (inl_nil _) noLoops_ok mixed) Tryz.func71 run_config_limits (fun _ => by kernel_rfl)
def hd_config_limits : Hd := dataHd [TJoint] [.pair (.int .i64) (.int .i64)] (fun x => some ((fun r => (r, ())) (config_limits x.1)))
theorem ok_config_limits : HdOk Tryz.prog 71 hd_config_limits.sem ∧ Enters Tryz.prog 71 := data_ok fn_config_limits Tryz.func71 (by kernel_rfl) (by kernel_rfl)

/- armplan/config.InsideBox$1 -/
def t_config_InsideBox_1 (a0 : DJoint) (a1 : (Int × Int)) : Tr Bool :=
  let r1 : (Int × Int) := config_limits a0
  let r2 : Bool := interval_Within a1 r1
  .leaf r2
def config_InsideBox_1 (a0 : DJoint) (a1 : (Int × Int)) : Bool := (t_config_InsideBox_1 a0 a1).val
theorem run_config_InsideBox_1 : ∀ x, runF (mkC jtys jeqs [(70, hd_interval_Within), (71, hd_config_limits)] [] noLoops) 200 69 Tryz.f69 (argsA [TJoint, .pair (.int .i64) (.int .i64)] x) [] (fun v h => toRes h [.bool] v) = (t_config_InsideBox_1 x.1 x.2.1).optA (fun r => (r, ())) := by
  intro x; kernel_rfl
theorem fn_config_InsideBox_1 : FnOk Tryz.prog 69 [TJoint, .pair (.int .i64) (.int .i64)] [.bool] (fun x => some ((fun r => (r, ())) (config_InsideBox_1 x.1 x.2.1))) :=
  fn_tot (t := fun (x : Ar [TJoint, .pair (.int .i64) (.int .i64)]) => t_config_InsideBox_1 x.1 x.2.1) (R := Bool) (Ts := [.bool]) (mk := (fun r => (r, ()))) (mkC_ok jtys_ok jeqs_ok (fns_cons ok_interval_Within (fns_cons ok_config_limits (fns_nil _))) (inl_nil _) noLoops_ok mixed) Tryz.func69 run_config_InsideBox_1 (fun _ => by kernel_rfl)
def hd_config_InsideBox_1 : Hd := dataHd [TJoint, .pair (.int .i64) (.int .i64)] [.bool] (fun x => some ((fun r => (r, ())) (config_InsideBox_1 x.1 x.2.1)))
theorem ok_config_InsideBox_1 : HdOk Tryz.prog 69 hd_config_InsideBox_1.sem ∧ Enters Tryz.prog 69 := data_ok fn_config_InsideBox_1 Tryz.func69 (by kernel_rfl) (by kernel_rfl)

/- loop 0 of armplan/config.all[armplan/api.Joint,armplan/api.Interval] -/
abbrev ss_config_InsideBox_config_all_api_Joint_api_Interval__L0 : List Slot := [⟨[0], false, false, [.d (.list (TJoint))]⟩, ⟨[1], false, false, [.d (.list (.pair (.int .i64) (.int .i64)))]⟩, ⟨[7], false, false, [.d (.int .i64)]⟩]
abbrev os_config_InsideBox_config_all_api_Joint_api_Interval__L0 : List (Exit × List Slot) := [(.exit 0, [⟨[0], false, false, [.d (.list (TJoint))]⟩, ⟨[1], false, false, [.d (.list (.pair (.int .i64) (.int .i64)))]⟩]), (.ret, [⟨[6], false, false, [.d (.bool)]⟩])]
def t_config_InsideBox_config_all_api_Joint_api_Interval__L0 (a0 : List (DJoint)) (a1 : List ((Int × Int))) (a2 : Int) : Tr (Sl ss_config_InsideBox_config_all_api_Joint_api_Interval__L0 ⊕ Outs os_config_InsideBox_config_all_api_Joint_api_Interval__L0) :=
  let x1 : Bool := decide (((a0.length : Nat) : Int) = ((a1.length : Nat) : Int))
  .br (x1) (
   let x2 : Bool := decide (a2 < ((a0.length : Nat) : Int))
   .br (x2) (
    .br (decide (0 ≤ a2) && decide (a2 < ((a0.length : Nat) : Int))) (
     .br (decide (0 ≤ a2) && decide (a2 < ((a1.length : Nat) : Int))) (
      let r3 : Bool := config_InsideBox_1 (List.getD a0 a2.toNat (Ty.dflt (TJoint))) (List.getD a1 a2.toNat (Ty.dflt (.pair (.int .i64) (.int .i64))))
      .br ((!r3)) (
       .leaf (.inr (.inr ((false, ()), ())))) (
       let x4 : Int := IntKind.wrap .i64 (a2 + 1)
       .leaf (.inl ((a0, ()), (a1, ()), (x4, ()), ())))) .fail) .fail) (
    .leaf (.inr (.inl ((a0, ()), (a1, ()), ()))))) (
   .leaf (.inr (.inl ((a0, ()), (a1, ()), ()))))
def step_config_InsideBox_config_all_api_Joint_api_Interval__L0 : Sl ss_config_InsideBox_config_all_api_Joint_api_Interval__L0 → Option (Sl ss_config_InsideBox_config_all_api_Joint_api_Interval__L0 ⊕ Outs os_config_InsideBox_config_all_api_Joint_api_Interval__L0) := fun x => (t_config_InsideBox_config_all_api_Joint_api_Interval__L0 x.1.1 x.2.1.1 x.2.2.1.1).optA id
theorem run_config_InsideBox_config_all_api_Joint_api_Interval__L0 : ∀ (x : Sl ss_config_InsideBox_config_all_api_Joint_api_Interval__L0) (vs : Nat → Value), run (mkC jtys jeqs [(69, hd_config_InsideBox_1)] [] noLoops) 200 68 (loopBody 0 (Tryz.f68.body.getD .skip)) (mkSt ss_config_InsideBox_config_all_api_Joint_api_Interval__L0 x (baseT 37 [2] [(2, ⟨69, [], []⟩)] vs)) (endK ss_config_InsideBox_config_all_api_Joint_api_Interval__L0 os_config_InsideBox_config_all_api_Joint_api_Interval__L0 37 [2]) = (t_config_InsideBox_config_all_api_Joint_api_Interval__L0 x.1.1 x.2.1.1 x.2.2.1.1).optA fun r => (r, [2].map (keptA [(2, ⟨69, [], []⟩)] vs)) := by
  intro x vs; kernel_rfl
instance inh_config_InsideBox_config_all_api_Joint_api_Interval__L0 : Inhabited (Outs os_config_InsideBox_config_all_api_Joint_api_Interval__L0) := ⟨outsDflt os_config_InsideBox_config_all_api_Joint_api_Interval__L0⟩
def dom_config_InsideBox_config_all_api_Joint_api_Interval__L0 (x : Sl ss_config_InsideBox_config_all_api_Joint_api_Interval__L0) : Bool := (loopN step_config_InsideBox_config_all_api_Joint_api_Interval__L0 rounds x).isSome
def val_config_InsideBox_config_all_api_Joint_api_Interval__L0 (x : Sl ss_config_InsideBox_config_all_api_Joint_api_Interval__L0) : Outs os_config_InsideBox_config_all_api_Joint_api_Interval__L0 := (loopN step_config_InsideBox_config_all_api_Joint_api_Interval__L0 rounds x).getD default
def loop_config_InsideBox_config_all_api_Joint_api_Interval__L0 : LoopD := mkLoop ss_config_InsideBox_config_all_api_Joint_api_Interval__L0 os_config_InsideBox_config_all_api_Joint_api_Interval__L0 37 [2] [(2, ⟨69, [], []⟩)] step_config_InsideBox_config_all_api_Joint_api_Interval__L0 dom_config_InsideBox_config_all_api_Joint_api_Interval__L0 val_config_InsideBox_config_all_api_Joint_api_Interval__L0 (loop_hv step_config_InsideBox_config_all_api_Joint_api_Interval__L0)
theorem lok_config_InsideBox_config_all_api_Joint_api_Interval__L0 : LoopOk Tryz.prog (loopLH loop_config_InsideBox_config_all_api_Joint_api_Interval__L0 0) 0 (.loop (loopBody 0 (Tryz.f68.body.getD .skip))) := loop_in (D := loop_config_InsideBox_config_all_api_Joint_api_Interval__L0) (n := 200) (cur := 68) (mkC_ok jtys_ok jeqs_ok (fns_cons ok_config_InsideBox_1 (fns_nil _)) (inl_nil _) noLoops_ok mixed) Tryz.func68 (by kernel_rfl) (turns_of run_config_InsideBox_config_all_api_Joint_api_Interval__L0) (by kernel_rfl) (by kernel_rfl) (by kernel_rfl)

/- armplan/config.InsideBox -/
def t_config_InsideBox (a0 : DRobot) (a1 : List ((Int × Int))) : Tr Bool :=
  let r1 : Int := robot_Check a0
  .br (dom_robot_Check a0) (
   let x2 : Bool := decide (r1 = 0)
   .br (x2) (
    let r3 : Outs os_config_InsideBox_config_all_api_Joint_api_Interval__L0 := val_config_InsideBox_config_all_api_Joint_api_Interval__L0 ((a0.1, ()), (a1, ()), (0, ()), ())
    .br (dom_config_InsideBox_config_all_api_Joint_api_Interval__L0 ((a0.1, ()), (a1, ()), (0, ()), ())) (
     let r4 := getL r3
     let r5 := getR r3
     .br (isL r3) (
      let y6 : List (DJoint) := r4.1.1
      let y7 : List ((Int × Int)) := r4.2.1.1
      let x8 : Bool := decide (((y6.length : Nat) : Int) = ((y7.length : Nat) : Int))
      .leaf x8) (
      let y9 : Bool := r5.1.1
      .leaf y9)) .fail) (
    .leaf false)) .fail
def config_InsideBox (a0 : DRobot) (a1 : List ((Int × Int))) : Bool := (t_config_InsideBox a0 a1).val
def dom_config_InsideBox (a0 : DRobot) (a1 : List ((Int × Int))) : Bool := (t_config_InsideBox a0 a1).dom
theorem run_config_InsideBox : ∀ x, runF (mkC jtys jeqs [(21, hd_robot_Check)] [(68, Tryz.f68)] (lpOne 68 0 (loopLH loop_config_InsideBox_config_all_api_Joint_api_Interval__L0 0) noLoops)) 200 44 Tryz.f44 (argsA [TRobot, .list (.pair (.int .i64) (.int .i64))] x) [] (fun v h => toRes h [.bool] v) = (t_config_InsideBox x.1 x.2.1).optA (fun r => (r, ())) := by
  intro x; kernel_rfl
theorem fn_config_InsideBox : FnOk Tryz.prog 44 [TRobot, .list (.pair (.int .i64) (.int .i64))] [.bool] (fun x => bif dom_config_InsideBox x.1 x.2.1 then some ((fun r => (r, ())) (config_InsideBox x.1 x.2.1)) else none) :=
  fn_part (t := fun (x : Ar [TRobot, .list (.pair (.int .i64) (.int .i64))]) => t_config_InsideBox x.1 x.2.1) (R := Bool) (Ts := [.bool]) (mk := (fun r => (r, ()))) (mkC_ok jtys_ok jeqs_ok (fns_cons ok_robot_Check (fns_nil _)) (inl_cons Tryz.func68 (by kernel_rfl) (inl_nil _)) (lpOne_ok (b := loopBody 0 (Tryz.f68.body.getD .skip)) Tryz.func68 (by kernel_rfl) lok_config_InsideBox_config_all_api_Joint_api_Interval__L0 noLoops_ok) mixed) Tryz.func44 run_config_InsideBox
def hd_config_InsideBox : Hd := guardHd [TRobot, .list (.pair (.int .i64) (.int .i64))] [.bool] (fun x => dom_config_InsideBox x.1 x.2.1) (fun x => (fun r => (r, ())) (config_InsideBox x.1 x.2.1))
theorem ok_config_InsideBox : HdOk Tryz.prog 44 hd_config_InsideBox.sem ∧ Enters Tryz.prog 44 := guard_ok fn_config_InsideBox Tryz.func44 (by kernel_rfl) (by kernel_rfl)

/- armplan/interval.Has -/
def t_interval_Has (a0 : (Int × Int)) (a1 : Int) : Tr Bool :=
  let r1 : Bool := interval_Valid a0
  .br (r1) (
   let x2 : Bool := decide (a0.1 ≤ a1)
   .br (x2) (
    let x3 : Bool := decide (a1 ≤ a0.2)
    .leaf x3) (
    .leaf false)) (
   .leaf false)
def interval_Has (a0 : (Int × Int)) (a1 : Int) : Bool := (t_interval_Has a0 a1).val
theorem run_interval_Has : ∀ x, runF (mkC jtys jeqs [(100, hd_interval_Valid)] [] noLoops) 200 81 Tryz.f81 (argsA [.pair (.int .i64) (.int .i64), .int .i64] x) [] (fun v h => toRes h [.bool] v) = (t_interval_Has x.1 x.2.1).optA (fun r => (r, ())) := by
  intro x; kernel_rfl
theorem fn_interval_Has : FnOk Tryz.prog 81 [.pair (.int .i64) (.int .i64), .int .i64] [.bool] (fun x => some ((fun r => (r, ())) (interval_Has x.1 x.2.1))) :=
  fn_tot (t := fun (x : Ar [.pair (.int .i64) (.int .i64), .int .i64]) => t_interval_Has x.1 x.2.1) (R := Bool) (Ts := [.bool]) (mk := (fun r => (r, ()))) (mkC_ok jtys_ok jeqs_ok (fns_cons ok_interval_Valid (fns_nil _)) (inl_nil _) noLoops_ok mixed) Tryz.func81 run_interval_Has (fun _ => by kernel_rfl)
def hd_interval_Has : Hd := dataHd [.pair (.int .i64) (.int .i64), .int .i64] [.bool] (fun x => some ((fun r => (r, ())) (interval_Has x.1 x.2.1)))
theorem ok_interval_Has : HdOk Tryz.prog 81 hd_interval_Has.sem ∧ Enters Tryz.prog 81 := data_ok fn_interval_Has Tryz.func81 (by kernel_rfl) (by kernel_rfl)

/- armplan/config.Inside$1 -/
def t_config_Inside_1 (a0 : DJoint) (a1 : Int) : Tr Bool :=
  let r1 : (Int × Int) := config_limits a0
  let r2 : Bool := interval_Has r1 a1
  .leaf r2
def config_Inside_1 (a0 : DJoint) (a1 : Int) : Bool := (t_config_Inside_1 a0 a1).val
theorem run_config_Inside_1 : ∀ x, runF (mkC jtys jeqs [(71, hd_config_limits), (81, hd_interval_Has)] [] noLoops) 200 80 Tryz.f80 (argsA [TJoint, .int .i64] x) [] (fun v h => toRes h [.bool] v) = (t_config_Inside_1 x.1 x.2.1).optA (fun r => (r, ())) := by
  intro x; kernel_rfl
theorem fn_config_Inside_1 : FnOk Tryz.prog 80 [TJoint, .int .i64] [.bool] (fun x => some ((fun r => (r, ())) (config_Inside_1 x.1 x.2.1))) :=
  fn_tot (t := fun (x : Ar [TJoint, .int .i64]) => t_config_Inside_1 x.1 x.2.1) (R := Bool) (Ts := [.bool]) (mk := (fun r => (r, ()))) (mkC_ok jtys_ok jeqs_ok (fns_cons ok_config_limits (fns_cons ok_interval_Has (fns_nil _))) (inl_nil _) noLoops_ok mixed) Tryz.func80 run_config_Inside_1 (fun _ => by kernel_rfl)
def hd_config_Inside_1 : Hd := dataHd [TJoint, .int .i64] [.bool] (fun x => some ((fun r => (r, ())) (config_Inside_1 x.1 x.2.1)))
theorem ok_config_Inside_1 : HdOk Tryz.prog 80 hd_config_Inside_1.sem ∧ Enters Tryz.prog 80 := data_ok fn_config_Inside_1 Tryz.func80 (by kernel_rfl) (by kernel_rfl)

/- loop 0 of armplan/config.all[armplan/api.Joint,int64] -/
abbrev ss_config_Inside_config_all_api_Joint_int64__L0 : List Slot := [⟨[0], false, false, [.d (.list (TJoint))]⟩, ⟨[1], false, false, [.d (.list (.int .i64))]⟩, ⟨[7], false, false, [.d (.int .i64)]⟩]
abbrev os_config_Inside_config_all_api_Joint_int64__L0 : List (Exit × List Slot) := [(.exit 0, [⟨[0], false, false, [.d (.list (TJoint))]⟩, ⟨[1], false, false, [.d (.list (.int .i64))]⟩]), (.ret, [⟨[6], false, false, [.d (.bool)]⟩])]
def t_config_Inside_config_all_api_Joint_int64__L0 (a0 : List (DJoint)) (a1 : List (Int)) (a2 : Int) : Tr (Sl ss_config_Inside_config_all_api_Joint_int64__L0 ⊕ Outs os_config_Inside_config_all_api_Joint_int64__L0) :=
  let x1 : Bool := decide (((a0.length : Nat) : Int) = ((a1.length : Nat) : Int))
  .br (x1) (
   let x2 : Bool := decide (a2 < ((a0.length : Nat) : Int))
   .br (x2) (
    .br (decide (0 ≤ a2) && decide (a2 < ((a0.length : Nat) : Int))) (
     .br (decide (0 ≤ a2) && decide (a2 < ((a1.length : Nat) : Int))) (
      let r3 : Bool := config_Inside_1 (List.getD a0 a2.toNat (Ty.dflt (TJoint))) (List.getD a1 a2.toNat (Ty.dflt (.int .i64)))
      .br ((!r3)) (
       .leaf (.inr (.inr ((false, ()), ())))) (
       let x4 : Int := IntKind.wrap .i64 (a2 + 1)
       .leaf (.inl ((a0, ()), (a1, ()), (x4, ()), ())))) .fail) .fail) (
    .leaf (.inr (.inl ((a0, ()), (a1, ()), ()))))) (
   .leaf (.inr (.inl ((a0, ()), (a1, ()), ()))))
def step_config_Inside_config_all_api_Joint_int64__L0 : Sl ss_config_Inside_config_all_api_Joint_int64__L0 → Option (Sl ss_config_Inside_config_all_api_Joint_int64__L0 ⊕ Outs os_config_Inside_config_all_api_Joint_int64__L0) := fun x => (t_config_Inside_config_all_api_Joint_int64__L0 x.1.1 x.2.1.1 x.2.2.1.1).optA id
theorem run_config_Inside_config_all_api_Joint_int64__L0 : ∀ (x : Sl ss_config_Inside_config_all_api_Joint_int64__L0) (vs : Nat → Value), run (mkC jtys jeqs [(80, hd_config_Inside_1)] [] noLoops) 200 79 (loopBody 0 (Tryz.f79.body.getD .skip)) (mkSt ss_config_Inside_config_all_api_Joint_int64__L0 x (baseT 37 [2] [(2, ⟨80, [], []⟩)] vs)) (endK ss_config_Inside_config_all_api_Joint_int64__L0 os_config_Inside_config_all_api_Joint_int64__L0 37 [2]) = (t_config_Inside_config_all_api_Joint_int64__L0 x.1.1 x.2.1.1 x.2.2.1.1).optA fun r => (r, [2].map (keptA [(2, ⟨80, [], []⟩)] vs)) := by
  intro x vs; kernel_rfl
instance inh_config_Inside_config_all_api_Joint_int64__L0 : Inhabited (Outs os_config_Inside_config_all_api_Joint_int64__L0) := ⟨outsDflt os_config_Inside_config_all_api_Joint_int64__L0⟩
def dom_config_Inside_config_all_api_Joint_int64__L0 (x : Sl ss_config_Inside_config_all_api_Joint_int64__L0) : Bool := (loopN step_config_Inside_config_all_api_Joint_int64__L0 rounds x).isSome
def val_config_Inside_config_all_api_Joint_int64__L0 (x : Sl ss_config_Inside_config_all_api_Joint_int64__L0) : Outs os_config_Inside_config_all_api_Joint_int64__L0 := (loopN step_config_Inside_config_all_api_Joint_int64__L0 rounds x).getD default
def loop_config_Inside_config_all_api_Joint_int64__L0 : LoopD := mkLoop ss_config_Inside_config_all_api_Joint_int64__L0 os_config_Inside_config_all_api_Joint_int64__L0 37 [2] [(2, ⟨80, [], []⟩)] step_config_Inside_config_all_api_Joint_int64__L0 dom_config_Inside_config_all_api_Joint_int64__L0 val_config_Inside_config_all_api_Joint_int64__L0 (loop_hv step_config_Inside_config_all_api_Joint_int64__L0)
theorem lok_config_Inside_config_all_api_Joint_int64__L0 : LoopOk Tryz.prog (loopLH loop_config_Inside_config_all_api_Joint_int64__L0 0) 0 (.loop (loopBody 0 (Tryz.f79.body.getD .skip))) := loop_in (D := loop_config_Inside_config_all_api_Joint_int64__L0) (n := 200) (cur := 79) (mkC_ok jtys_ok jeqs_ok (fns_cons ok_config_Inside_1 (fns_nil _)) (inl_nil _) noLoops_ok mixed) Tryz.func79 (by kernel_rfl) (turns_of run_config_Inside_config_all_api_Joint_int64__L0) (by kernel_rfl) (by kernel_rfl) (by kernel_rfl)

/- armplan/config.Inside -/
def t_config_Inside (a0 : DRobot) (a1 : List (Int)) : Tr Bool :=
  let r1 : Int := robot_Check a0
  .br (dom_robot_Check a0) (
   let x2 : Bool := decide (r1 = 0)
   .br (x2) (
    let r3 : Outs os_config_Inside_config_all_api_Joint_int64__L0 := val_config_Inside_config_all_api_Joint_int64__L0 ((a0.1, ()), (a1, ()), (0, ()), ())
    .br (dom_config_Inside_config_all_api_Joint_int64__L0 ((a0.1, ()), (a1, ()), (0, ()), ())) (
     let r4 := getL r3
     let r5 := getR r3
     .br (isL r3) (
      let y6 : List (DJoint) := r4.1.1
      let y7 : List (Int) := r4.2.1.1
      let x8 : Bool := decide (((y6.length : Nat) : Int) = ((y7.length : Nat) : Int))
      .leaf x8) (
      let y9 : Bool := r5.1.1
      .leaf y9)) .fail) (
    .leaf false)) .fail
def config_Inside (a0 : DRobot) (a1 : List (Int)) : Bool := (t_config_Inside a0 a1).val
def dom_config_Inside (a0 : DRobot) (a1 : List (Int)) : Bool := (t_config_Inside a0 a1).dom
theorem run_config_Inside : ∀ x, runF (mkC jtys jeqs [(21, hd_robot_Check)] [(79, Tryz.f79)] (lpOne 79 0 (loopLH loop_config_Inside_config_all_api_Joint_int64__L0 0) noLoops)) 200 48 Tryz.f48 (argsA [TRobot, .list (.int .i64)] x) [] (fun v h => toRes h [.bool] v) = (t_config_Inside x.1 x.2.1).optA (fun r => (r, ())) := by
  intro x; kernel_rfl
theorem fn_config_Inside : FnOk Tryz.prog 48 [TRobot, .list (.int .i64)] [.bool] (fun x => bif dom_config_Inside x.1 x.2.1 then some ((fun r => (r, ())) (config_Inside x.1 x.2.1)) else none) :=
  fn_part (t := fun (x : Ar [TRobot, .list (.int .i64)]) => t_config_Inside x.1 x.2.1) (R := Bool) (Ts := [.bool]) (mk := (fun r => (r, ()))) (mkC_ok jtys_ok jeqs_ok (fns_cons ok_robot_Check (fns_nil _)) (inl_cons Tryz.func79 (by kernel_rfl) (inl_nil _)) (lpOne_ok (b := loopBody 0 (Tryz.f79.body.getD .skip)) Tryz.func79 (by kernel_rfl) lok_config_Inside_config_all_api_Joint_int64__L0 noLoops_ok) mixed) Tryz.func48 run_config_Inside
def hd_config_Inside : Hd := guardHd [TRobot, .list (.int .i64)] [.bool] (fun x => dom_config_Inside x.1 x.2.1) (fun x => (fun r => (r, ())) (config_Inside x.1 x.2.1))
theorem ok_config_Inside : HdOk Tryz.prog 48 hd_config_Inside.sem ∧ Enters Tryz.prog 48 := guard_ok fn_config_Inside Tryz.func48 (by kernel_rfl) (by kernel_rfl)

/- armplan/config.small$1 -/
def t_config_small_1 (a0 : Int) : Tr Bool :=
  let x1 : Bool := decide (a0 < (-2147483648))
  .br (x1) (
   .leaf true) (
   let x2 : Bool := decide (2147483648 < a0)
   .leaf x2)
def config_small_1 (a0 : Int) : Bool := (t_config_small_1 a0).val
theorem run_config_small_1 : ∀ x, runF (mkC jtys jeqs [] [] noLoops) 200 118 Tryz.f118 (argsA [.int .i64] x) [] (fun v h => toRes h [.bool] v) = (t_config_small_1 x.1).optA (fun r => (r, ())) := by
  intro x; kernel_rfl
theorem fn_config_small_1 : FnOk Tryz.prog 118 [.int .i64] [.bool] (fun x => some ((fun r => (r, ())) (config_small_1 x.1))) :=
  fn_tot (t := fun (x : Ar [.int .i64]) => t_config_small_1 x.1) (R := Bool) (Ts := [.bool]) (mk := (fun r => (r, ()))) (mkC_ok jtys_ok jeqs_ok (fns_nil _) (inl_nil _) noLoops_ok mixed) Tryz.func118 run_config_small_1 (fun _ => by kernel_rfl)
def hd_config_small_1 : Hd := dataHd [.int .i64] [.bool] (fun x => some ((fun r => (r, ())) (config_small_1 x.1)))
theorem ok_config_small_1 : HdOk Tryz.prog 118 hd_config_small_1.sem ∧ Enters Tryz.prog 118 := data_ok fn_config_small_1 Tryz.func118 (by kernel_rfl) (by kernel_rfl)

/- loop 0 of slices.IndexFunc[[]int64,int64] -/
abbrev ss_config_small_slices_IndexFunc___int64_int64__L0 : List Slot := [⟨[0], false, false, [.d (.list (.int .i64))]⟩, ⟨[7], false, false, [.d (.int .i64)]⟩, ⟨[8], false, false, [.d (.int .i64)]⟩]
abbrev os_config_small_slices_IndexFunc___int64_int64__L0 : List (Exit × List Slot) := [(.exit 0, []), (.ret, [⟨[4], false, false, [.d (.int .i64)]⟩])]
def t_config_small_slices_IndexFunc___int64_int64__L0 (a0 : List (Int)) (a1 : Int) (a2 : Int) : Tr (Sl ss_config_small_slices_IndexFunc___int64_int64__L0 ⊕ Outs os_config_small_slices_IndexFunc___int64_int64__L0) :=
  let x1 : Bool := decide (a2 < a1)
  .br (x1) (
   .br (decide (0 ≤ a2) && decide (a2 < ((a0.length : Nat) : Int))) (
    let r2 : Bool := config_small_1 (List.getD a0 a2.toNat (Ty.dflt (.int .i64)))
    .br (r2) (
     .leaf (.inr (.inr ((a2, ()), ())))) (
     let x3 : Int := IntKind.wrap .i64 (a2 + 1)
     .leaf (.inl ((a0, ()), (a1, ()), (x3, ()), ())))) .fail) (
   .leaf (.inr (.inl ())))
def step_config_small_slices_IndexFunc___int64_int64__L0 : Sl ss_config_small_slices_IndexFunc___int64_int64__L0 → Option (Sl ss_config_small_slices_IndexFunc___int64_int64__L0 ⊕ Outs os_config_small_slices_IndexFunc___int64_int64__L0) := fun x => (t_config_small_slices_IndexFunc___int64_int64__L0 x.1.1 x.2.1.1 x.2.2.1.1).optA id
theorem run_config_small_slices_IndexFunc___int64_int64__L0 : ∀ (x : Sl ss_config_small_slices_IndexFunc___int64_int64__L0) (vs : Nat → Value), run (mkC jtys jeqs [(118, hd_config_small_1)] [] noLoops) 200 133 (loopBody 0 (Tryz.f133.body.getD .skip)) (mkSt ss_config_small_slices_IndexFunc___int64_int64__L0 x (baseT 19 [1] [(1, ⟨118, [], []⟩)] vs)) (endK ss_config_small_slices_IndexFunc___int64_int64__L0 os_config_small_slices_IndexFunc___int64_int64__L0 19 [1]) = (t_config_small_slices_IndexFunc___int64_int64__L0 x.1.1 x.2.1.1 x.2.2.1.1).optA fun r => (r, [1].map (keptA [(1, ⟨118, [], []⟩)] vs)) := by
  intro x vs; kernel_rfl
instance inh_config_small_slices_IndexFunc___int64_int64__L0 : Inhabited (Outs os_config_small_slices_IndexFunc___int64_int64__L0) := ⟨outsDflt os_config_small_slices_IndexFunc___int64_int64__L0⟩
def dom_config_small_slices_IndexFunc___int64_int64__L0 (x : Sl ss_config_small_slices_IndexFunc___int64_int64__L0) : Bool := (loopN step_config_small_slices_IndexFunc___int64_int64__L0 rounds x).isSome
def val_config_small_slices_IndexFunc___int64_int64__L0 (x : Sl ss_config_small_slices_IndexFunc___int64_int64__L0) : Outs os_config_small_slices_IndexFunc___int64_int64__L0 := (loopN step_config_small_slices_IndexFunc___int64_int64__L0 rounds x).getD default
def loop_config_small_slices_IndexFunc___int64_int64__L0 : LoopD := mkLoop ss_config_small_slices_IndexFunc___int64_int64__L0 os_config_small_slices_IndexFunc___int64_int64__L0 19 [1] [(1, ⟨118, [], []⟩)] step_config_small_slices_IndexFunc___int64_int64__L0 dom_config_small_slices_IndexFunc___int64_int64__L0 val_config_small_slices_IndexFunc___int64_int64__L0 (loop_hv step_config_small_slices_IndexFunc___int64_int64__L0)
theorem lok_config_small_slices_IndexFunc___int64_int64__L0 : LoopOk Tryz.prog (loopLH loop_config_small_slices_IndexFunc___int64_int64__L0 0) 0 (.loop (loopBody 0 (Tryz.f133.body.getD .skip))) := loop_in (D := loop_config_small_slices_IndexFunc___int64_int64__L0) (n := 200) (cur := 133) (mkC_ok jtys_ok jeqs_ok (fns_cons ok_config_small_1 (fns_nil _)) (inl_nil _) noLoops_ok mixed) Tryz.func133 (by kernel_rfl) (turns_of run_config_small_slices_IndexFunc___int64_int64__L0) (by kernel_rfl) (by kernel_rfl) (by kernel_rfl)

/- armplan/config.small -/
def t_config_small (a0 : List (Int)) : Tr Bool :=
  let r1 : Outs os_config_small_slices_IndexFunc___int64_int64__L0 := val_config_small_slices_IndexFunc___int64_int64__L0 ((a0, ()), (((a0.length : Nat) : Int), ()), (0, ()), ())
  .br (dom_config_small_slices_IndexFunc___int64_int64__L0 ((a0, ()), (((a0.length : Nat) : Int), ()), (0, ()), ())) (
   let r2 := getL r1
   let r3 := getR r1
   .br (isL r1) (
    .leaf true) (
    let y4 : Int := r3.1.1
    let x5 : Bool := decide (0 ≤ y4)
    .leaf (!x5))) .fail
def config_small (a0 : List (Int)) : Bool := (t_config_small a0).val
def dom_config_small (a0 : List (Int)) : Bool := (t_config_small a0).dom
theorem run_config_small : ∀ x, runF (mkC jtys jeqs [] [(117, Tryz.f117), (133, Tryz.f133)] (lpOne 133 0 (loopLH loop_config_small_slices_IndexFunc___int64_int64__L0 0) noLoops)) 200 107 Tryz.f107 (argsA [.list (.int .i64)] x) [] (fun v h => toRes h [.bool] v) = (t_config_small x.1).optA (fun r => (r, ())) := by
  intro x; kernel_rfl
theorem fn_config_small : FnOk Tryz.prog 107 [.list (.int .i64)] [.bool] (fun x => bif dom_config_small x.1 then some ((fun r => (r, ())) (config_small x.1)) else none) :=
  fn_part (t := fun (x : Ar [.list (.int .i64)]) => t_config_small x.1) (R := Bool) (Ts := [.bool]) (mk := (fun r => (r, ()))) (mkC_ok jtys_ok jeqs_ok (fns_nil _) (inl_cons Tryz.func117 (by kernel_rfl) (inl_cons Tryz.func133 (by kernel_rfl) (inl_nil _))) (lpOne_ok (b := loopBody 0 (Tryz.f133.body.getD .skip)) Tryz.func133 (by kernel_rfl) lok_config_small_slices_IndexFunc___int64_int64__L0 noLoops_ok) mixed) Tryz.func107 run_config_small
def hd_config_small : Hd := guardHd [.list (.int .i64)] [.bool] (fun x => dom_config_small x.1) (fun x => (fun r => (r, ())) (config_small x.1))
theorem ok_config_small : HdOk Tryz.prog 107 hd_config_small.sem ∧ Enters Tryz.prog 107 := guard_ok fn_config_small Tryz.func107 (by kernel_rfl) (by kernel_rfl)

/- armplan/config.straight -/
def t_config_straight (a0 : List (Int)) (a1 : List (Int)) (a2 : Int) : Tr Bool :=
  let r1 : Bool := config_small a0
  .br (dom_config_small a0) (
   .br (r1) (
    let r2 : Bool := config_small a1
    .br (dom_config_small a1) (
     .br (r2) (
      let x3 : Bool := decide (((a0.length : Nat) : Int) = ((a1.length : Nat) : Int))
      .br (x3) (
       let x4 : Bool := decide (0 ≤ a2)
       .br (x4) (
        let x5 : Bool := decide (a2 ≤ 20)
        .leaf x5) (
        .leaf false)) (
       .leaf false)) (
      .leaf false)) .fail) (
    .leaf false)) .fail
def config_straight (a0 : List (Int)) (a1 : List (Int)) (a2 : Int) : Bool := (t_config_straight a0 a1 a2).val
def dom_config_straight (a0 : List (Int)) (a1 : List (Int)) (a2 : Int) : Bool := (t_config_straight a0 a1 a2).dom
theorem run_config_straight : ∀ x, runF (mkC jtys jeqs [(107, hd_config_small)] [] noLoops) 200 82 Tryz.f82 (argsA [.list (.int .i64), .list (.int .i64), .int .i64] x) [] (fun v h => toRes h [.bool] v) = (t_config_straight x.1 x.2.1 x.2.2.1).optA (fun r => (r, ())) := by
  intro x; kernel_rfl
theorem fn_config_straight : FnOk Tryz.prog 82 [.list (.int .i64), .list (.int .i64), .int .i64] [.bool] (fun x => bif dom_config_straight x.1 x.2.1 x.2.2.1 then some ((fun r => (r, ())) (config_straight x.1 x.2.1 x.2.2.1)) else none) :=
  fn_part (t := fun (x : Ar [.list (.int .i64), .list (.int .i64), .int .i64]) => t_config_straight x.1 x.2.1 x.2.2.1) (R := Bool) (Ts := [.bool]) (mk := (fun r => (r, ()))) (mkC_ok jtys_ok jeqs_ok (fns_cons ok_config_small (fns_nil _)) (inl_nil _) noLoops_ok mixed) Tryz.func82 run_config_straight
def hd_config_straight : Hd := guardHd [.list (.int .i64), .list (.int .i64), .int .i64] [.bool] (fun x => dom_config_straight x.1 x.2.1 x.2.2.1) (fun x => (fun r => (r, ())) (config_straight x.1 x.2.1 x.2.2.1))
theorem ok_config_straight : HdOk Tryz.prog 82 hd_config_straight.sem ∧ Enters Tryz.prog 82 := guard_ok fn_config_straight Tryz.func82 (by kernel_rfl) (by kernel_rfl)

/- loop 0 of armplan/config.Piece -/
abbrev ss_config_Piece_L0 : List Slot := [⟨[0], false, false, [.d (.list (.int .i64))]⟩, ⟨[1], false, false, [.d (.list (.int .i64))]⟩, ⟨[2], false, false, [.d (.int .i64)]⟩, ⟨[3], false, false, [.d (.int .i64)]⟩, ⟨[10], false, false, [.v 46 (.pair (.int .i64) (.int .i64))]⟩, ⟨[34], false, false, [.d (.int .i64)]⟩, ⟨[35], false, false, [.d (.int .i64)]⟩]
abbrev os_config_Piece_L0 : List (Exit × List Slot) := [(.exit 0, [⟨[10], false, false, [.v 46 (.pair (.int .i64) (.int .i64))]⟩])]
def t_config_Piece_L0 (a0 : List (Int)) (a1 : List (Int)) (a2 : Int) (a3 : Int) (a4 : List ((Int × Int))) (a5 : Int) (a6 : Int) : Tr (Sl ss_config_Piece_L0 ⊕ Outs os_config_Piece_L0) :=
  let x1 : Bool := decide (a6 < a5)
  .br (x1) (
   .br (decide (0 ≤ a6) && decide (a6 < ((a1.length : Nat) : Int))) (
    .br (decide (0 ≤ a6) && decide (a6 < ((a0.length : Nat) : Int))) (
     let x2 : Int := IntKind.wrap .i64 ((List.getD a1 a6.toNat (Ty.dflt (.int .i64))) - (List.getD a0 a6.toNat (Ty.dflt (.int .i64))))
     let x3 : Int := IntKind.wrap .i64 (a3 * x2)
     let x4 : Int := IntKind.wrap .i64 (a3 + 1)
     let x5 : Int := IntKind.wrap .i64 (x4 * x2)
     let x6 : Int := if x5 < x3 then x5 else x3
     let x7 : Int := IntKind.wrap .i64 (a3 * x2)
     let x8 : Int := IntKind.wrap .i64 (a3 + 1)
     let x9 : Int := IntKind.wrap .i64 (x8 * x2)
     let x10 : Int := if x9 > x7 then x9 else x7
     .br (decide (0 ≤ a6) && decide (a6 < ((a0.length : Nat) : Int))) (
      let x11 : Int := shrI .i64 x6 a2
      .br (decide (0 ≤ a2)) (
       let x12 : Int := IntKind.wrap .i64 ((List.getD a0 a6.toNat (Ty.dflt (.int .i64))) + x11)
       .br (decide (0 ≤ a6) && decide (a6 < ((a0.length : Nat) : Int))) (
        let x13 : Int := IntKind.wrap .i64 (0 - x10)
        let x14 : Int := shrI .i64 x13 a2
        .br (decide (0 ≤ a2)) (
         let x15 : Int := IntKind.wrap .i64 ((List.getD a0 a6.toNat (Ty.dflt (.int .i64))) - x14)
         .br (decide (0 ≤ a6) && decide (a6 < ((a4.length : Nat) : Int))) (
          let x16 : Int := IntKind.wrap .i64 (a6 + 1)
          .leaf (.inl ((a0, ()), (a1, ()), (a2, ()), (a3, ()), ((List.set a4 a6.toNat (x12, x15)), ()), (a5, ()), (x16, ()), ()))) .fail) .fail) .fail) .fail) .fail) .fail) .fail) (
   .leaf (.inr ((a4, ()), ())))
def step_config_Piece_L0 : Sl ss_config_Piece_L0 → Option (Sl ss_config_Piece_L0 ⊕ Outs os_config_Piece_L0) := fun x => (t_config_Piece_L0 x.1.1 x.2.1.1 x.2.2.1.1 x.2.2.2.1.1 x.2.2.2.2.1.1 x.2.2.2.2.2.1.1 x.2.2.2.2.2.2.1.1).optA id
theorem run_config_Piece_L0 : ∀ (x : Sl ss_config_Piece_L0) (vs : Nat → Value), run (mkC jtys jeqs [] [] noLoops) 200 49 (loopBody 0 (Tryz.f49.body.getD .skip)) (mkSt ss_config_Piece_L0 x (baseT 86 [] [] vs)) (endK ss_config_Piece_L0 os_config_Piece_L0 86 []) = (t_config_Piece_L0 x.1.1 x.2.1.1 x.2.2.1.1 x.2.2.2.1.1 x.2.2.2.2.1.1 x.2.2.2.2.2.1.1 x.2.2.2.2.2.2.1.1).optA fun r => (r, [].map (keptA [] vs)) := by
  intro x vs; kernel_rfl
instance inh_config_Piece_L0 : Inhabited (Outs os_config_Piece_L0) := ⟨outsDflt os_config_Piece_L0⟩
def dom_config_Piece_L0 (x : Sl ss_config_Piece_L0) : Bool := (loopN step_config_Piece_L0 rounds x).isSome
def val_config_Piece_L0 (x : Sl ss_config_Piece_L0) : Outs os_config_Piece_L0 := (loopN step_config_Piece_L0 rounds x).getD default
def loop_config_Piece_L0 : LoopD := mkLoop ss_config_Piece_L0 os_config_Piece_L0 86 [] [] step_config_Piece_L0 dom_config_Piece_L0 val_config_Piece_L0 (loop_hv step_config_Piece_L0)
theorem lok_config_Piece_L0 : LoopOk Tryz.prog (loopLH loop_config_Piece_L0 0) 0 (.loop (loopBody 0 (Tryz.f49.body.getD .skip))) := loop_in (D := loop_config_Piece_L0) (n := 200) (cur := 49) (mkC_ok jtys_ok jeqs_ok (fns_nil _) (inl_nil _) noLoops_ok mixed) Tryz.func49 (by kernel_rfl) (turns_of run_config_Piece_L0) (by kernel_rfl) (by kernel_rfl) (by kernel_rfl)

/- armplan/config.Piece -/
def t_config_Piece (a0 : List (Int)) (a1 : List (Int)) (a2 : Int) (a3 : Int) : Tr (List ((Int × Int)) × Bool) :=
  let r1 : Bool := config_straight a0 a1 a2
  .br (dom_config_straight a0 a1 a2) (
   .br ((!r1)) (
    .leaf ([], false)) (
    let x2 : Bool := decide (a3 < 0)
    .br (x2) (
     .leaf ([], false)) (
     let x3 : Int := shlI .i64 1 a2
     .br (decide (0 ≤ a2)) (
      let x4 : Bool := decide (x3 ≤ a3)
      .br (x4) (
       .leaf ([], false)) (
       .br (decide (0 ≤ ((a0.length : Nat) : Int)) && decide (((a0.length : Nat) : Int) ≤ ((a0.length : Nat) : Int)) && decide (((a0.length : Nat) : Int) ≤ 4294967296)) (
        let r5 : Outs os_config_Piece_L0 := val_config_Piece_L0 ((a0, ()), (a1, ()), (a2, ()), (a3, ()), ((List.replicate (((a0.length : Nat) : Int)).toNat (Ty.dflt (.pair (.int .i64) (.int .i64)))), ()), (((a0.length : Nat) : Int), ()), (0, ()), ())
        .br (dom_config_Piece_L0 ((a0, ()), (a1, ()), (a2, ()), (a3, ()), ((List.replicate (((a0.length : Nat) : Int)).toNat (Ty.dflt (.pair (.int .i64) (.int .i64)))), ()), (((a0.length : Nat) : Int), ()), (0, ()), ())) (
         let y6 : List ((Int × Int)) := r5.1.1
         .leaf (y6, true)) .fail) .fail)) .fail))) .fail
def config_Piece (a0 : List (Int)) (a1 : List (Int)) (a2 : Int) (a3 : Int) : (List ((Int × Int)) × Bool) := (t_config_Piece a0 a1 a2 a3).val
def dom_config_Piece (a0 : List (Int)) (a1 : List (Int)) (a2 : Int) (a3 : Int) : Bool := (t_config_Piece a0 a1 a2 a3).dom
theorem run_config_Piece : ∀ x, runF (mkC jtys jeqs [(82, hd_config_straight)] [] (lpOne 49 0 (loopLH loop_config_Piece_L0 0) noLoops)) 200 49 Tryz.f49 (argsA [.list (.int .i64), .list (.int .i64), .int .i64, .int .i64] x) [] (fun v h => toRes h [.list (.pair (.int .i64) (.int .i64)), .bool] v) = (t_config_Piece x.1 x.2.1 x.2.2.1 x.2.2.2.1).optA (fun r => (r.1, r.2, ())) := by
  intro x; kernel_rfl
theorem fn_config_Piece : FnOk Tryz.prog 49 [.list (.int .i64), .list (.int .i64), .int .i64, .int .i64] [.list (.pair (.int .i64) (.int .i64)), .bool] (fun x => bif dom_config_Piece x.1 x.2.1 x.2.2.1 x.2.2.2.1 then some ((fun r => (r.1, r.2, ())) (config_Piece x.1 x.2.1 x.2.2.1 x.2.2.2.1)) else none) :=
  fn_part (t := fun (x : Ar [.list (.int .i64), .list (.int .i64), .int .i64, .int .i64]) => t_config_Piece x.1 x.2.1 x.2.2.1 x.2.2.2.1) (R := (List ((Int × Int)) × Bool)) (Ts := [.list (.pair (.int .i64) (.int .i64)), .bool]) (mk := (fun r => (r.1, r.2, ()))) (mkC_ok jtys_ok jeqs_ok (fns_cons ok_config_straight (fns_nil _)) (inl_nil _) (lpOne_ok (b := loopBody 0 (Tryz.f49.body.getD .skip)) Tryz.func49 (by kernel_rfl) lok_config_Piece_L0 noLoops_ok) mixed) Tryz.func49 run_config_Piece
def hd_config_Piece : Hd := guardHd [.list (.int .i64), .list (.int .i64), .int .i64, .int .i64] [.list (.pair (.int .i64) (.int .i64)), .bool] (fun x => dom_config_Piece x.1 x.2.1 x.2.2.1 x.2.2.2.1) (fun x => (fun r => (r.1, r.2, ())) (config_Piece x.1 x.2.1 x.2.2.1 x.2.2.2.1))
theorem ok_config_Piece : HdOk Tryz.prog 49 hd_config_Piece.sem ∧ Enters Tryz.prog 49 := guard_ok fn_config_Piece Tryz.func49 (by kernel_rfl) (by kernel_rfl)

/- armplan/support.fits -/
def t_support_fits (a0 : DVec) : Tr Bool :=
  let x1 : Bool := decide (a0.1 < (-16384))
  .br (x1) (
   .leaf false) (
   let x2 : Bool := decide (16384 < a0.1)
   .br (x2) (
    .leaf false) (
    let x3 : Bool := decide (a0.2.1 < (-16384))
    .br (x3) (
     .leaf false) (
     let x4 : Bool := decide (16384 < a0.2.1)
     .br (x4) (
      .leaf false) (
      let x5 : Bool := decide (a0.2.2 < (-16384))
      .br (x5) (
       .leaf false) (
       let x6 : Bool := decide (16384 < a0.2.2)
       .br (x6) (
        .leaf false) (
        .leaf true))))))
def support_fits (a0 : DVec) : Bool := (t_support_fits a0).val
theorem run_support_fits : ∀ x, runF (mkC jtys jeqs [] [] noLoops) 200 55 Tryz.f55 (argsA [TVec] x) [] (fun v h => toRes h [.bool] v) = (t_support_fits x.1).optA (fun r => (r, ())) := by
  intro x; kernel_rfl
theorem fn_support_fits : FnOk Tryz.prog 55 [TVec] [.bool] (fun x => some ((fun r => (r, ())) (support_fits x.1))) :=
  fn_tot (t := fun (x : Ar [TVec]) => t_support_fits x.1) (R := Bool) (Ts := [.bool]) (mk := (fun r => (r, ()))) (mkC_ok jtys_ok jeqs_ok (fns_nil _) (inl_nil _) noLoops_ok mixed) Tryz.func55 run_support_fits (fun _ => by kernel_rfl)
def hd_support_fits : Hd := dataHd [TVec] [.bool] (fun x => some ((fun r => (r, ())) (support_fits x.1)))
theorem ok_support_fits : HdOk Tryz.prog 55 hd_support_fits.sem ∧ Enters Tryz.prog 55 := data_ok fn_support_fits Tryz.func55 (by kernel_rfl) (by kernel_rfl)

/- armplan/support.Usable -/
def t_support_Usable (a0 : DVec) : Tr Bool :=
  let r1 : Bool := support_fits a0
  .br (r1) (
   let x2 : Bool := !(decide (a0.1 = 0) && (decide (a0.2.1 = 0) && (decide (a0.2.2 = 0) && true)))
   .leaf x2) (
   .leaf false)
def support_Usable (a0 : DVec) : Bool := (t_support_Usable a0).val
theorem run_support_Usable : ∀ x, runF (mkC jtys jeqs [(55, hd_support_fits)] [] noLoops) 200 35 Tryz.f35 (argsA [TVec] x) [] (fun v h => toRes h [.bool] v) = (t_support_Usable x.1).optA (fun r => (r, ())) := by
  intro x; kernel_rfl
theorem fn_support_Usable : FnOk Tryz.prog 35 [TVec] [.bool] (fun x => some ((fun r => (r, ())) (support_Usable x.1))) :=
  fn_tot (t := fun (x : Ar [TVec]) => t_support_Usable x.1) (R := Bool) (Ts := [.bool]) (mk := (fun r => (r, ()))) (mkC_ok jtys_ok jeqs_ok (fns_cons ok_support_fits (fns_nil _)) (inl_nil _) noLoops_ok mixed) Tryz.func35 run_support_Usable (fun _ => by kernel_rfl)
def hd_support_Usable : Hd := dataHd [TVec] [.bool] (fun x => some ((fun r => (r, ())) (support_Usable x.1)))
theorem ok_support_Usable : HdOk Tryz.prog 35 hd_support_Usable.sem ∧ Enters Tryz.prog 35 := data_ok fn_support_Usable Tryz.func35 (by kernel_rfl) (by kernel_rfl)

/- armplan/shape.reaches -/
def t_shape_reaches (a0 : (Int × Int)) : Tr Bool :=
  let x1 : Bool := decide ((-268435456) ≤ a0.1)
  .br (x1) (
   let x2 : Bool := decide (a0.1 ≤ a0.2)
   .br (x2) (
    let x3 : Bool := decide (a0.2 ≤ 268435456)
    .leaf x3) (
    .leaf false)) (
   .leaf false)
def shape_reaches (a0 : (Int × Int)) : Bool := (t_shape_reaches a0).val
theorem run_shape_reaches : ∀ x, runF (mkC jtys jeqs [] [] noLoops) 200 103 Tryz.f103 (argsA [.pair (.int .i64) (.int .i64)] x) [] (fun v h => toRes h [.bool] v) = (t_shape_reaches x.1).optA (fun r => (r, ())) := by
  intro x; kernel_rfl
theorem fn_shape_reaches : FnOk Tryz.prog 103 [.pair (.int .i64) (.int .i64)] [.bool] (fun x => some ((fun r => (r, ())) (shape_reaches x.1))) :=
  fn_tot (t := fun (x : Ar [.pair (.int .i64) (.int .i64)]) => t_shape_reaches x.1) (R := Bool) (Ts := [.bool]) (mk := (fun r => (r, ()))) (mkC_ok jtys_ok jeqs_ok (fns_nil _) (inl_nil _) noLoops_ok mixed) Tryz.func103 run_shape_reaches (fun _ => by kernel_rfl)
def hd_shape_reaches : Hd := dataHd [.pair (.int .i64) (.int .i64)] [.bool] (fun x => some ((fun r => (r, ())) (shape_reaches x.1)))
theorem ok_shape_reaches : HdOk Tryz.prog 103 hd_shape_reaches.sem ∧ Enters Tryz.prog 103 := data_ok fn_shape_reaches Tryz.func103 (by kernel_rfl) (by kernel_rfl)

/- loop 0 of armplan/shape.Placed -/
abbrev ss_shape_Placed_L0 : List Slot := [⟨[5], false, false, [.d (.list (TIVec))]⟩, ⟨[6], false, false, [.d (.int .i64)]⟩, ⟨[7], false, false, [.d (.int .i64)]⟩]
abbrev os_shape_Placed_L0 : List (Exit × List Slot) := [(.exit 0, []), (.ret, [⟨[2], false, false, [.d (.bool)]⟩])]
def t_shape_Placed_L0 (a0 : List (DIVec)) (a1 : Int) (a2 : Int) : Tr (Sl ss_shape_Placed_L0 ⊕ Outs os_shape_Placed_L0) :=
  let x1 : Bool := decide (a2 < a1)
  .br (x1) (
   .br (decide (0 ≤ a2) && decide (a2 < ((a0.length : Nat) : Int))) (
    let r2 : Bool := shape_reaches (((List.getD a0 a2.toNat (Ty.dflt (TIVec)))).1)
    .br ((!r2)) (
     .leaf (.inr (.inr ((false, ()), ())))) (
     let r3 : Bool := shape_reaches ((((List.getD a0 a2.toNat (Ty.dflt (TIVec)))).2).1)
     .br ((!r3)) (
      .leaf (.inr (.inr ((false, ()), ())))) (
      let r4 : Bool := shape_reaches ((((List.getD a0 a2.toNat (Ty.dflt (TIVec)))).2).2)
      .br ((!r4)) (
       .leaf (.inr (.inr ((false, ()), ())))) (
       let x5 : Int := IntKind.wrap .i64 (a2 + 1)
       .leaf (.inl ((a0, ()), (a1, ()), (x5, ()), ())))))) .fail) (
   .leaf (.inr (.inl ())))
def step_shape_Placed_L0 : Sl ss_shape_Placed_L0 → Option (Sl ss_shape_Placed_L0 ⊕ Outs os_shape_Placed_L0) := fun x => (t_shape_Placed_L0 x.1.1 x.2.1.1 x.2.2.1.1).optA id
theorem run_shape_Placed_L0 : ∀ (x : Sl ss_shape_Placed_L0) (vs : Nat → Value), run (mkC jtys jeqs [(103, hd_shape_reaches)] [] noLoops) 200 74 (loopBody 0 (Tryz.f74.body.getD .skip)) (mkSt ss_shape_Placed_L0 x (baseT 36 [0] [] vs)) (endK ss_shape_Placed_L0 os_shape_Placed_L0 36 [0]) = (t_shape_Placed_L0 x.1.1 x.2.1.1 x.2.2.1.1).optA fun r => (r, [0].map (keptA [] vs)) := by
  intro x vs; kernel_rfl
instance inh_shape_Placed_L0 : Inhabited (Outs os_shape_Placed_L0) := ⟨outsDflt os_shape_Placed_L0⟩
def dom_shape_Placed_L0 (x : Sl ss_shape_Placed_L0) : Bool := (loopN step_shape_Placed_L0 rounds x).isSome
def val_shape_Placed_L0 (x : Sl ss_shape_Placed_L0) : Outs os_shape_Placed_L0 := (loopN step_shape_Placed_L0 rounds x).getD default
def loop_shape_Placed_L0 : LoopD := mkLoop ss_shape_Placed_L0 os_shape_Placed_L0 36 [0] [] step_shape_Placed_L0 dom_shape_Placed_L0 val_shape_Placed_L0 (loop_hv step_shape_Placed_L0)
theorem lok_shape_Placed_L0 : LoopOk Tryz.prog (loopLH loop_shape_Placed_L0 0) 0 (.loop (loopBody 0 (Tryz.f74.body.getD .skip))) := loop_in (D := loop_shape_Placed_L0) (n := 200) (cur := 74) (mkC_ok jtys_ok jeqs_ok (fns_cons ok_shape_reaches (fns_nil _)) (inl_nil _) noLoops_ok mixed) Tryz.func74 (by kernel_rfl) (turns_of run_shape_Placed_L0) (by kernel_rfl) (by kernel_rfl) (by kernel_rfl)

/- armplan/shape.Placed -/
def t_shape_Placed (a0 : List (DIVec)) : Tr Bool :=
  let r1 : Outs os_shape_Placed_L0 := val_shape_Placed_L0 ((a0, ()), (((a0.length : Nat) : Int), ()), (0, ()), ())
  .br (dom_shape_Placed_L0 ((a0, ()), (((a0.length : Nat) : Int), ()), (0, ()), ())) (
   let r2 := getL r1
   let r3 := getR r1
   .br (isL r1) (
    let x4 : Bool := decide (1 ≤ ((a0.length : Nat) : Int))
    .br (x4) (
     let x5 : Bool := decide (((a0.length : Nat) : Int) ≤ 8)
     .leaf x5) (
     .leaf false)) (
    let y6 : Bool := r3.1.1
    .leaf y6)) .fail
def shape_Placed (a0 : List (DIVec)) : Bool := (t_shape_Placed a0).val
def dom_shape_Placed (a0 : List (DIVec)) : Bool := (t_shape_Placed a0).dom
theorem run_shape_Placed : ∀ x, runF (mkC jtys jeqs [] [] (lpOne 74 0 (loopLH loop_shape_Placed_L0 0) noLoops)) 200 74 Tryz.f74 (argsA [.list (TIVec)] x) [] (fun v h => toRes h [.bool] v) = (t_shape_Placed x.1).optA (fun r => (r, ())) := by
  intro x; kernel_rfl
theorem fn_shape_Placed : FnOk Tryz.prog 74 [.list (TIVec)] [.bool] (fun x => bif dom_shape_Placed x.1 then some ((fun r => (r, ())) (shape_Placed x.1)) else none) :=
  fn_part (t := fun (x : Ar [.list (TIVec)]) => t_shape_Placed x.1) (R := Bool) (Ts := [.bool]) (mk := (fun r => (r, ()))) (mkC_ok jtys_ok jeqs_ok (fns_nil _) (inl_nil _) (lpOne_ok (b := loopBody 0 (Tryz.f74.body.getD .skip)) Tryz.func74 (by kernel_rfl) lok_shape_Placed_L0 noLoops_ok) mixed) Tryz.func74 run_shape_Placed
def hd_shape_Placed : Hd := guardHd [.list (TIVec)] [.bool] (fun x => dom_shape_Placed x.1) (fun x => (fun r => (r, ())) (shape_Placed x.1))
theorem ok_shape_Placed : HdOk Tryz.prog 74 hd_shape_Placed.sem ∧ Enters Tryz.prog 74 := guard_ok fn_shape_Placed Tryz.func74 (by kernel_rfl) (by kernel_rfl)

/- armplan/support.dot -/
def t_support_dot (a0 : DVec) (a1 : DIVec) : Tr (Int × Int) :=
  let x1 : Int := IntKind.wrap .i64 (a0.1 * a1.1.1)
  let x2 : Int := IntKind.wrap .i64 (a0.1 * a1.1.2)
  let x3 : Int := if x2 < x1 then x2 else x1
  let x4 : Int := IntKind.wrap .i64 (0 + x3)
  let x5 : Int := if x2 > x1 then x2 else x1
  let x6 : Int := IntKind.wrap .i64 (0 + x5)
  let x7 : Int := IntKind.wrap .i64 (a0.2.1 * a1.2.1.1)
  let x8 : Int := IntKind.wrap .i64 (a0.2.1 * a1.2.1.2)
  let x9 : Int := if x8 < x7 then x8 else x7
  let x10 : Int := IntKind.wrap .i64 (x4 + x9)
  let x11 : Int := if x8 > x7 then x8 else x7
  let x12 : Int := IntKind.wrap .i64 (x6 + x11)
  let x13 : Int := IntKind.wrap .i64 (a0.2.2 * a1.2.2.1)
  let x14 : Int := IntKind.wrap .i64 (a0.2.2 * a1.2.2.2)
  let x15 : Int := if x14 < x13 then x14 else x13
  let x16 : Int := IntKind.wrap .i64 (x10 + x15)
  let x17 : Int := if x14 > x13 then x14 else x13
  let x18 : Int := IntKind.wrap .i64 (x12 + x17)
  .leaf (x16, x18)
def support_dot (a0 : DVec) (a1 : DIVec) : (Int × Int) := (t_support_dot a0 a1).val
theorem run_support_dot : ∀ x, runF (mkC jtys jeqs [] [] noLoops) 200 75 Tryz.f75 (argsA [TVec, TIVec] x) [] (fun v h => toRes h [.int .i64, .int .i64] v) = (t_support_dot x.1 x.2.1).optA (fun r => (r.1, r.2, ())) := by
  intro x; kernel_rfl
theorem fn_support_dot : FnOk Tryz.prog 75 [TVec, TIVec] [.int .i64, .int .i64] (fun x => some ((fun r => (r.1, r.2, ())) (support_dot x.1 x.2.1))) :=
  fn_tot (t := fun (x : Ar [TVec, TIVec]) => t_support_dot x.1 x.2.1) (R := (Int × Int)) (Ts := [.int .i64, .int .i64]) (mk := (fun r => (r.1, r.2, ()))) (mkC_ok jtys_ok jeqs_ok (fns_nil _) (inl_nil _) noLoops_ok mixed) Tryz.func75 run_support_dot (fun _ => by kernel_rfl)
def hd_support_dot : Hd := dataHd [TVec, TIVec] [.int .i64, .int .i64] (fun x => some ((fun r => (r.1, r.2, ())) (support_dot x.1 x.2.1)))
theorem ok_support_dot : HdOk Tryz.prog 75 hd_support_dot.sem ∧ Enters Tryz.prog 75 := data_ok fn_support_dot Tryz.func75 (by kernel_rfl) (by kernel_rfl)

/- armplan/support.Dot -/
def t_support_Dot (a0 : DVec) (a1 : DIVec) : Tr (Int × Int) :=
  let r1 : Bool := support_Usable a0
  .br ((!r1)) (
   .leaf (0, 0)) (
   let r2 : Bool := shape_Placed [a1]
   .br (dom_shape_Placed [a1]) (
    .br ((!r2)) (
     .leaf (0, 0)) (
     let r3 : (Int × Int) := support_dot a0 a1
     .leaf (r3.1, r3.2))) .fail)
def support_Dot (a0 : DVec) (a1 : DIVec) : (Int × Int) := (t_support_Dot a0 a1).val
def dom_support_Dot (a0 : DVec) (a1 : DIVec) : Bool := (t_support_Dot a0 a1).dom
theorem run_support_Dot : ∀ x, runF (mkC jtys jeqs [(35, hd_support_Usable), (74, hd_shape_Placed), (75, hd_support_dot)] [] noLoops) 200 46 Tryz.f46 (argsA [TVec, TIVec] x) [] (fun v h => toRes h [.int .i64, .int .i64] v) = (t_support_Dot x.1 x.2.1).optA (fun r => (r.1, r.2, ())) := by
  intro x; kernel_rfl
theorem fn_support_Dot : FnOk Tryz.prog 46 [TVec, TIVec] [.int .i64, .int .i64] (fun x => bif dom_support_Dot x.1 x.2.1 then some ((fun r => (r.1, r.2, ())) (support_Dot x.1 x.2.1)) else none) :=
  fn_part (t := fun (x : Ar [TVec, TIVec]) => t_support_Dot x.1 x.2.1) (R := (Int × Int)) (Ts := [.int .i64, .int .i64]) (mk := (fun r => (r.1, r.2, ()))) (mkC_ok jtys_ok jeqs_ok (fns_cons ok_support_Usable (fns_cons ok_shape_Placed (fns_cons ok_support_dot (fns_nil _)))) (inl_nil _) noLoops_ok mixed) Tryz.func46 run_support_Dot
def hd_support_Dot : Hd := guardHd [TVec, TIVec] [.int .i64, .int .i64] (fun x => dom_support_Dot x.1 x.2.1) (fun x => (fun r => (r.1, r.2, ())) (support_Dot x.1 x.2.1))
theorem ok_support_Dot : HdOk Tryz.prog 46 hd_support_Dot.sem ∧ Enters Tryz.prog 46 := guard_ok fn_support_Dot Tryz.func46 (by kernel_rfl) (by kernel_rfl)

/- armplan/armplanmake.Robot -/
def t_armplanmake_Robot (a0 : List (Int)) : Tr DRobot :=
  let r1 : (DRobot × DSource) := armplanmake_robot (a0, 0)
  .br (dom_armplanmake_robot (a0, 0)) (
   .leaf r1.1) .fail
def armplanmake_Robot (a0 : List (Int)) : DRobot := (t_armplanmake_Robot a0).val
def dom_armplanmake_Robot (a0 : List (Int)) : Bool := (t_armplanmake_Robot a0).dom
theorem run_armplanmake_Robot : ∀ x, runF (mkC jtys jeqs [(16, hd_armplanmake_robot)] [(17, Tryz.f17)] noLoops) 200 6 Tryz.f6 (argsA [.list (.int .i64)] x) [] (fun v h => toRes h [TRobot] v) = (t_armplanmake_Robot x.1).optA (fun r => (r, ())) := by
  intro x; kernel_rfl
theorem fn_armplanmake_Robot : FnOk Tryz.prog 6 [.list (.int .i64)] [TRobot] (fun x => bif dom_armplanmake_Robot x.1 then some ((fun r => (r, ())) (armplanmake_Robot x.1)) else none) :=
  fn_part (t := fun (x : Ar [.list (.int .i64)]) => t_armplanmake_Robot x.1) (R := DRobot) (Ts := [TRobot]) (mk := (fun r => (r, ()))) (mkC_ok jtys_ok jeqs_ok (fns_cons ok_armplanmake_robot (fns_nil _)) (inl_cons Tryz.func17 (by kernel_rfl) (inl_nil _)) noLoops_ok mixed) Tryz.func6 run_armplanmake_Robot
def hd_armplanmake_Robot : Hd := guardHd [.list (.int .i64)] [TRobot] (fun x => dom_armplanmake_Robot x.1) (fun x => (fun r => (r, ())) (armplanmake_Robot x.1))
theorem ok_armplanmake_Robot : HdOk Tryz.prog 6 hd_armplanmake_Robot.sem ∧ Enters Tryz.prog 6 := guard_ok fn_armplanmake_Robot Tryz.func6 (by kernel_rfl) (by kernel_rfl)

/- armplan/armplanref10.Usable -/
def t_armplanref10_Usable (a0 : DVec) : Tr Bool :=
  let x1 : Bool := !(decide (a0.1 = 0) && (decide (a0.2.1 = 0) && (decide (a0.2.2 = 0) && true)))
  .br (x1) (
   let r2 : Bool := armplanref6_Near a0 16384
   .leaf r2) (
   .leaf false)
def armplanref10_Usable (a0 : DVec) : Bool := (t_armplanref10_Usable a0).val
theorem run_armplanref10_Usable : ∀ x, runF (mkC jtys jeqs [(24, hd_armplanref6_Near)] [] noLoops) 200 25 Tryz.f25 (argsA [TVec] x) [] (fun v h => toRes h [.bool] v) = (t_armplanref10_Usable x.1).optA (fun r => (r, ())) := by
  intro x; kernel_rfl
theorem fn_armplanref10_Usable : FnOk Tryz.prog 25 [TVec] [.bool] (fun x => some ((fun r => (r, ())) (armplanref10_Usable x.1))) :=
  fn_tot (t := fun (x : Ar [TVec]) => t_armplanref10_Usable x.1) (R := Bool) (Ts := [.bool]) (mk := (fun r => (r, ()))) (mkC_ok jtys_ok jeqs_ok (fns_cons ok_armplanref6_Near (fns_nil _)) (inl_nil _) noLoops_ok mixed) Tryz.func25 run_armplanref10_Usable (fun _ => by kernel_rfl)
def hd_armplanref10_Usable : Hd := dataHd [TVec] [.bool] (fun x => some ((fun r => (r, ())) (armplanref10_Usable x.1)))
theorem ok_armplanref10_Usable : HdOk Tryz.prog 25 hd_armplanref10_Usable.sem ∧ Enters Tryz.prog 25 := data_ok fn_armplanref10_Usable Tryz.func25 (by kernel_rfl) (by kernel_rfl)

/- armplan/armplanmake.Normal -/
def t_armplanmake_Normal (a0 : Int) (a1 : Int) (a2 : Int) : Tr DVec :=
  let r1 : Int := armplanmake_Round a0 41
  let x2 : Int := IntKind.wrap .i64 (r1 - 20)
  let r3 : Int := armplanmake_Round a1 41
  let x4 : Int := IntKind.wrap .i64 (r3 - 20)
  let r5 : Int := armplanmake_Round a2 41
  let x6 : Int := IntKind.wrap .i64 (r5 - 20)
  let x7 : Int := bitI .and .i64 a0 8
  let x8 : Bool := decide (x7 = 8)
  .br (x8) (
   let r9 : Int := armplanmake_Round a0 32769
   let x10 : Int := IntKind.wrap .i64 (r9 - 16384)
   let r11 : Int := armplanmake_Round a1 32769
   let x12 : Int := IntKind.wrap .i64 (r11 - 16384)
   let r13 : Int := armplanmake_Round a2 32769
   let x14 : Int := IntKind.wrap .i64 (r13 - 16384)
   let r15 : Bool := armplanref10_Usable (x10, (x12, x14))
   .br ((!r15)) (
    .leaf (1, (0, 0))) (
    .leaf (x10, (x12, x14)))) (
   let r16 : Bool := armplanref10_Usable (x2, (x4, x6))
   .br ((!r16)) (
    .leaf (1, (0, 0))) (
    .leaf (x2, (x4, x6))))
def armplanmake_Normal (a0 : Int) (a1 : Int) (a2 : Int) : DVec := (t_armplanmake_Normal a0 a1 a2).val
theorem run_armplanmake_Normal : ∀ x, runF (mkC jtys jeqs [(8, hd_armplanmake_Round), (25, hd_armplanref10_Usable)] [] noLoops) 200 20 Tryz.f20 (argsA [.int .i64, .int .i64, .int .i64] x) [] (fun v h => toRes h [TVec] v) = (t_armplanmake_Normal x.1 x.2.1 x.2.2.1).optA (fun r => (r, ())) := by
  intro x; kernel_rfl
theorem fn_armplanmake_Normal : FnOk Tryz.prog 20 [.int .i64, .int .i64, .int .i64] [TVec] (fun x => some ((fun r => (r, ())) (armplanmake_Normal x.1 x.2.1 x.2.2.1))) :=
  fn_tot (t := fun (x : Ar [.int .i64, .int .i64, .int .i64]) => t_armplanmake_Normal x.1 x.2.1 x.2.2.1) (R := DVec) (Ts := [TVec]) (mk := (fun r => (r, ()))) (mkC_ok jtys_ok jeqs_ok (fns_cons ok_armplanmake_Round (fns_cons ok_armplanref10_Usable (fns_nil _))) (inl_nil _) noLoops_ok mixed) Tryz.func20 run_armplanmake_Normal (fun _ => by kernel_rfl)
def hd_armplanmake_Normal : Hd := dataHd [.int .i64, .int .i64, .int .i64] [TVec] (fun x => some ((fun r => (r, ())) (armplanmake_Normal x.1 x.2.1 x.2.2.1)))
theorem ok_armplanmake_Normal : HdOk Tryz.prog 20 hd_armplanmake_Normal.sem ∧ Enters Tryz.prog 20 := data_ok fn_armplanmake_Normal Tryz.func20 (by kernel_rfl) (by kernel_rfl)

/- loop 0 of armplan/armplanmake.Slider -/
abbrev ss_armplanmake_Slider_L0 : List Slot := [⟨[5], true, false, [.v 69 (TJoint), .v 80 (TMass)]⟩, ⟨[0], false, false, [.d (.int .i64)]⟩, ⟨[1], false, false, [.d (.int .i64)]⟩, ⟨[6], false, false, [.d (.int .i64)]⟩]
abbrev os_armplanmake_Slider_L0 : List (Exit × List Slot) := [(.exit 0, [⟨[5], true, false, [.v 69 (TJoint), .v 80 (TMass)]⟩])]
def t_armplanmake_Slider_L0 (a0 : List (DJoint)) (a1 : List (DMass)) (a2 : Int) (a3 : Int) (a4 : Int) : Tr (Sl ss_armplanmake_Slider_L0 ⊕ Outs os_armplanmake_Slider_L0) :=
  let x1 : Bool := decide (a4 < a2)
  .br (x1) (
   let r2 : ByteArray := armplanmake_letter a4
   .br (dom_armplanmake_letter a4) (
    let x3 : Int := Int.tmod a4 2
    let x4 : Int := IntKind.wrap .i64 (4 + x3)
    let x5 : Int := IntKind.wrap .i64 (a4 - 1)
    .br (room (a0.length + [(r2, (x4, (x5, ((0, (0, 0)), (0, (a3, (1, (65536, (65536, 65536)))))))))].length)) (
     let x6 : Int := IntKind.wrap .i64 (a4 + 1)
     .leaf (.inl (((a0 ++ [(r2, (x4, (x5, ((0, (0, 0)), (0, (a3, (1, (65536, (65536, 65536)))))))))]), a1, ()), (a2, ()), (a3, ()), (x6, ()), ()))) .fail) .fail) (
   .leaf (.inr ((a0, a1, ()), ())))
def step_armplanmake_Slider_L0 : Sl ss_armplanmake_Slider_L0 → Option (Sl ss_armplanmake_Slider_L0 ⊕ Outs os_armplanmake_Slider_L0) := fun x => (t_armplanmake_Slider_L0 x.1.1 x.1.2.1 x.2.1.1 x.2.2.1.1 x.2.2.2.1.1).optA id
theorem run_armplanmake_Slider_L0 : ∀ (x : Sl ss_armplanmake_Slider_L0) (vs : Nat → Value), run (mkC jtys jeqs [(27, hd_armplanmake_letter)] [] noLoops) 200 13 (loopBody 0 (Tryz.f13.body.getD .skip)) (mkSt ss_armplanmake_Slider_L0 x (baseT 27 [4] [] vs)) (endK ss_armplanmake_Slider_L0 os_armplanmake_Slider_L0 27 [4]) = (t_armplanmake_Slider_L0 x.1.1 x.1.2.1 x.2.1.1 x.2.2.1.1 x.2.2.2.1.1).optA fun r => (r, [4].map (keptA [] vs)) := by
  intro x vs; kernel_rfl
instance inh_armplanmake_Slider_L0 : Inhabited (Outs os_armplanmake_Slider_L0) := ⟨outsDflt os_armplanmake_Slider_L0⟩
def dom_armplanmake_Slider_L0 (x : Sl ss_armplanmake_Slider_L0) : Bool := (loopN step_armplanmake_Slider_L0 rounds x).isSome
def val_armplanmake_Slider_L0 (x : Sl ss_armplanmake_Slider_L0) : Outs os_armplanmake_Slider_L0 := (loopN step_armplanmake_Slider_L0 rounds x).getD default
def loop_armplanmake_Slider_L0 : LoopD := mkLoop ss_armplanmake_Slider_L0 os_armplanmake_Slider_L0 27 [4] [] step_armplanmake_Slider_L0 dom_armplanmake_Slider_L0 val_armplanmake_Slider_L0 (loop_hv step_armplanmake_Slider_L0)
theorem lok_armplanmake_Slider_L0 : LoopOk Tryz.prog (loopLH loop_armplanmake_Slider_L0 0) 0 (.loop (loopBody 0 (Tryz.f13.body.getD .skip))) := loop_in (D := loop_armplanmake_Slider_L0) (n := 200) (cur := 13) (mkC_ok jtys_ok jeqs_ok (fns_cons ok_armplanmake_letter (fns_nil _)) (inl_nil _) noLoops_ok mixed) Tryz.func13 (by kernel_rfl) (turns_of run_armplanmake_Slider_L0) (by kernel_rfl) (by kernel_rfl) (by kernel_rfl)

/- armplan/armplanmake.Slider -/
def t_armplanmake_Slider (a0 : Int) (a1 : Int) : Tr DRobot :=
  let r1 : Outs os_armplanmake_Slider_L0 := val_armplanmake_Slider_L0 (([], [], ()), (a0, ()), (a1, ()), (0, ()), ())
  .br (dom_armplanmake_Slider_L0 (([], [], ()), (a0, ()), (a1, ()), (0, ()), ())) (
   let y2 : List (DJoint) := r1.1.1
   let y3 : List (DMass) := r1.1.2.1
   .leaf (y2, y3)) .fail
def armplanmake_Slider (a0 : Int) (a1 : Int) : DRobot := (t_armplanmake_Slider a0 a1).val
def dom_armplanmake_Slider (a0 : Int) (a1 : Int) : Bool := (t_armplanmake_Slider a0 a1).dom
theorem run_armplanmake_Slider : ∀ x, runF (mkC jtys jeqs [] [] (lpOne 13 0 (loopLH loop_armplanmake_Slider_L0 0) noLoops)) 200 13 Tryz.f13 (argsA [.int .i64, .int .i64] x) [] (fun v h => toRes h [TRobot] v) = (t_armplanmake_Slider x.1 x.2.1).optA (fun r => (r, ())) := by
  intro x; kernel_rfl
theorem fn_armplanmake_Slider : FnOk Tryz.prog 13 [.int .i64, .int .i64] [TRobot] (fun x => bif dom_armplanmake_Slider x.1 x.2.1 then some ((fun r => (r, ())) (armplanmake_Slider x.1 x.2.1)) else none) :=
  fn_part (t := fun (x : Ar [.int .i64, .int .i64]) => t_armplanmake_Slider x.1 x.2.1) (R := DRobot) (Ts := [TRobot]) (mk := (fun r => (r, ()))) (mkC_ok jtys_ok jeqs_ok (fns_nil _) (inl_nil _) (lpOne_ok (b := loopBody 0 (Tryz.f13.body.getD .skip)) Tryz.func13 (by kernel_rfl) lok_armplanmake_Slider_L0 noLoops_ok) mixed) Tryz.func13 run_armplanmake_Slider
def hd_armplanmake_Slider : Hd := guardHd [.int .i64, .int .i64] [TRobot] (fun x => dom_armplanmake_Slider x.1 x.2.1) (fun x => (fun r => (r, ())) (armplanmake_Slider x.1 x.2.1))
theorem ok_armplanmake_Slider : HdOk Tryz.prog 13 hd_armplanmake_Slider.sem ∧ Enters Tryz.prog 13 := guard_ok fn_armplanmake_Slider Tryz.func13 (by kernel_rfl) (by kernel_rfl)

/- armplan/armplanref10.reached -/
def t_armplanref10_reached (a0 : DIVec) : Tr Bool :=
  let x1 : Bool := decide (a0.1.1 < (-268435456))
  .br (x1) (
   .leaf false) (
   let x2 : Bool := decide (a0.1.2 < a0.1.1)
   .br (x2) (
    .leaf false) (
    let x3 : Bool := decide (268435456 < a0.1.2)
    .br (x3) (
     .leaf false) (
     let x4 : Bool := decide (a0.2.1.1 < (-268435456))
     .br (x4) (
      .leaf false) (
      let x5 : Bool := decide (a0.2.1.2 < a0.2.1.1)
      .br (x5) (
       .leaf false) (
       let x6 : Bool := decide (268435456 < a0.2.1.2)
       .br (x6) (
        .leaf false) (
        let x7 : Bool := decide (a0.2.2.1 < (-268435456))
        .br (x7) (
         .leaf false) (
         let x8 : Bool := decide (a0.2.2.2 < a0.2.2.1)
         .br (x8) (
          .leaf false) (
          let x9 : Bool := decide (268435456 < a0.2.2.2)
          .br (x9) (
           .leaf false) (
           .leaf true)))))))))
def armplanref10_reached (a0 : DIVec) : Bool := (t_armplanref10_reached a0).val
theorem run_armplanref10_reached : ∀ x, runF (mkC jtys jeqs [] [] noLoops) 200 67 Tryz.f67 (argsA [TIVec] x) [] (fun v h => toRes h [.bool] v) = (t_armplanref10_reached x.1).optA (fun r => (r, ())) := by
  intro x; kernel_rfl
theorem fn_armplanref10_reached : FnOk Tryz.prog 67 [TIVec] [.bool] (fun x => some ((fun r => (r, ())) (armplanref10_reached x.1))) :=
  fn_tot (t := fun (x : Ar [TIVec]) => t_armplanref10_reached x.1) (R := Bool) (Ts := [.bool]) (mk := (fun r => (r, ()))) (mkC_ok jtys_ok jeqs_ok (fns_nil _) (inl_nil _) noLoops_ok mixed) Tryz.func67 run_armplanref10_reached (fun _ => by kernel_rfl)
def hd_armplanref10_reached : Hd := dataHd [TIVec] [.bool] (fun x => some ((fun r => (r, ())) (armplanref10_reached x.1)))
theorem ok_armplanref10_reached : HdOk Tryz.prog 67 hd_armplanref10_reached.sem ∧ Enters Tryz.prog 67 := data_ok fn_armplanref10_reached Tryz.func67 (by kernel_rfl) (by kernel_rfl)

/- armplan/armplanref10.Dot -/
def t_armplanref10_Dot (a0 : DVec) (a1 : DIVec) : Tr (Int × Int) :=
  let r1 : Bool := armplanref10_Usable a0
  .br ((!r1)) (
   .leaf (0, 0)) (
   let r2 : Bool := armplanref10_reached a1
   .br ((!r2)) (
    .leaf (0, 0)) (
    let x3 : Int := IntKind.wrap .i64 (a0.1 * a1.1.1)
    let x4 : Int := IntKind.wrap .i64 (a0.1 * a1.1.2)
    let x5 : Int := if x4 < x3 then x4 else x3
    let x6 : Int := IntKind.wrap .i64 (0 + x5)
    let x7 : Int := if x4 > x3 then x4 else x3
    let x8 : Int := IntKind.wrap .i64 (0 + x7)
    let x9 : Int := IntKind.wrap .i64 (a0.2.1 * a1.2.1.1)
    let x10 : Int := IntKind.wrap .i64 (a0.2.1 * a1.2.1.2)
    let x11 : Int := if x10 < x9 then x10 else x9
    let x12 : Int := IntKind.wrap .i64 (x6 + x11)
    let x13 : Int := if x10 > x9 then x10 else x9
    let x14 : Int := IntKind.wrap .i64 (x8 + x13)
    let x15 : Int := IntKind.wrap .i64 (a0.2.2 * a1.2.2.1)
    let x16 : Int := IntKind.wrap .i64 (a0.2.2 * a1.2.2.2)
    let x17 : Int := if x16 < x15 then x16 else x15
    let x18 : Int := IntKind.wrap .i64 (x12 + x17)
    let x19 : Int := if x16 > x15 then x16 else x15
    let x20 : Int := IntKind.wrap .i64 (x14 + x19)
    .leaf (x18, x20)))
def armplanref10_Dot (a0 : DVec) (a1 : DIVec) : (Int × Int) := (t_armplanref10_Dot a0 a1).val
theorem run_armplanref10_Dot : ∀ x, runF (mkC jtys jeqs [(25, hd_armplanref10_Usable), (67, hd_armplanref10_reached)] [] noLoops) 200 43 Tryz.f43 (argsA [TVec, TIVec] x) [] (fun v h => toRes h [.int .i64, .int .i64] v) = (t_armplanref10_Dot x.1 x.2.1).optA (fun r => (r.1, r.2, ())) := by
  intro x; kernel_rfl
theorem fn_armplanref10_Dot : FnOk Tryz.prog 43 [TVec, TIVec] [.int .i64, .int .i64] (fun x => some ((fun r => (r.1, r.2, ())) (armplanref10_Dot x.1 x.2.1))) :=
  fn_tot (t := fun (x : Ar [TVec, TIVec]) => t_armplanref10_Dot x.1 x.2.1) (R := (Int × Int)) (Ts := [.int .i64, .int .i64]) (mk := (fun r => (r.1, r.2, ()))) (mkC_ok jtys_ok jeqs_ok (fns_cons ok_armplanref10_Usable (fns_cons ok_armplanref10_reached (fns_nil _))) (inl_nil _) noLoops_ok mixed) Tryz.func43 run_armplanref10_Dot (fun _ => by kernel_rfl)
def hd_armplanref10_Dot : Hd := dataHd [TVec, TIVec] [.int .i64, .int .i64] (fun x => some ((fun r => (r.1, r.2, ())) (armplanref10_Dot x.1 x.2.1)))
theorem ok_armplanref10_Dot : HdOk Tryz.prog 43 hd_armplanref10_Dot.sem ∧ Enters Tryz.prog 43 := data_ok fn_armplanref10_Dot Tryz.func43 (by kernel_rfl) (by kernel_rfl)

/- loop 0 of armplan/armplanref10.Within -/
abbrev ss_armplanref10_Within_L0 : List Slot := [⟨[0], false, false, [.d (.list (.pair (.int .i64) (.int .i64)))]⟩, ⟨[1], false, false, [.d (.list (.pair (.int .i64) (.int .i64)))]⟩, ⟨[5], false, false, [.d (.int .i64)]⟩]
abbrev os_armplanref10_Within_L0 : List (Exit × List Slot) := [(.exit 0, []), (.ret, [⟨[4], false, false, [.d (.bool)]⟩])]
def t_armplanref10_Within_L0 (a0 : List ((Int × Int))) (a1 : List ((Int × Int))) (a2 : Int) : Tr (Sl ss_armplanref10_Within_L0 ⊕ Outs os_armplanref10_Within_L0) :=
  let x1 : Bool := decide (a2 < ((a0.length : Nat) : Int))
  .br (x1) (
   .br (decide (0 ≤ a2) && decide (a2 < ((a0.length : Nat) : Int))) (
    .br (decide (0 ≤ a2) && decide (a2 < ((a1.length : Nat) : Int))) (
     let r2 : Bool := armplanref1_Within (List.getD a0 a2.toNat (Ty.dflt (.pair (.int .i64) (.int .i64)))) (List.getD a1 a2.toNat (Ty.dflt (.pair (.int .i64) (.int .i64))))
     .br ((!r2)) (
      .leaf (.inr (.inr ((false, ()), ())))) (
      let x3 : Int := IntKind.wrap .i64 (a2 + 1)
      .leaf (.inl ((a0, ()), (a1, ()), (x3, ()), ())))) .fail) .fail) (
   .leaf (.inr (.inl ())))
def step_armplanref10_Within_L0 : Sl ss_armplanref10_Within_L0 → Option (Sl ss_armplanref10_Within_L0 ⊕ Outs os_armplanref10_Within_L0) := fun x => (t_armplanref10_Within_L0 x.1.1 x.2.1.1 x.2.2.1.1).optA id
theorem run_armplanref10_Within_L0 : ∀ (x : Sl ss_armplanref10_Within_L0) (vs : Nat → Value), run (mkC jtys jeqs [(87, hd_armplanref1_Within)] [] noLoops) 200 58 (loopBody 0 (Tryz.f58.body.getD .skip)) (mkSt ss_armplanref10_Within_L0 x (baseT 37 [] [] vs)) (endK ss_armplanref10_Within_L0 os_armplanref10_Within_L0 37 []) = (t_armplanref10_Within_L0 x.1.1 x.2.1.1 x.2.2.1.1).optA fun r => (r, [].map (keptA [] vs)) := by
  intro x vs; kernel_rfl
instance inh_armplanref10_Within_L0 : Inhabited (Outs os_armplanref10_Within_L0) := ⟨outsDflt os_armplanref10_Within_L0⟩
def dom_armplanref10_Within_L0 (x : Sl ss_armplanref10_Within_L0) : Bool := (loopN step_armplanref10_Within_L0 rounds x).isSome
def val_armplanref10_Within_L0 (x : Sl ss_armplanref10_Within_L0) : Outs os_armplanref10_Within_L0 := (loopN step_armplanref10_Within_L0 rounds x).getD default
def loop_armplanref10_Within_L0 : LoopD := mkLoop ss_armplanref10_Within_L0 os_armplanref10_Within_L0 37 [] [] step_armplanref10_Within_L0 dom_armplanref10_Within_L0 val_armplanref10_Within_L0 (loop_hv step_armplanref10_Within_L0)
theorem lok_armplanref10_Within_L0 : LoopOk Tryz.prog (loopLH loop_armplanref10_Within_L0 0) 0 (.loop (loopBody 0 (Tryz.f58.body.getD .skip))) := loop_in (D := loop_armplanref10_Within_L0) (n := 200) (cur := 58) (mkC_ok jtys_ok jeqs_ok (fns_cons ok_armplanref1_Within (fns_nil _)) (inl_nil _) noLoops_ok mixed) Tryz.func58 (by kernel_rfl) (turns_of run_armplanref10_Within_L0) (by kernel_rfl) (by kernel_rfl) (by kernel_rfl)

/- armplan/armplanref10.Within -/
def t_armplanref10_Within (a0 : List ((Int × Int))) (a1 : List ((Int × Int))) : Tr Bool :=
  let r1 : Bool := armplanref10_allValid a0
  .br (dom_armplanref10_allValid a0) (
   .br ((!r1)) (
    .leaf false) (
    let r2 : Bool := armplanref10_allValid a1
    .br (dom_armplanref10_allValid a1) (
     .br ((!r2)) (
      .leaf false) (
      let x3 : Bool := !decide (((a0.length : Nat) : Int) = ((a1.length : Nat) : Int))
      .br (x3) (
       .leaf false) (
       let r4 : Outs os_armplanref10_Within_L0 := val_armplanref10_Within_L0 ((a0, ()), (a1, ()), (0, ()), ())
       .br (dom_armplanref10_Within_L0 ((a0, ()), (a1, ()), (0, ()), ())) (
        let r5 := getL r4
        let r6 := getR r4
        .br (isL r4) (
         .leaf true) (
         let y7 : Bool := r6.1.1
         .leaf y7)) .fail))) .fail)) .fail
def armplanref10_Within (a0 : List ((Int × Int))) (a1 : List ((Int × Int))) : Bool := (t_armplanref10_Within a0 a1).val
def dom_armplanref10_Within (a0 : List ((Int × Int))) (a1 : List ((Int × Int))) : Bool := (t_armplanref10_Within a0 a1).dom
theorem run_armplanref10_Within : ∀ x, runF (mkC jtys jeqs [(86, hd_armplanref10_allValid)] [] (lpOne 58 0 (loopLH loop_armplanref10_Within_L0 0) noLoops)) 200 58 Tryz.f58 (argsA [.list (.pair (.int .i64) (.int .i64)), .list (.pair (.int .i64) (.int .i64))] x) [] (fun v h => toRes h [.bool] v) = (t_armplanref10_Within x.1 x.2.1).optA (fun r => (r, ())) := by
  intro x; kernel_rfl
theorem fn_armplanref10_Within : FnOk Tryz.prog 58 [.list (.pair (.int .i64) (.int .i64)), .list (.pair (.int .i64) (.int .i64))] [.bool] (fun x => bif dom_armplanref10_Within x.1 x.2.1 then some ((fun r => (r, ())) (armplanref10_Within x.1 x.2.1)) else none) :=
  fn_part (t := fun (x : Ar [.list (.pair (.int .i64) (.int .i64)), .list (.pair (.int .i64) (.int .i64))]) => t_armplanref10_Within x.1 x.2.1) (R := Bool) (Ts := [.bool]) (mk := (fun r => (r, ()))) (mkC_ok jtys_ok jeqs_ok (fns_cons ok_armplanref10_allValid (fns_nil _)) (inl_nil _) (lpOne_ok (b := loopBody 0 (Tryz.f58.body.getD .skip)) Tryz.func58 (by kernel_rfl) lok_armplanref10_Within_L0 noLoops_ok) mixed) Tryz.func58 run_armplanref10_Within
def hd_armplanref10_Within : Hd := guardHd [.list (.pair (.int .i64) (.int .i64)), .list (.pair (.int .i64) (.int .i64))] [.bool] (fun x => dom_armplanref10_Within x.1 x.2.1) (fun x => (fun r => (r, ())) (armplanref10_Within x.1 x.2.1))
theorem ok_armplanref10_Within : HdOk Tryz.prog 58 hd_armplanref10_Within.sem ∧ Enters Tryz.prog 58 := guard_ok fn_armplanref10_Within Tryz.func58 (by kernel_rfl) (by kernel_rfl)

/- loop 0 of armplan/armplanref10.Limits -/
abbrev ss_armplanref10_Limits_L0 : List Slot := [⟨[1], true, false, [.d (TRobot)]⟩, ⟨[3], false, false, [.v 46 (.pair (.int .i64) (.int .i64))]⟩, ⟨[4], false, false, [.d (.int .i64)]⟩]
abbrev os_armplanref10_Limits_L0 : List (Exit × List Slot) := [(.exit 0, [⟨[1], true, false, [.d (TRobot)]⟩, ⟨[3], false, false, [.v 46 (.pair (.int .i64) (.int .i64))]⟩])]
def t_armplanref10_Limits_L0 (a0 : DRobot) (a1 : List ((Int × Int))) (a2 : Int) : Tr (Sl ss_armplanref10_Limits_L0 ⊕ Outs os_armplanref10_Limits_L0) :=
  let x1 : Bool := decide (a2 < ((a0.1.length : Nat) : Int))
  .br (x1) (
   .br (decide (0 ≤ a2) && decide (a2 < ((a0.1.length : Nat) : Int))) (
    .br (decide (0 ≤ a2) && decide (a2 < ((a0.1.length : Nat) : Int))) (
     .br (room (a1.length + [(((((((List.getD a0.1 a2.toNat (Ty.dflt (TJoint)))).2).2).2).2).1, (((((((List.getD a0.1 a2.toNat (Ty.dflt (TJoint)))).2).2).2).2).2).1)].length)) (
      let x2 : Int := IntKind.wrap .i64 (a2 + 1)
      .leaf (.inl ((a0, ()), ((a1 ++ [(((((((List.getD a0.1 a2.toNat (Ty.dflt (TJoint)))).2).2).2).2).1, (((((((List.getD a0.1 a2.toNat (Ty.dflt (TJoint)))).2).2).2).2).2).1)]), ()), (x2, ()), ()))) .fail) .fail) .fail) (
   .leaf (.inr ((a0, ()), (a1, ()), ())))
def step_armplanref10_Limits_L0 : Sl ss_armplanref10_Limits_L0 → Option (Sl ss_armplanref10_Limits_L0 ⊕ Outs os_armplanref10_Limits_L0) := fun x => (t_armplanref10_Limits_L0 x.1.1 x.2.1.1 x.2.2.1.1).optA id
theorem run_armplanref10_Limits_L0 : ∀ (x : Sl ss_armplanref10_Limits_L0) (vs : Nat → Value), run (mkC jtys jeqs [] [] noLoops) 200 59 (loopBody 0 (Tryz.f59.body.getD .skip)) (mkSt ss_armplanref10_Limits_L0 x (baseT 32 [] [] vs)) (endK ss_armplanref10_Limits_L0 os_armplanref10_Limits_L0 32 []) = (t_armplanref10_Limits_L0 x.1.1 x.2.1.1 x.2.2.1.1).optA fun r => (r, [].map (keptA [] vs)) := by
  intro x vs; kernel_rfl
instance inh_armplanref10_Limits_L0 : Inhabited (Outs os_armplanref10_Limits_L0) := ⟨outsDflt os_armplanref10_Limits_L0⟩
def dom_armplanref10_Limits_L0 (x : Sl ss_armplanref10_Limits_L0) : Bool := (loopN step_armplanref10_Limits_L0 rounds x).isSome
def val_armplanref10_Limits_L0 (x : Sl ss_armplanref10_Limits_L0) : Outs os_armplanref10_Limits_L0 := (loopN step_armplanref10_Limits_L0 rounds x).getD default
def loop_armplanref10_Limits_L0 : LoopD := mkLoop ss_armplanref10_Limits_L0 os_armplanref10_Limits_L0 32 [] [] step_armplanref10_Limits_L0 dom_armplanref10_Limits_L0 val_armplanref10_Limits_L0 (loop_hv step_armplanref10_Limits_L0)
theorem lok_armplanref10_Limits_L0 : LoopOk Tryz.prog (loopLH loop_armplanref10_Limits_L0 0) 0 (.loop (loopBody 0 (Tryz.f59.body.getD .skip))) := loop_in (D := loop_armplanref10_Limits_L0) (n := 200) (cur := 59) (mkC_ok jtys_ok jeqs_ok (fns_nil _) (inl_nil _) noLoops_ok mixed) Tryz.func59 (by kernel_rfl) (turns_of run_armplanref10_Limits_L0) (by kernel_rfl) (by kernel_rfl) (by kernel_rfl)

/- armplan/armplanref10.Limits -/
def t_armplanref10_Limits (a0 : DRobot) : Tr (List ((Int × Int))) :=
  let r1 : Int := armplanref6_CheckRobot a0
  .br (dom_armplanref6_CheckRobot a0) (
   let x2 : Bool := !decide (r1 = 0)
   .br (x2) (
    .leaf []) (
    let r3 : Outs os_armplanref10_Limits_L0 := val_armplanref10_Limits_L0 ((a0, ()), ([], ()), (0, ()), ())
    .br (dom_armplanref10_Limits_L0 ((a0, ()), ([], ()), (0, ()), ())) (
     let y4 : DRobot := r3.1.1
     let y5 : List ((Int × Int)) := r3.2.1.1
     .leaf y5) .fail)) .fail
def armplanref10_Limits (a0 : DRobot) : List ((Int × Int)) := (t_armplanref10_Limits a0).val
def dom_armplanref10_Limits (a0 : DRobot) : Bool := (t_armplanref10_Limits a0).dom
theorem run_armplanref10_Limits : ∀ x, runF (mkC jtys jeqs [(23, hd_armplanref6_CheckRobot)] [] (lpOne 59 0 (loopLH loop_armplanref10_Limits_L0 0) noLoops)) 200 59 Tryz.f59 (argsA [TRobot] x) [] (fun v h => toRes h [.list (.pair (.int .i64) (.int .i64))] v) = (t_armplanref10_Limits x.1).optA (fun r => (r, ())) := by
  intro x; kernel_rfl
theorem fn_armplanref10_Limits : FnOk Tryz.prog 59 [TRobot] [.list (.pair (.int .i64) (.int .i64))] (fun x => bif dom_armplanref10_Limits x.1 then some ((fun r => (r, ())) (armplanref10_Limits x.1)) else none) :=
  fn_part (t := fun (x : Ar [TRobot]) => t_armplanref10_Limits x.1) (R := List ((Int × Int))) (Ts := [.list (.pair (.int .i64) (.int .i64))]) (mk := (fun r => (r, ()))) (mkC_ok jtys_ok jeqs_ok (fns_cons ok_armplanref6_CheckRobot (fns_nil _)) (inl_nil _) (lpOne_ok (b := loopBody 0 (Tryz.f59.body.getD .skip)) Tryz.func59 (by kernel_rfl) lok_armplanref10_Limits_L0 noLoops_ok) mixed) Tryz.func59 run_armplanref10_Limits
def hd_armplanref10_Limits : Hd := guardHd [TRobot] [.list (.pair (.int .i64) (.int .i64))] (fun x => dom_armplanref10_Limits x.1) (fun x => (fun r => (r, ())) (armplanref10_Limits x.1))
theorem ok_armplanref10_Limits : HdOk Tryz.prog 59 hd_armplanref10_Limits.sem ∧ Enters Tryz.prog 59 := guard_ok fn_armplanref10_Limits Tryz.func59 (by kernel_rfl) (by kernel_rfl)

/- armplan/armplanref10.InsideBox -/
def t_armplanref10_InsideBox (a0 : DRobot) (a1 : List ((Int × Int))) : Tr Bool :=
  let r1 : List ((Int × Int)) := armplanref10_Limits a0
  .br (dom_armplanref10_Limits a0) (
   let r2 : Bool := armplanref10_Within a1 r1
   .br (dom_armplanref10_Within a1 r1) (
    .br (r2) (
     let x3 : Bool := decide (0 < ((a1.length : Nat) : Int))
     .leaf x3) (
     .leaf false)) .fail) .fail
def armplanref10_InsideBox (a0 : DRobot) (a1 : List ((Int × Int))) : Bool := (t_armplanref10_InsideBox a0 a1).val
def dom_armplanref10_InsideBox (a0 : DRobot) (a1 : List ((Int × Int))) : Bool := (t_armplanref10_InsideBox a0 a1).dom
theorem run_armplanref10_InsideBox : ∀ x, runF (mkC jtys jeqs [(58, hd_armplanref10_Within), (59, hd_armplanref10_Limits)] [] noLoops) 200 38 Tryz.f38 (argsA [TRobot, .list (.pair (.int .i64) (.int .i64))] x) [] (fun v h => toRes h [.bool] v) = (t_armplanref10_InsideBox x.1 x.2.1).optA (fun r => (r, ())) := by
  intro x; kernel_rfl
theorem fn_armplanref10_InsideBox : FnOk Tryz.prog 38 [TRobot, .list (.pair (.int .i64) (.int .i64))] [.bool] (fun x => bif dom_armplanref10_InsideBox x.1 x.2.1 then some ((fun r => (r, ())) (armplanref10_InsideBox x.1 x.2.1)) else none) :=
  fn_part (t := fun (x : Ar [TRobot, .list (.pair (.int .i64) (.int .i64))]) => t_armplanref10_InsideBox x.1 x.2.1) (R := Bool) (Ts := [.bool]) (mk := (fun r => (r, ()))) (mkC_ok jtys_ok jeqs_ok (fns_cons ok_armplanref10_Within (fns_cons ok_armplanref10_Limits (fns_nil _))) (inl_nil _) noLoops_ok mixed) Tryz.func38 run_armplanref10_InsideBox
def hd_armplanref10_InsideBox : Hd := guardHd [TRobot, .list (.pair (.int .i64) (.int .i64))] [.bool] (fun x => dom_armplanref10_InsideBox x.1 x.2.1) (fun x => (fun r => (r, ())) (armplanref10_InsideBox x.1 x.2.1))
theorem ok_armplanref10_InsideBox : HdOk Tryz.prog 38 hd_armplanref10_InsideBox.sem ∧ Enters Tryz.prog 38 := guard_ok fn_armplanref10_InsideBox Tryz.func38 (by kernel_rfl) (by kernel_rfl)

end Go.RX

/-
  The contracts of functions.
-/
namespace Go.RX
open Go.Proofs

def ktys : List (Nat × TRow) := [(2, ⟨.int .i64, 1, 8, [.int .i64 0], .int .i64⟩),
  (3, ⟨.int .i64, 1, 8, [.int .i64 0], .int .i64⟩),
  (22, ⟨.slice 69, 1, 24, [.slice none 0 0], .list (TJoint)⟩),
  (25, ⟨.struct [(0, 1), (1, 1)], 2, 48, [.slice none 0 0, .slice none 0 0], TRobot⟩),
  (26, ⟨.slice 30, 1, 24, [.slice none 0 0], .list (TConstraint)⟩),
  (28, ⟨.arr 3 2, 3, 24, [.int .i64 0, .int .i64 0, .int .i64 0], TVec⟩),
  (30, ⟨.struct [(0, 1), (1, 1), (2, 3), (5, 3), (8, 1), (9, 1)], 10, 80, [.int .i64 0, .int .i64 0, .int .i64 0, .int .i64 0, .int .i64 0, .int .i64 0, .int .i64 0, .int .i64 0, .int .i64 0, .int .i64 0], TConstraint⟩),
  (43, ⟨.struct [(0, 1), (1, 1)], 2, 16, [.int .i64 0, .int .i64 0], .pair (.int .i64) (.int .i64)⟩),
  (46, ⟨.struct [(0, 1), (1, 1)], 2, 16, [.int .i64 0, .int .i64 0], .pair (.int .i64) (.int .i64)⟩),
  (47, ⟨.slice 50, 1, 24, [.slice none 0 0], .list (TShape)⟩),
  (50, ⟨.struct [(0, 1), (1, 1), (2, 1)], 3, 40, [.int .i64 0, .int .i64 0, .slice none 0 0], TShape⟩),
  (51, ⟨.slice 2, 1, 24, [.slice none 0 0], .list (.int .i64)⟩),
  (53, ⟨.struct [(0, 1), (1, 1), (2, 1)], 3, 56, [.int .i64 0, .slice none 0 0, .slice none 0 0], TWitness⟩),
  (55, ⟨.struct [(0, 1), (1, 1), (2, 3), (5, 3)], 8, 128, [.int .i64 0, .slice none 0 0, .int .i64 0, .int .i64 0, .slice none 0 0, .int .i64 0, .slice none 0 0, .slice none 0 0], TEdgeResult⟩),
  (69, ⟨.struct [(0, 1), (1, 1), (2, 1), (3, 3), (6, 1), (7, 1), (8, 1), (9, 1), (10, 1), (11, 1)], 12, 104, [.string (ByteArray.mk #[]), .int .i64 0, .int .i64 0, .int .i64 0, .int .i64 0, .int .i64 0, .int .i64 0, .int .i64 0, .int .i64 0, .int .i64 0, .int .i64 0, .int .i64 0], TJoint⟩),
  (71, ⟨.slice 43, 1, 24, [.slice none 0 0], .list (.pair (.int .i64) (.int .i64))⟩),
  (76, ⟨.struct [(0, 2), (2, 1), (3, 1), (4, 1), (5, 1), (6, 8)], 14, 256, [.slice none 0 0, .slice none 0 0, .slice none 0 0, .slice none 0 0, .slice none 0 0, .int .i64 0, .int .i64 0, .slice none 0 0, .int .i64 0, .int .i64 0, .slice none 0 0, .int .i64 0, .slice none 0 0, .slice none 0 0], TProver⟩),
  (87, ⟨.arr 3 46, 6, 48, [.int .i64 0, .int .i64 0, .int .i64 0, .int .i64 0, .int .i64 0, .int .i64 0], TIVec⟩),
  (89, ⟨.arr 3 87, 18, 144, [.int .i64 0, .int .i64 0, .int .i64 0, .int .i64 0, .int .i64 0, .int .i64 0, .int .i64 0, .int .i64 0, .int .i64 0, .int .i64 0, .int .i64 0, .int .i64 0, .int .i64 0, .int .i64 0, .int .i64 0, .int .i64 0, .int .i64 0, .int .i64 0], TIMat⟩),
  (90, ⟨.arr 3 46, 6, 48, [.int .i64 0, .int .i64 0, .int .i64 0, .int .i64 0, .int .i64 0, .int .i64 0], TIVec⟩),
  (92, ⟨.struct [(0, 18), (18, 6)], 24, 192, [.int .i64 0, .int .i64 0, .int .i64 0, .int .i64 0, .int .i64 0, .int .i64 0, .int .i64 0, .int .i64 0, .int .i64 0, .int .i64 0, .int .i64 0, .int .i64 0, .int .i64 0, .int .i64 0, .int .i64 0, .int .i64 0, .int .i64 0, .int .i64 0, .int .i64 0, .int .i64 0, .int .i64 0, .int .i64 0, .int .i64 0, .int .i64 0], TPose⟩),
  (93, ⟨.slice 92, 1, 24, [.slice none 0 0], .list (TPose)⟩),
  (127, ⟨.other, 1, 8, [.nilFunc], .unit⟩),
  (130, ⟨.struct [(0, 24), (24, 6)], 30, 240, [.int .i64 0, .int .i64 0, .int .i64 0, .int .i64 0, .int .i64 0, .int .i64 0, .int .i64 0, .int .i64 0, .int .i64 0, .int .i64 0, .int .i64 0, .int .i64 0, .int .i64 0, .int .i64 0, .int .i64 0, .int .i64 0, .int .i64 0, .int .i64 0, .int .i64 0, .int .i64 0, .int .i64 0, .int .i64 0, .int .i64 0, .int .i64 0, .int .i64 0, .int .i64 0, .int .i64 0, .int .i64 0, .int .i64 0, .int .i64 0], TFrame⟩),
  (131, ⟨.arr 2 127, 2, 16, [.nilFunc, .nilFunc], .unit⟩)]
def keqs : List (Nat × (Bool × List TK)) := []
theorem ktys_ok : tableOk Tryz.prog ktys = true := by kernel_rfl
theorem keqs_ok : eqsOk Tryz.prog keqs = true := by kernel_rfl

/- armplan/manifold.proper -/
def t_manifold_proper (a0 : DRobot) (a1 : DConstraint) : Tr Bool :=
  let x1 : Bool := !decide (a1.1 = 0)
  .br (x1) (
   let x2 : Bool := !decide (a1.1 = 1)
   .br (x2) (
    .leaf false) (
    let x3 : Bool := decide (a1.2.1 < 0)
    .br (x3) (
     .leaf false) (
     let x4 : Bool := decide (((a0.1.length : Nat) : Int) ≤ a1.2.1)
     .br (x4) (
      .leaf false) (
      let x5 : Bool := decide (a1.2.2.1.1 < (-4194304))
      .br (x5) (
       .leaf false) (
       let x6 : Bool := decide (4194304 < a1.2.2.1.1)
       .br (x6) (
        .leaf false) (
        let x7 : Bool := decide (a1.2.2.1.2.1 < (-4194304))
        .br (x7) (
         .leaf false) (
         let x8 : Bool := decide (4194304 < a1.2.2.1.2.1)
         .br (x8) (
          .leaf false) (
          let x9 : Bool := decide (a1.2.2.1.2.2 < (-4194304))
          .br (x9) (
           .leaf false) (
           let x10 : Bool := decide (4194304 < a1.2.2.1.2.2)
           .br (x10) (
            .leaf false) (
            let r11 : Bool := support_Usable a1.2.2.2.1
            .br (r11) (
             let x12 : Bool := decide ((-70368744177664) ≤ a1.2.2.2.2.1)
             .br (x12) (
              let x13 : Bool := decide (a1.2.2.2.2.1 ≤ a1.2.2.2.2.2)
              .br (x13) (
               let x14 : Bool := decide (a1.2.2.2.2.2 ≤ 70368744177664)
               .leaf x14) (
               .leaf false)) (
              .leaf false)) (
             .leaf false))))))))))) (
   let x15 : Bool := decide (a1.2.1 < 0)
   .br (x15) (
    .leaf false) (
    let x16 : Bool := decide (((a0.1.length : Nat) : Int) ≤ a1.2.1)
    .br (x16) (
     .leaf false) (
     let x17 : Bool := decide (a1.2.2.1.1 < (-4194304))
     .br (x17) (
      .leaf false) (
      let x18 : Bool := decide (4194304 < a1.2.2.1.1)
      .br (x18) (
       .leaf false) (
       let x19 : Bool := decide (a1.2.2.1.2.1 < (-4194304))
       .br (x19) (
        .leaf false) (
        let x20 : Bool := decide (4194304 < a1.2.2.1.2.1)
        .br (x20) (
         .leaf false) (
         let x21 : Bool := decide (a1.2.2.1.2.2 < (-4194304))
         .br (x21) (
          .leaf false) (
          let x22 : Bool := decide (4194304 < a1.2.2.1.2.2)
          .br (x22) (
           .leaf false) (
           let r23 : Bool := support_Usable a1.2.2.2.1
           .br (r23) (
            let x24 : Bool := decide ((-70368744177664) ≤ a1.2.2.2.2.1)
            .br (x24) (
             let x25 : Bool := decide (a1.2.2.2.2.1 ≤ a1.2.2.2.2.2)
             .br (x25) (
              let x26 : Bool := decide (a1.2.2.2.2.2 ≤ 70368744177664)
              .leaf x26) (
              .leaf false)) (
             .leaf false)) (
            .leaf false))))))))))
def manifold_proper (a0 : DRobot) (a1 : DConstraint) : Bool := (t_manifold_proper a0 a1).val
theorem run_manifold_proper : ∀ x, runF (mkC ktys keqs [(35, hd_support_Usable)] [] noLoops) 200 22 Tryz.f22 (argsA [TRobot, TConstraint] x) [] (fun v h => toRes h [.bool] v) = (t_manifold_proper x.1 x.2.1).optA (fun r => (r, ())) := by
  intro x; kernel_rfl
theorem fn_manifold_proper : FnOk Tryz.prog 22 [TRobot, TConstraint] [.bool] (fun x => some ((fun r => (r, ())) (manifold_proper x.1 x.2.1))) :=
  fn_tot (t := fun (x : Ar [TRobot, TConstraint]) => t_manifold_proper x.1 x.2.1) (R := Bool) (Ts := [.bool]) (mk := (fun r => (r, ()))) (mkC_ok ktys_ok keqs_ok (fns_cons ok_support_Usable (fns_nil _)) (inl_nil _) noLoops_ok mixed) Tryz.func22 run_manifold_proper (fun _ => by kernel_rfl)
def hd_manifold_proper : Hd := dataHd [TRobot, TConstraint] [.bool] (fun x => some ((fun r => (r, ())) (manifold_proper x.1 x.2.1)))
theorem ok_manifold_proper : HdOk Tryz.prog 22 hd_manifold_proper.sem ∧ Enters Tryz.prog 22 := data_ok fn_manifold_proper Tryz.func22 (by kernel_rfl) (by kernel_rfl)

/- loop 0 of armplan/manifold.Check -/
abbrev ss_manifold_Check_L0 : List Slot := [⟨[2], true, false, [.d (TRobot)]⟩, ⟨[15], false, false, [.d (.list (TConstraint))]⟩, ⟨[16], false, false, [.d (.int .i64)]⟩, ⟨[17], false, false, [.d (.int .i64)]⟩]
abbrev os_manifold_Check_L0 : List (Exit × List Slot) := [(.exit 0, [⟨[2], true, false, [.d (TRobot)]⟩]), (.ret, [⟨[2], true, false, [.d (TRobot)]⟩, ⟨[4], false, false, [.d (.bool)]⟩])]
def t_manifold_Check_L0 (a0 : DRobot) (a1 : List (DConstraint)) (a2 : Int) (a3 : Int) : Tr (Sl ss_manifold_Check_L0 ⊕ Outs os_manifold_Check_L0) :=
  let x1 : Bool := decide (a3 < a2)
  .br (x1) (
   .br (decide (0 ≤ a3) && decide (a3 < ((a1.length : Nat) : Int))) (
    let r2 : Bool := manifold_proper a0 (List.getD a1 a3.toNat (Ty.dflt (TConstraint)))
    .br ((!r2)) (
     .leaf (.inr (.inr ((a0, ()), (false, ()), ())))) (
     let x3 : Int := IntKind.wrap .i64 (a3 + 1)
     .leaf (.inl ((a0, ()), (a1, ()), (a2, ()), (x3, ()), ())))) .fail) (
   .leaf (.inr (.inl ((a0, ()), ()))))
def step_manifold_Check_L0 : Sl ss_manifold_Check_L0 → Option (Sl ss_manifold_Check_L0 ⊕ Outs os_manifold_Check_L0) := fun x => (t_manifold_Check_L0 x.1.1 x.2.1.1 x.2.2.1.1 x.2.2.2.1.1).optA id
theorem run_manifold_Check_L0 : ∀ (x : Sl ss_manifold_Check_L0) (vs : Nat → Value), run (mkC ktys keqs [(22, hd_manifold_proper)] [] noLoops) 200 9 (loopBody 0 (Tryz.f9.body.getD .skip)) (mkSt ss_manifold_Check_L0 x (baseT 26 [] [] vs)) (endK ss_manifold_Check_L0 os_manifold_Check_L0 26 []) = (t_manifold_Check_L0 x.1.1 x.2.1.1 x.2.2.1.1 x.2.2.2.1.1).optA fun r => (r, [].map (keptA [] vs)) := by
  intro x vs; kernel_rfl
instance inh_manifold_Check_L0 : Inhabited (Outs os_manifold_Check_L0) := ⟨outsDflt os_manifold_Check_L0⟩
def dom_manifold_Check_L0 (x : Sl ss_manifold_Check_L0) : Bool := (loopN step_manifold_Check_L0 rounds x).isSome
def val_manifold_Check_L0 (x : Sl ss_manifold_Check_L0) : Outs os_manifold_Check_L0 := (loopN step_manifold_Check_L0 rounds x).getD default
def loop_manifold_Check_L0 : LoopD := mkLoop ss_manifold_Check_L0 os_manifold_Check_L0 26 [] [] step_manifold_Check_L0 dom_manifold_Check_L0 val_manifold_Check_L0 (loop_hv step_manifold_Check_L0)
theorem lok_manifold_Check_L0 : LoopOk Tryz.prog (loopLH loop_manifold_Check_L0 0) 0 (.loop (loopBody 0 (Tryz.f9.body.getD .skip))) := loop_in (D := loop_manifold_Check_L0) (n := 200) (cur := 9) (mkC_ok ktys_ok keqs_ok (fns_cons ok_manifold_proper (fns_nil _)) (inl_nil _) noLoops_ok mixed) Tryz.func9 (by kernel_rfl) (turns_of run_manifold_Check_L0) (by kernel_rfl) (by kernel_rfl) (by kernel_rfl)

/- armplan/manifold.Check -/
def t_manifold_Check (a0 : DRobot) (a1 : List (DConstraint)) : Tr Bool :=
  let r1 : Int := robot_Check a0
  .br (dom_robot_Check a0) (
   let x2 : Bool := !decide (r1 = 0)
   .br (x2) (
    .leaf false) (
    let x3 : Bool := decide (8 < ((a1.length : Nat) : Int))
    .br (x3) (
     .leaf false) (
     let r4 : Outs os_manifold_Check_L0 := val_manifold_Check_L0 ((a0, ()), (a1, ()), (((a1.length : Nat) : Int), ()), (0, ()), ())
     .br (dom_manifold_Check_L0 ((a0, ()), (a1, ()), (((a1.length : Nat) : Int), ()), (0, ()), ())) (
      let r5 := getL r4
      let r6 := getR r4
      .br (isL r4) (
       let y7 : DRobot := r5.1.1
       .leaf true) (
       let y8 : DRobot := r6.1.1
       let y9 : Bool := r6.2.1.1
       .leaf y9)) .fail))) .fail
def manifold_Check (a0 : DRobot) (a1 : List (DConstraint)) : Bool := (t_manifold_Check a0 a1).val
def dom_manifold_Check (a0 : DRobot) (a1 : List (DConstraint)) : Bool := (t_manifold_Check a0 a1).dom
theorem run_manifold_Check : ∀ x, runF (mkC ktys keqs [(21, hd_robot_Check)] [] (lpOne 9 0 (loopLH loop_manifold_Check_L0 0) noLoops)) 200 9 Tryz.f9 (argsA [TRobot, .list (TConstraint)] x) [] (fun v h => toRes h [.bool] v) = (t_manifold_Check x.1 x.2.1).optA (fun r => (r, ())) := by
  intro x; kernel_rfl
theorem fn_manifold_Check : FnOk Tryz.prog 9 [TRobot, .list (TConstraint)] [.bool] (fun x => bif dom_manifold_Check x.1 x.2.1 then some ((fun r => (r, ())) (manifold_Check x.1 x.2.1)) else none) :=
  fn_part (t := fun (x : Ar [TRobot, .list (TConstraint)]) => t_manifold_Check x.1 x.2.1) (R := Bool) (Ts := [.bool]) (mk := (fun r => (r, ()))) (mkC_ok ktys_ok keqs_ok (fns_cons ok_robot_Check (fns_nil _)) (inl_nil _) (lpOne_ok (b := loopBody 0 (Tryz.f9.body.getD .skip)) Tryz.func9 (by kernel_rfl) lok_manifold_Check_L0 noLoops_ok) mixed) Tryz.func9 run_manifold_Check
def hd_manifold_Check : Hd := guardHd [TRobot, .list (TConstraint)] [.bool] (fun x => dom_manifold_Check x.1 x.2.1) (fun x => (fun r => (r, ())) (manifold_Check x.1 x.2.1))
theorem ok_manifold_Check : HdOk Tryz.prog 9 hd_manifold_Check.sem ∧ Enters Tryz.prog 9 := guard_ok fn_manifold_Check Tryz.func9 (by kernel_rfl) (by kernel_rfl)

/- (armplan/manifold.frame).position -/
def t__manifold_frame_position (a0 : DFrame) : Tr DIVec :=
  let r1 : DIVec := pose_Apply a0.1 a0.2
  .leaf r1
def _manifold_frame_position (a0 : DFrame) : DIVec := (t__manifold_frame_position a0).val
theorem run__manifold_frame_position : ∀ x, runF (mkC ktys keqs [(104, hd_pose_Apply)] [] noLoops) 200 76 Tryz.f76 (argsA [TFrame] x) [] (fun v h => toRes h [TIVec] v) = (t__manifold_frame_position x.1).optA (fun r => (r, ())) := by
  intro x; kernel_rfl
theorem fn__manifold_frame_position : FnOk Tryz.prog 76 [TFrame] [TIVec] (fun x => some ((fun r => (r, ())) (_manifold_frame_position x.1))) :=
  fn_tot (t := fun (x : Ar [TFrame]) => t__manifold_frame_position x.1) (R := DIVec) (Ts := [TIVec]) (mk := (fun r => (r, ()))) (mkC_ok ktys_ok keqs_ok (fns_cons ok_pose_Apply (fns_nil _)) (inl_nil _) noLoops_ok mixed) Tryz.func76 run__manifold_frame_position (fun _ => by kernel_rfl)
def hd__manifold_frame_position : Hd := dataHd [TFrame] [TIVec] (fun x => some ((fun r => (r, ())) (_manifold_frame_position x.1)))
theorem ok__manifold_frame_position : HdOk Tryz.prog 76 hd__manifold_frame_position.sem ∧ Enters Tryz.prog 76 := data_ok fn__manifold_frame_position Tryz.func76 (by kernel_rfl) (by kernel_rfl)

/- (armplan/manifold.frame).direction -/
def t__manifold_frame_direction (a0 : DFrame) : Tr DIVec :=
  let r1 : DIVec := matrix_Apply a0.1.1 a0.2
  .leaf r1
def _manifold_frame_direction (a0 : DFrame) : DIVec := (t__manifold_frame_direction a0).val
theorem run__manifold_frame_direction : ∀ x, runF (mkC ktys keqs [(105, hd_matrix_Apply)] [] noLoops) 200 77 Tryz.f77 (argsA [TFrame] x) [] (fun v h => toRes h [TIVec] v) = (t__manifold_frame_direction x.1).optA (fun r => (r, ())) := by
  intro x; kernel_rfl
theorem fn__manifold_frame_direction : FnOk Tryz.prog 77 [TFrame] [TIVec] (fun x => some ((fun r => (r, ())) (_manifold_frame_direction x.1))) :=
  fn_tot (t := fun (x : Ar [TFrame]) => t__manifold_frame_direction x.1) (R := DIVec) (Ts := [TIVec]) (mk := (fun r => (r, ()))) (mkC_ok ktys_ok keqs_ok (fns_cons ok_matrix_Apply (fns_nil _)) (inl_nil _) noLoops_ok mixed) Tryz.func77 run__manifold_frame_direction (fun _ => by kernel_rfl)
def hd__manifold_frame_direction : Hd := dataHd [TFrame] [TIVec] (fun x => some ((fun r => (r, ())) (_manifold_frame_direction x.1)))
theorem ok__manifold_frame_direction : HdOk Tryz.prog 77 hd__manifold_frame_direction.sem ∧ Enters Tryz.prog 77 := data_ok fn__manifold_frame_direction Tryz.func77 (by kernel_rfl) (by kernel_rfl)

/- armplan/manifold.vector -/
def t_manifold_vector (a0 : DConstraint) (a1 : DPose) : Tr DIVec :=
  .br (decide (a0.1 = 0)) (
   let r1 : DIVec := matrix_Point a0.2.2.1
   let r2 : DIVec := _manifold_frame_position (a1, r1)
   .leaf r2) (
   .br (decide (a0.1 = 1)) (
    let r3 : DIVec := matrix_Point a0.2.2.1
    let r4 : DIVec := _manifold_frame_direction (a1, r3)
    .leaf r4) (
    .fail))
def manifold_vector (a0 : DConstraint) (a1 : DPose) : DIVec := (t_manifold_vector a0 a1).val
def dom_manifold_vector (a0 : DConstraint) (a1 : DPose) : Bool := (t_manifold_vector a0 a1).dom
theorem run_manifold_vector : ∀ x, runF (mkC ktys keqs [(76, hd__manifold_frame_position), (77, hd__manifold_frame_direction), (78, hd_matrix_Point)] [] noLoops) 200 47 Tryz.f47 (argsA [TConstraint, TPose] x) [] (fun v h => toRes h [TIVec] v) = (t_manifold_vector x.1 x.2.1).optA (fun r => (r, ())) := by
  intro x; kernel_rfl
theorem fn_manifold_vector : FnOk Tryz.prog 47 [TConstraint, TPose] [TIVec] (fun x => bif dom_manifold_vector x.1 x.2.1 then some ((fun r => (r, ())) (manifold_vector x.1 x.2.1)) else none) :=
  fn_part (t := fun (x : Ar [TConstraint, TPose]) => t_manifold_vector x.1 x.2.1) (R := DIVec) (Ts := [TIVec]) (mk := (fun r => (r, ()))) (mkC_ok ktys_ok keqs_ok (fns_cons ok__manifold_frame_position (fns_cons ok__manifold_frame_direction (fns_cons ok_matrix_Point (fns_nil _)))) (inl_nil _) noLoops_ok mixed) Tryz.func47 run_manifold_vector
def hd_manifold_vector : Hd := guardHd [TConstraint, TPose] [TIVec] (fun x => dom_manifold_vector x.1 x.2.1) (fun x => (fun r => (r, ())) (manifold_vector x.1 x.2.1))
theorem ok_manifold_vector : HdOk Tryz.prog 47 hd_manifold_vector.sem ∧ Enters Tryz.prog 47 := guard_ok fn_manifold_vector Tryz.func47 (by kernel_rfl) (by kernel_rfl)

/- loop 0 of armplan/manifold.values -/
abbrev ss_manifold_values_L0 : List Slot := [⟨[8], false, false, [.d (.list (TPose))]⟩, ⟨[9], false, false, [.v 43 (.pair (.int .i64) (.int .i64))]⟩, ⟨[28], false, false, [.d (.list (TConstraint))]⟩, ⟨[29], false, false, [.d (.int .i64)]⟩, ⟨[30], false, false, [.d (.int .i64)]⟩]
abbrev os_manifold_values_L0 : List (Exit × List Slot) := [(.exit 0, [⟨[9], false, false, [.v 43 (.pair (.int .i64) (.int .i64))]⟩])]
def t_manifold_values_L0 (a0 : List (DPose)) (a1 : List ((Int × Int))) (a2 : List (DConstraint)) (a3 : Int) (a4 : Int) : Tr (Sl ss_manifold_values_L0 ⊕ Outs os_manifold_values_L0) :=
  let x1 : Bool := decide (a4 < a3)
  .br (x1) (
   .br (decide (0 ≤ a4) && decide (a4 < ((a2.length : Nat) : Int))) (
    .br (decide (0 ≤ (((List.getD a2 a4.toNat (Ty.dflt (TConstraint)))).2).1) && decide ((((List.getD a2 a4.toNat (Ty.dflt (TConstraint)))).2).1 < ((a0.length : Nat) : Int))) (
     let r2 : DIVec := manifold_vector (List.getD a2 a4.toNat (Ty.dflt (TConstraint))) (List.getD a0 ((((List.getD a2 a4.toNat (Ty.dflt (TConstraint)))).2).1).toNat (Ty.dflt (TPose)))
     .br (dom_manifold_vector (List.getD a2 a4.toNat (Ty.dflt (TConstraint))) (List.getD a0 ((((List.getD a2 a4.toNat (Ty.dflt (TConstraint)))).2).1).toNat (Ty.dflt (TPose)))) (
      let r3 : (Int × Int) := support_Dot ((((((List.getD a2 a4.toNat (Ty.dflt (TConstraint)))).2).2).2).1) r2
      .br (dom_support_Dot ((((((List.getD a2 a4.toNat (Ty.dflt (TConstraint)))).2).2).2).1) r2) (
       .br (decide (0 ≤ a4) && decide (a4 < ((a1.length : Nat) : Int))) (
        .br (decide (0 ≤ a4) && decide (a4 < (((List.set a1 a4.toNat (r3.1, ((List.getD a1 a4.toNat (Ty.dflt (.pair (.int .i64) (.int .i64))))).2)).length : Nat) : Int))) (
         let x4 : Int := IntKind.wrap .i64 (a4 + 1)
         .leaf (.inl ((a0, ()), ((List.set (List.set a1 a4.toNat (r3.1, ((List.getD a1 a4.toNat (Ty.dflt (.pair (.int .i64) (.int .i64))))).2)) a4.toNat (((List.getD (List.set a1 a4.toNat (r3.1, ((List.getD a1 a4.toNat (Ty.dflt (.pair (.int .i64) (.int .i64))))).2)) a4.toNat (Ty.dflt (.pair (.int .i64) (.int .i64))))).1, r3.2)), ()), (a2, ()), (a3, ()), (x4, ()), ()))) .fail) .fail) .fail) .fail) .fail) .fail) (
   .leaf (.inr ((a1, ()), ())))
def step_manifold_values_L0 : Sl ss_manifold_values_L0 → Option (Sl ss_manifold_values_L0 ⊕ Outs os_manifold_values_L0) := fun x => (t_manifold_values_L0 x.1.1 x.2.1.1 x.2.2.1.1 x.2.2.2.1.1 x.2.2.2.2.1.1).optA id
theorem run_manifold_values_L0 : ∀ (x : Sl ss_manifold_values_L0) (vs : Nat → Value), run (mkC ktys keqs [(46, hd_support_Dot), (47, hd_manifold_vector)] [] noLoops) 200 28 (loopBody 0 (Tryz.f28.body.getD .skip)) (mkSt ss_manifold_values_L0 x (baseT 58 [] [] vs)) (endK ss_manifold_values_L0 os_manifold_values_L0 58 []) = (t_manifold_values_L0 x.1.1 x.2.1.1 x.2.2.1.1 x.2.2.2.1.1 x.2.2.2.2.1.1).optA fun r => (r, [].map (keptA [] vs)) := by
  intro x vs; kernel_rfl
instance inh_manifold_values_L0 : Inhabited (Outs os_manifold_values_L0) := ⟨outsDflt os_manifold_values_L0⟩
def dom_manifold_values_L0 (x : Sl ss_manifold_values_L0) : Bool := (loopN step_manifold_values_L0 rounds x).isSome
def val_manifold_values_L0 (x : Sl ss_manifold_values_L0) : Outs os_manifold_values_L0 := (loopN step_manifold_values_L0 rounds x).getD default
def loop_manifold_values_L0 : LoopD := mkLoop ss_manifold_values_L0 os_manifold_values_L0 58 [] [] step_manifold_values_L0 dom_manifold_values_L0 val_manifold_values_L0 (loop_hv step_manifold_values_L0)
theorem lok_manifold_values_L0 : LoopOk Tryz.prog (loopLH loop_manifold_values_L0 0) 0 (.loop (loopBody 0 (Tryz.f28.body.getD .skip))) := loop_in (D := loop_manifold_values_L0) (n := 200) (cur := 28) (mkC_ok ktys_ok keqs_ok (fns_cons ok_support_Dot (fns_cons ok_manifold_vector (fns_nil _))) (inl_nil _) noLoops_ok mixed) Tryz.func28 (by kernel_rfl) (turns_of run_manifold_values_L0) (by kernel_rfl) (by kernel_rfl) (by kernel_rfl)

/- armplan/manifold.values -/
def t_manifold_values (a0 : DRobot) (a1 : List (DConstraint)) (a2 : List ((Int × Int))) : Tr (List ((Int × Int)) × Bool) :=
  let r1 : Bool := manifold_Check a0 a1
  .br (dom_manifold_Check a0 a1) (
   .br ((!r1)) (
    .leaf ([], false)) (
    let r2 : Bool := config_InsideBox a0 a2
    .br (dom_config_InsideBox a0 a2) (
     .br ((!r2)) (
      .leaf ([], false)) (
      let r3 : List (DPose) := kinematics_Links a0 a2
      .br (dom_kinematics_Links a0 a2) (
       .br (decide (0 ≤ ((a1.length : Nat) : Int)) && decide (((a1.length : Nat) : Int) ≤ ((a1.length : Nat) : Int)) && decide (((a1.length : Nat) : Int) ≤ 4294967296)) (
        let r4 : Outs os_manifold_values_L0 := val_manifold_values_L0 ((r3, ()), ((List.replicate (((a1.length : Nat) : Int)).toNat (Ty.dflt (.pair (.int .i64) (.int .i64)))), ()), (a1, ()), (((a1.length : Nat) : Int), ()), (0, ()), ())
        .br (dom_manifold_values_L0 ((r3, ()), ((List.replicate (((a1.length : Nat) : Int)).toNat (Ty.dflt (.pair (.int .i64) (.int .i64)))), ()), (a1, ()), (((a1.length : Nat) : Int), ()), (0, ()), ())) (
         let y5 : List ((Int × Int)) := r4.1.1
         .leaf (y5, true)) .fail) .fail) .fail)) .fail)) .fail
def manifold_values (a0 : DRobot) (a1 : List (DConstraint)) (a2 : List ((Int × Int))) : (List ((Int × Int)) × Bool) := (t_manifold_values a0 a1 a2).val
def dom_manifold_values (a0 : DRobot) (a1 : List (DConstraint)) (a2 : List ((Int × Int))) : Bool := (t_manifold_values a0 a1 a2).dom
theorem run_manifold_values : ∀ x, runF (mkC ktys keqs [(9, hd_manifold_Check), (44, hd_config_InsideBox), (45, hd_kinematics_Links)] [] (lpOne 28 0 (loopLH loop_manifold_values_L0 0) noLoops)) 200 28 Tryz.f28 (argsA [TRobot, .list (TConstraint), .list (.pair (.int .i64) (.int .i64))] x) [] (fun v h => toRes h [.list (.pair (.int .i64) (.int .i64)), .bool] v) = (t_manifold_values x.1 x.2.1 x.2.2.1).optA (fun r => (r.1, r.2, ())) := by
  intro x; kernel_rfl
theorem fn_manifold_values : FnOk Tryz.prog 28 [TRobot, .list (TConstraint), .list (.pair (.int .i64) (.int .i64))] [.list (.pair (.int .i64) (.int .i64)), .bool] (fun x => bif dom_manifold_values x.1 x.2.1 x.2.2.1 then some ((fun r => (r.1, r.2, ())) (manifold_values x.1 x.2.1 x.2.2.1)) else none) :=
  fn_part (t := fun (x : Ar [TRobot, .list (TConstraint), .list (.pair (.int .i64) (.int .i64))]) => t_manifold_values x.1 x.2.1 x.2.2.1) (R := (List ((Int × Int)) × Bool)) (Ts := [.list (.pair (.int .i64) (.int .i64)), .bool]) (mk := (fun r => (r.1, r.2, ()))) (mkC_ok ktys_ok keqs_ok (fns_cons ok_manifold_Check (fns_cons ok_config_InsideBox (fns_cons ok_kinematics_Links (fns_nil _)))) (inl_nil _) (lpOne_ok (b := loopBody 0 (Tryz.f28.body.getD .skip)) Tryz.func28 (by kernel_rfl) lok_manifold_values_L0 noLoops_ok) mixed) Tryz.func28 run_manifold_values
def hd_manifold_values : Hd := guardHd [TRobot, .list (TConstraint), .list (.pair (.int .i64) (.int .i64))] [.list (.pair (.int .i64) (.int .i64)), .bool] (fun x => dom_manifold_values x.1 x.2.1 x.2.2.1) (fun x => (fun r => (r.1, r.2, ())) (manifold_values x.1 x.2.1 x.2.2.1))
theorem ok_manifold_values : HdOk Tryz.prog 28 hd_manifold_values.sem ∧ Enters Tryz.prog 28 := guard_ok fn_manifold_values Tryz.func28 (by kernel_rfl) (by kernel_rfl)

/- armplan/manifold.Value -/
def t_manifold_Value (a0 : DRobot) (a1 : DConstraint) (a2 : List ((Int × Int))) : Tr ((Int × Int) × Bool) :=
  let r1 : (List ((Int × Int)) × Bool) := manifold_values a0 [a1] a2
  .br (dom_manifold_values a0 [a1] a2) (
   .br ((!r1.2)) (
    .leaf ((0, 0), false)) (
    .br (decide (0 < ((r1.1.length : Nat) : Int))) (
     .leaf ((List.getD r1.1 0 (Ty.dflt (.pair (.int .i64) (.int .i64)))), true)) .fail)) .fail
def manifold_Value (a0 : DRobot) (a1 : DConstraint) (a2 : List ((Int × Int))) : ((Int × Int) × Bool) := (t_manifold_Value a0 a1 a2).val
def dom_manifold_Value (a0 : DRobot) (a1 : DConstraint) (a2 : List ((Int × Int))) : Bool := (t_manifold_Value a0 a1 a2).dom
theorem run_manifold_Value : ∀ x, runF (mkC ktys keqs [(28, hd_manifold_values)] [] noLoops) 200 14 Tryz.f14 (argsA [TRobot, TConstraint, .list (.pair (.int .i64) (.int .i64))] x) [] (fun v h => toRes h [.pair (.int .i64) (.int .i64), .bool] v) = (t_manifold_Value x.1 x.2.1 x.2.2.1).optA (fun r => (r.1, r.2, ())) := by
  intro x; kernel_rfl
theorem fn_manifold_Value : FnOk Tryz.prog 14 [TRobot, TConstraint, .list (.pair (.int .i64) (.int .i64))] [.pair (.int .i64) (.int .i64), .bool] (fun x => bif dom_manifold_Value x.1 x.2.1 x.2.2.1 then some ((fun r => (r.1, r.2, ())) (manifold_Value x.1 x.2.1 x.2.2.1)) else none) :=
  fn_part (t := fun (x : Ar [TRobot, TConstraint, .list (.pair (.int .i64) (.int .i64))]) => t_manifold_Value x.1 x.2.1 x.2.2.1) (R := ((Int × Int) × Bool)) (Ts := [.pair (.int .i64) (.int .i64), .bool]) (mk := (fun r => (r.1, r.2, ()))) (mkC_ok ktys_ok keqs_ok (fns_cons ok_manifold_values (fns_nil _)) (inl_nil _) noLoops_ok mixed) Tryz.func14 run_manifold_Value
def hd_manifold_Value : Hd := guardHd [TRobot, TConstraint, .list (.pair (.int .i64) (.int .i64))] [.pair (.int .i64) (.int .i64), .bool] (fun x => dom_manifold_Value x.1 x.2.1 x.2.2.1) (fun x => (fun r => (r.1, r.2, ())) (manifold_Value x.1 x.2.1 x.2.2.1))
theorem ok_manifold_Value : HdOk Tryz.prog 14 hd_manifold_Value.sem ∧ Enters Tryz.prog 14 := guard_ok fn_manifold_Value Tryz.func14 (by kernel_rfl) (by kernel_rfl)

/- loop 0 of armplan/manifold.Holds -/
abbrev ss_manifold_Holds_L0 : List Slot := [⟨[7], false, false, [.d (.list (.pair (.int .i64) (.int .i64)))]⟩, ⟨[20], false, false, [.d (.list (TConstraint))]⟩, ⟨[21], false, false, [.d (.int .i64)]⟩, ⟨[22], false, false, [.d (.int .i64)]⟩]
abbrev os_manifold_Holds_L0 : List (Exit × List Slot) := [(.exit 0, []), (.ret, [⟨[6], false, false, [.d (.bool)]⟩])]
def t_manifold_Holds_L0 (a0 : List ((Int × Int))) (a1 : List (DConstraint)) (a2 : Int) (a3 : Int) : Tr (Sl ss_manifold_Holds_L0 ⊕ Outs os_manifold_Holds_L0) :=
  let x1 : Bool := decide (a3 < a2)
  .br (x1) (
   .br (decide (0 ≤ a3) && decide (a3 < ((a1.length : Nat) : Int))) (
    .br (decide (0 ≤ a3) && decide (a3 < ((a0.length : Nat) : Int))) (
     let x2 : Bool := decide (((List.getD a0 a3.toNat (Ty.dflt (.pair (.int .i64) (.int .i64))))).1 < ((((((List.getD a1 a3.toNat (Ty.dflt (TConstraint)))).2).2).2).2).1)
     .br (x2) (
      .leaf (.inr (.inr ((false, ()), ())))) (
      .br (decide (0 ≤ a3) && decide (a3 < ((a0.length : Nat) : Int))) (
       let x3 : Bool := decide (((((((List.getD a1 a3.toNat (Ty.dflt (TConstraint)))).2).2).2).2).2 < ((List.getD a0 a3.toNat (Ty.dflt (.pair (.int .i64) (.int .i64))))).2)
       .br (x3) (
        .leaf (.inr (.inr ((false, ()), ())))) (
        let x4 : Int := IntKind.wrap .i64 (a3 + 1)
        .leaf (.inl ((a0, ()), (a1, ()), (a2, ()), (x4, ()), ())))) .fail)) .fail) .fail) (
   .leaf (.inr (.inl ())))
def step_manifold_Holds_L0 : Sl ss_manifold_Holds_L0 → Option (Sl ss_manifold_Holds_L0 ⊕ Outs os_manifold_Holds_L0) := fun x => (t_manifold_Holds_L0 x.1.1 x.2.1.1 x.2.2.1.1 x.2.2.2.1.1).optA id
theorem run_manifold_Holds_L0 : ∀ (x : Sl ss_manifold_Holds_L0) (vs : Nat → Value), run (mkC ktys keqs [] [] noLoops) 200 50 (loopBody 0 (Tryz.f50.body.getD .skip)) (mkSt ss_manifold_Holds_L0 x (baseT 46 [] [] vs)) (endK ss_manifold_Holds_L0 os_manifold_Holds_L0 46 []) = (t_manifold_Holds_L0 x.1.1 x.2.1.1 x.2.2.1.1 x.2.2.2.1.1).optA fun r => (r, [].map (keptA [] vs)) := by
  intro x vs; kernel_rfl
instance inh_manifold_Holds_L0 : Inhabited (Outs os_manifold_Holds_L0) := ⟨outsDflt os_manifold_Holds_L0⟩
def dom_manifold_Holds_L0 (x : Sl ss_manifold_Holds_L0) : Bool := (loopN step_manifold_Holds_L0 rounds x).isSome
def val_manifold_Holds_L0 (x : Sl ss_manifold_Holds_L0) : Outs os_manifold_Holds_L0 := (loopN step_manifold_Holds_L0 rounds x).getD default
def loop_manifold_Holds_L0 : LoopD := mkLoop ss_manifold_Holds_L0 os_manifold_Holds_L0 46 [] [] step_manifold_Holds_L0 dom_manifold_Holds_L0 val_manifold_Holds_L0 (loop_hv step_manifold_Holds_L0)
theorem lok_manifold_Holds_L0 : LoopOk Tryz.prog (loopLH loop_manifold_Holds_L0 0) 0 (.loop (loopBody 0 (Tryz.f50.body.getD .skip))) := loop_in (D := loop_manifold_Holds_L0) (n := 200) (cur := 50) (mkC_ok ktys_ok keqs_ok (fns_nil _) (inl_nil _) noLoops_ok mixed) Tryz.func50 (by kernel_rfl) (turns_of run_manifold_Holds_L0) (by kernel_rfl) (by kernel_rfl) (by kernel_rfl)

/- armplan/manifold.Holds -/
def t_manifold_Holds (a0 : DRobot) (a1 : List (DConstraint)) (a2 : List ((Int × Int))) : Tr Bool :=
  let r1 : (List ((Int × Int)) × Bool) := manifold_values a0 a1 a2
  .br (dom_manifold_values a0 a1 a2) (
   .br ((!r1.2)) (
    .leaf false) (
    let r2 : Outs os_manifold_Holds_L0 := val_manifold_Holds_L0 ((r1.1, ()), (a1, ()), (((a1.length : Nat) : Int), ()), (0, ()), ())
    .br (dom_manifold_Holds_L0 ((r1.1, ()), (a1, ()), (((a1.length : Nat) : Int), ()), (0, ()), ())) (
     let r3 := getL r2
     let r4 := getR r2
     .br (isL r2) (
      .leaf true) (
      let y5 : Bool := r4.1.1
      .leaf y5)) .fail)) .fail
def manifold_Holds (a0 : DRobot) (a1 : List (DConstraint)) (a2 : List ((Int × Int))) : Bool := (t_manifold_Holds a0 a1 a2).val
def dom_manifold_Holds (a0 : DRobot) (a1 : List (DConstraint)) (a2 : List ((Int × Int))) : Bool := (t_manifold_Holds a0 a1 a2).dom
theorem run_manifold_Holds : ∀ x, runF (mkC ktys keqs [(28, hd_manifold_values)] [] (lpOne 50 0 (loopLH loop_manifold_Holds_L0 0) noLoops)) 200 50 Tryz.f50 (argsA [TRobot, .list (TConstraint), .list (.pair (.int .i64) (.int .i64))] x) [] (fun v h => toRes h [.bool] v) = (t_manifold_Holds x.1 x.2.1 x.2.2.1).optA (fun r => (r, ())) := by
  intro x; kernel_rfl
theorem fn_manifold_Holds : FnOk Tryz.prog 50 [TRobot, .list (TConstraint), .list (.pair (.int .i64) (.int .i64))] [.bool] (fun x => bif dom_manifold_Holds x.1 x.2.1 x.2.2.1 then some ((fun r => (r, ())) (manifold_Holds x.1 x.2.1 x.2.2.1)) else none) :=
  fn_part (t := fun (x : Ar [TRobot, .list (TConstraint), .list (.pair (.int .i64) (.int .i64))]) => t_manifold_Holds x.1 x.2.1 x.2.2.1) (R := Bool) (Ts := [.bool]) (mk := (fun r => (r, ()))) (mkC_ok ktys_ok keqs_ok (fns_cons ok_manifold_values (fns_nil _)) (inl_nil _) (lpOne_ok (b := loopBody 0 (Tryz.f50.body.getD .skip)) Tryz.func50 (by kernel_rfl) lok_manifold_Holds_L0 noLoops_ok) mixed) Tryz.func50 run_manifold_Holds
def hd_manifold_Holds : Hd := guardHd [TRobot, .list (TConstraint), .list (.pair (.int .i64) (.int .i64))] [.bool] (fun x => dom_manifold_Holds x.1 x.2.1 x.2.2.1) (fun x => (fun r => (r, ())) (manifold_Holds x.1 x.2.1 x.2.2.1))
theorem ok_manifold_Holds : HdOk Tryz.prog 50 hd_manifold_Holds.sem ∧ Enters Tryz.prog 50 := guard_ok fn_manifold_Holds Tryz.func50 (by kernel_rfl) (by kernel_rfl)

/- armplan/manifold.outside -/
def t_manifold_outside (a0 : DConstraint) (a1 : (Int × Int)) : Tr Bool :=
  let x1 : Bool := decide (a1.2 < a0.2.2.2.2.1)
  .br (x1) (
   .leaf true) (
   let x2 : Bool := decide (a0.2.2.2.2.2 < a1.1)
   .leaf x2)
def manifold_outside (a0 : DConstraint) (a1 : (Int × Int)) : Bool := (t_manifold_outside a0 a1).val
theorem run_manifold_outside : ∀ x, runF (mkC ktys keqs [] [] noLoops) 200 83 Tryz.f83 (argsA [TConstraint, .pair (.int .i64) (.int .i64)] x) [] (fun v h => toRes h [.bool] v) = (t_manifold_outside x.1 x.2.1).optA (fun r => (r, ())) := by
  intro x; kernel_rfl
theorem fn_manifold_outside : FnOk Tryz.prog 83 [TConstraint, .pair (.int .i64) (.int .i64)] [.bool] (fun x => some ((fun r => (r, ())) (manifold_outside x.1 x.2.1))) :=
  fn_tot (t := fun (x : Ar [TConstraint, .pair (.int .i64) (.int .i64)]) => t_manifold_outside x.1 x.2.1) (R := Bool) (Ts := [.bool]) (mk := (fun r => (r, ()))) (mkC_ok ktys_ok keqs_ok (fns_nil _) (inl_nil _) noLoops_ok mixed) Tryz.func83 run_manifold_outside (fun _ => by kernel_rfl)
def hd_manifold_outside : Hd := dataHd [TConstraint, .pair (.int .i64) (.int .i64)] [.bool] (fun x => some ((fun r => (r, ())) (manifold_outside x.1 x.2.1)))
theorem ok_manifold_outside : HdOk Tryz.prog 83 hd_manifold_outside.sem ∧ Enters Tryz.prog 83 := data_ok fn_manifold_outside Tryz.func83 (by kernel_rfl) (by kernel_rfl)

/- loop 0 of armplan/manifold.Broken -/
abbrev ss_manifold_Broken_L0 : List Slot := [⟨[1], false, false, [.d (.list (TConstraint))]⟩, ⟨[8], false, false, [.d (.list (.pair (.int .i64) (.int .i64)))]⟩, ⟨[19], false, false, [.d (.int .i64)]⟩, ⟨[20], false, false, [.d (.int .i64)]⟩]
abbrev os_manifold_Broken_L0 : List (Exit × List Slot) := [(.exit 0, []), (.ret, [⟨[6], false, false, [.d (.int .i64)]⟩, ⟨[7], false, false, [.d (.bool)]⟩])]
def t_manifold_Broken_L0 (a0 : List (DConstraint)) (a1 : List ((Int × Int))) (a2 : Int) (a3 : Int) : Tr (Sl ss_manifold_Broken_L0 ⊕ Outs os_manifold_Broken_L0) :=
  let x1 : Bool := decide (a3 < a2)
  .br (x1) (
   .br (decide (0 ≤ a3) && decide (a3 < ((a0.length : Nat) : Int))) (
    .br (decide (0 ≤ a3) && decide (a3 < ((a1.length : Nat) : Int))) (
     let r2 : Bool := manifold_outside (List.getD a0 a3.toNat (Ty.dflt (TConstraint))) (List.getD a1 a3.toNat (Ty.dflt (.pair (.int .i64) (.int .i64))))
     .br (r2) (
      .leaf (.inr (.inr ((a3, ()), (true, ()), ())))) (
      let x3 : Int := IntKind.wrap .i64 (a3 + 1)
      .leaf (.inl ((a0, ()), (a1, ()), (a2, ()), (x3, ()), ())))) .fail) .fail) (
   .leaf (.inr (.inl ())))
def step_manifold_Broken_L0 : Sl ss_manifold_Broken_L0 → Option (Sl ss_manifold_Broken_L0 ⊕ Outs os_manifold_Broken_L0) := fun x => (t_manifold_Broken_L0 x.1.1 x.2.1.1 x.2.2.1.1 x.2.2.2.1.1).optA id
theorem run_manifold_Broken_L0 : ∀ (x : Sl ss_manifold_Broken_L0) (vs : Nat → Value), run (mkC ktys keqs [(83, hd_manifold_outside)] [] noLoops) 200 51 (loopBody 0 (Tryz.f51.body.getD .skip)) (mkSt ss_manifold_Broken_L0 x (baseT 34 [] [] vs)) (endK ss_manifold_Broken_L0 os_manifold_Broken_L0 34 []) = (t_manifold_Broken_L0 x.1.1 x.2.1.1 x.2.2.1.1 x.2.2.2.1.1).optA fun r => (r, [].map (keptA [] vs)) := by
  intro x vs; kernel_rfl
instance inh_manifold_Broken_L0 : Inhabited (Outs os_manifold_Broken_L0) := ⟨outsDflt os_manifold_Broken_L0⟩
def dom_manifold_Broken_L0 (x : Sl ss_manifold_Broken_L0) : Bool := (loopN step_manifold_Broken_L0 rounds x).isSome
def val_manifold_Broken_L0 (x : Sl ss_manifold_Broken_L0) : Outs os_manifold_Broken_L0 := (loopN step_manifold_Broken_L0 rounds x).getD default
def loop_manifold_Broken_L0 : LoopD := mkLoop ss_manifold_Broken_L0 os_manifold_Broken_L0 34 [] [] step_manifold_Broken_L0 dom_manifold_Broken_L0 val_manifold_Broken_L0 (loop_hv step_manifold_Broken_L0)
theorem lok_manifold_Broken_L0 : LoopOk Tryz.prog (loopLH loop_manifold_Broken_L0 0) 0 (.loop (loopBody 0 (Tryz.f51.body.getD .skip))) := loop_in (D := loop_manifold_Broken_L0) (n := 200) (cur := 51) (mkC_ok ktys_ok keqs_ok (fns_cons ok_manifold_outside (fns_nil _)) (inl_nil _) noLoops_ok mixed) Tryz.func51 (by kernel_rfl) (turns_of run_manifold_Broken_L0) (by kernel_rfl) (by kernel_rfl) (by kernel_rfl)

/- armplan/manifold.Broken -/
def t_manifold_Broken (a0 : DRobot) (a1 : List (DConstraint)) (a2 : List ((Int × Int))) : Tr (Int × Bool) :=
  let r1 : (List ((Int × Int)) × Bool) := manifold_values a0 a1 a2
  .br (dom_manifold_values a0 a1 a2) (
   let r2 : Outs os_manifold_Broken_L0 := val_manifold_Broken_L0 ((a1, ()), (r1.1, ()), (((r1.1.length : Nat) : Int), ()), (0, ()), ())
   .br (dom_manifold_Broken_L0 ((a1, ()), (r1.1, ()), (((r1.1.length : Nat) : Int), ()), (0, ()), ())) (
    let r3 := getL r2
    let r4 := getR r2
    .br (isL r2) (
     .leaf (0, false)) (
     let y5 : Int := r4.1.1
     let y6 : Bool := r4.2.1.1
     .leaf (y5, y6))) .fail) .fail
def manifold_Broken (a0 : DRobot) (a1 : List (DConstraint)) (a2 : List ((Int × Int))) : (Int × Bool) := (t_manifold_Broken a0 a1 a2).val
def dom_manifold_Broken (a0 : DRobot) (a1 : List (DConstraint)) (a2 : List ((Int × Int))) : Bool := (t_manifold_Broken a0 a1 a2).dom
theorem run_manifold_Broken : ∀ x, runF (mkC ktys keqs [(28, hd_manifold_values)] [] (lpOne 51 0 (loopLH loop_manifold_Broken_L0 0) noLoops)) 200 51 Tryz.f51 (argsA [TRobot, .list (TConstraint), .list (.pair (.int .i64) (.int .i64))] x) [] (fun v h => toRes h [.int .i64, .bool] v) = (t_manifold_Broken x.1 x.2.1 x.2.2.1).optA (fun r => (r.1, r.2, ())) := by
  intro x; kernel_rfl
theorem fn_manifold_Broken : FnOk Tryz.prog 51 [TRobot, .list (TConstraint), .list (.pair (.int .i64) (.int .i64))] [.int .i64, .bool] (fun x => bif dom_manifold_Broken x.1 x.2.1 x.2.2.1 then some ((fun r => (r.1, r.2, ())) (manifold_Broken x.1 x.2.1 x.2.2.1)) else none) :=
  fn_part (t := fun (x : Ar [TRobot, .list (TConstraint), .list (.pair (.int .i64) (.int .i64))]) => t_manifold_Broken x.1 x.2.1 x.2.2.1) (R := (Int × Bool)) (Ts := [.int .i64, .bool]) (mk := (fun r => (r.1, r.2, ()))) (mkC_ok ktys_ok keqs_ok (fns_cons ok_manifold_values (fns_nil _)) (inl_nil _) (lpOne_ok (b := loopBody 0 (Tryz.f51.body.getD .skip)) Tryz.func51 (by kernel_rfl) lok_manifold_Broken_L0 noLoops_ok) mixed) Tryz.func51 run_manifold_Broken
def hd_manifold_Broken : Hd := guardHd [TRobot, .list (TConstraint), .list (.pair (.int .i64) (.int .i64))] [.int .i64, .bool] (fun x => dom_manifold_Broken x.1 x.2.1 x.2.2.1) (fun x => (fun r => (r.1, r.2, ())) (manifold_Broken x.1 x.2.1 x.2.2.1))
theorem ok_manifold_Broken : HdOk Tryz.prog 51 hd_manifold_Broken.sem ∧ Enters Tryz.prog 51 := guard_ok fn_manifold_Broken Tryz.func51 (by kernel_rfl) (by kernel_rfl)

/- armplan/manifold.usable -/
def t_manifold_usable (a0 : DRobot) (a1 : List (DConstraint)) (a2 : List (Int)) (a3 : List (Int)) : Tr Bool :=
  let r1 : Bool := manifold_Check a0 a1
  .br (dom_manifold_Check a0 a1) (
   .br (r1) (
    let r2 : Bool := config_Inside a0 a2
    .br (dom_config_Inside a0 a2) (
     .br (r2) (
      let r3 : Bool := config_Inside a0 a3
      .br (dom_config_Inside a0 a3) (
       .leaf r3) .fail) (
      .leaf false)) .fail) (
    .leaf false)) .fail
def manifold_usable (a0 : DRobot) (a1 : List (DConstraint)) (a2 : List (Int)) (a3 : List (Int)) : Bool := (t_manifold_usable a0 a1 a2 a3).val
def dom_manifold_usable (a0 : DRobot) (a1 : List (DConstraint)) (a2 : List (Int)) (a3 : List (Int)) : Bool := (t_manifold_usable a0 a1 a2 a3).dom
theorem run_manifold_usable : ∀ x, runF (mkC ktys keqs [(9, hd_manifold_Check), (48, hd_config_Inside)] [] noLoops) 200 29 Tryz.f29 (argsA [TRobot, .list (TConstraint), .list (.int .i64), .list (.int .i64)] x) [] (fun v h => toRes h [.bool] v) = (t_manifold_usable x.1 x.2.1 x.2.2.1 x.2.2.2.1).optA (fun r => (r, ())) := by
  intro x; kernel_rfl
theorem fn_manifold_usable : FnOk Tryz.prog 29 [TRobot, .list (TConstraint), .list (.int .i64), .list (.int .i64)] [.bool] (fun x => bif dom_manifold_usable x.1 x.2.1 x.2.2.1 x.2.2.2.1 then some ((fun r => (r, ())) (manifold_usable x.1 x.2.1 x.2.2.1 x.2.2.2.1)) else none) :=
  fn_part (t := fun (x : Ar [TRobot, .list (TConstraint), .list (.int .i64), .list (.int .i64)]) => t_manifold_usable x.1 x.2.1 x.2.2.1 x.2.2.2.1) (R := Bool) (Ts := [.bool]) (mk := (fun r => (r, ()))) (mkC_ok ktys_ok keqs_ok (fns_cons ok_manifold_Check (fns_cons ok_config_Inside (fns_nil _))) (inl_nil _) noLoops_ok mixed) Tryz.func29 run_manifold_usable
def hd_manifold_usable : Hd := guardHd [TRobot, .list (TConstraint), .list (.int .i64), .list (.int .i64)] [.bool] (fun x => dom_manifold_usable x.1 x.2.1 x.2.2.1 x.2.2.2.1) (fun x => (fun r => (r, ())) (manifold_usable x.1 x.2.1 x.2.2.1 x.2.2.2.1))
theorem ok_manifold_usable : HdOk Tryz.prog 29 hd_manifold_usable.sem ∧ Enters Tryz.prog 29 := guard_ok fn_manifold_usable Tryz.func29 (by kernel_rfl) (by kernel_rfl)

/- (*armplan/manifold.prover).examine -/
def t_manifold_prover_examine (rec_manifold_prover_examine : DRobot → (List (DConstraint)) → (List (Int)) → (List (Int)) → Int → Int → (List (DShape)) → DShape → DWitness → Int → Int → (Bool × DRobot × List (DConstraint) × List (Int) × List (Int) × Int × Int × List (DShape) × DShape × DWitness)) (dom_rec_manifold_prover_examine : DRobot → (List (DConstraint)) → (List (Int)) → (List (Int)) → Int → Int → (List (DShape)) → DShape → DWitness → Int → Int → Bool) (a0 : DRobot) (a1 : List (DConstraint)) (a2 : List (Int)) (a3 : List (Int)) (a4 : Int) (a5 : Int) (a6 : List (DShape)) (a7 : DShape) (a8 : DWitness) (a9 : Int) (a10 : Int) : Tr (Bool × DRobot × List (DConstraint) × List (Int) × List (Int) × Int × Int × List (DShape) × DShape × DWitness) :=
  let x1 : Bool := decide (((a6.length : Nat) : Int) = 4096)
  .br (x1) (
   .leaf (false, a0, a1, a2, a3, a4, 0, [], (a9, (a10, [])), (0, ([], [])))) (
   let r2 : (List ((Int × Int)) × Bool) := config_Piece a2 a3 a9 a10
   .br (dom_config_Piece a2 a3 a9 a10) (
    let r3 : Bool := manifold_Holds a0 a1 r2.1
    .br (dom_manifold_Holds a0 a1 r2.1) (
     .br (r3) (
      .br (room (a6.length + 1)) (
       .leaf (true, a0, a1, a2, a3, a4, a5, (a6 ++ [(a9, (a10, []))]), a7, a8)) .fail) (
      let r4 : (Int × Bool) := manifold_Broken a0 a1 r2.1
      .br (dom_manifold_Broken a0 a1 r2.1) (
       .br (r4.2) (
        .leaf (false, a0, a1, a2, a3, a4, 2, [], (a9, (a10, [])), (r4.1, ([], [])))) (
        let x5 : Bool := decide (a4 ≤ a9)
        .br (x5) (
         .leaf (false, a0, a1, a2, a3, a4, 0, [], (a9, (a10, [])), (0, ([], [])))) (
         let x6 : Int := IntKind.wrap .i64 (a9 + 1)
         let x7 : Int := IntKind.wrap .i64 (2 * a10)
         let r8 : (Bool × DRobot × List (DConstraint) × List (Int) × List (Int) × Int × Int × List (DShape) × DShape × DWitness) := rec_manifold_prover_examine a0 a1 a2 a3 a4 a5 a6 a7 a8 x6 x7
         .br (dom_rec_manifold_prover_examine a0 a1 a2 a3 a4 a5 a6 a7 a8 x6 x7) (
          .br (r8.1) (
           let x9 : Int := IntKind.wrap .i64 (a9 + 1)
           let x10 : Int := IntKind.wrap .i64 (2 * a10)
           let x11 : Int := IntKind.wrap .i64 (x10 + 1)
           let r12 : (Bool × DRobot × List (DConstraint) × List (Int) × List (Int) × Int × Int × List (DShape) × DShape × DWitness) := rec_manifold_prover_examine r8.2.1 r8.2.2.1 r8.2.2.2.1 r8.2.2.2.2.1 r8.2.2.2.2.2.1 r8.2.2.2.2.2.2.1 r8.2.2.2.2.2.2.2.1 r8.2.2.2.2.2.2.2.2.1 r8.2.2.2.2.2.2.2.2.2 x9 x11
           .br (dom_rec_manifold_prover_examine r8.2.1 r8.2.2.1 r8.2.2.2.1 r8.2.2.2.2.1 r8.2.2.2.2.2.1 r8.2.2.2.2.2.2.1 r8.2.2.2.2.2.2.2.1 r8.2.2.2.2.2.2.2.2.1 r8.2.2.2.2.2.2.2.2.2 x9 x11) (
            .leaf (r12.1, r12.2.1, r12.2.2.1, r12.2.2.2.1, r12.2.2.2.2.1, r12.2.2.2.2.2.1, r12.2.2.2.2.2.2.1, r12.2.2.2.2.2.2.2.1, r12.2.2.2.2.2.2.2.2.1, r12.2.2.2.2.2.2.2.2.2)) .fail) (
           .leaf (false, r8.2.1, r8.2.2.1, r8.2.2.2.1, r8.2.2.2.2.1, r8.2.2.2.2.2.1, r8.2.2.2.2.2.2.1, r8.2.2.2.2.2.2.2.1, r8.2.2.2.2.2.2.2.2.1, r8.2.2.2.2.2.2.2.2.2))) .fail))) .fail)) .fail) .fail)
def hd_rec_manifold_prover_examine (rec_manifold_prover_examine : DRobot → (List (DConstraint)) → (List (Int)) → (List (Int)) → Int → Int → (List (DShape)) → DShape → DWitness → Int → Int → (Bool × DRobot × List (DConstraint) × List (Int) × List (Int) × Int × Int × List (DShape) × DShape × DWitness)) (dom_rec_manifold_prover_examine : DRobot → (List (DConstraint)) → (List (Int)) → (List (Int)) → Int → Int → (List (DShape)) → DShape → DWitness → Int → Int → Bool) : Hd := hdS 3 [⟨[0], true, false, [.d (TRobot), .d (.list (TConstraint)), .d (.list (.int .i64)), .d (.list (.int .i64)), .d (.int .i64), .d (.int .i64), .v 50 (TShape), .d (TShape), .d (TWitness)]⟩, ⟨[1], false, false, [.d (.int .i64)]⟩, ⟨[2], false, false, [.d (.int .i64)]⟩] [⟨[], true, false, [.d (TRobot), .d (.list (TConstraint)), .d (.list (.int .i64)), .d (.list (.int .i64)), .d (.int .i64), .d (.int .i64), .v 50 (TShape), .d (TShape), .d (TWitness)]⟩] [.bool] (fun x => dom_rec_manifold_prover_examine x.1.1 x.1.2.1 x.1.2.2.1 x.1.2.2.2.1 x.1.2.2.2.2.1 x.1.2.2.2.2.2.1 x.1.2.2.2.2.2.2.1 x.1.2.2.2.2.2.2.2.1 x.1.2.2.2.2.2.2.2.2.1 x.2.1.1 x.2.2.1.1) (fun x => (fun (r : (Bool × DRobot × List (DConstraint) × List (Int) × List (Int) × Int × Int × List (DShape) × DShape × DWitness)) => ((r.1, ()), ((r.2.1, r.2.2.1, r.2.2.2.1, r.2.2.2.2.1, r.2.2.2.2.2.1, r.2.2.2.2.2.2.1, r.2.2.2.2.2.2.2.1, r.2.2.2.2.2.2.2.2.1, r.2.2.2.2.2.2.2.2.2, ()), ()))) (rec_manifold_prover_examine x.1.1 x.1.2.1 x.1.2.2.1 x.1.2.2.2.1 x.1.2.2.2.2.1 x.1.2.2.2.2.2.1 x.1.2.2.2.2.2.2.1 x.1.2.2.2.2.2.2.2.1 x.1.2.2.2.2.2.2.2.2.1 x.2.1.1 x.2.2.1.1)) (by kernel_rfl)
theorem run_manifold_prover_examine (rec_manifold_prover_examine : DRobot → (List (DConstraint)) → (List (Int)) → (List (Int)) → Int → Int → (List (DShape)) → DShape → DWitness → Int → Int → (Bool × DRobot × List (DConstraint) × List (Int) × List (Int) × Int × Int × List (DShape) × DShape × DWitness)) (dom_rec_manifold_prover_examine : DRobot → (List (DConstraint)) → (List (Int)) → (List (Int)) → Int → Int → (List (DShape)) → DShape → DWitness → Int → Int → Bool) : ∀ x, runF (mkC ktys keqs [(30, hd_rec_manifold_prover_examine rec_manifold_prover_examine dom_rec_manifold_prover_examine), (49, hd_config_Piece), (50, hd_manifold_Holds), (51, hd_manifold_Broken)] [] noLoops) 200 30 Tryz.f30 (mkT id [⟨[0], true, false, [.d (TRobot), .d (.list (TConstraint)), .d (.list (.int .i64)), .d (.list (.int .i64)), .d (.int .i64), .d (.int .i64), .v 50 (TShape), .d (TShape), .d (TWitness)]⟩, ⟨[1], false, false, [.d (.int .i64)]⟩, ⟨[2], false, false, [.d (.int .i64)]⟩] x 0 (List.replicate 3 .top)) (mkH id [⟨[0], true, false, [.d (TRobot), .d (.list (TConstraint)), .d (.list (.int .i64)), .d (.list (.int .i64)), .d (.int .i64), .d (.int .i64), .v 50 (TShape), .d (TShape), .d (TWitness)]⟩, ⟨[1], false, false, [.d (.int .i64)]⟩, ⟨[2], false, false, [.d (.int .i64)]⟩] x 0) (endS [.bool] [⟨[], true, false, [.d (TRobot), .d (.list (TConstraint)), .d (.list (.int .i64)), .d (.list (.int .i64)), .d (.int .i64), .d (.int .i64), .v 50 (TShape), .d (TShape), .d (TWitness)]⟩]) = (t_manifold_prover_examine rec_manifold_prover_examine dom_rec_manifold_prover_examine x.1.1 x.1.2.1 x.1.2.2.1 x.1.2.2.2.1 x.1.2.2.2.2.1 x.1.2.2.2.2.2.1 x.1.2.2.2.2.2.2.1 x.1.2.2.2.2.2.2.2.1 x.1.2.2.2.2.2.2.2.2.1 x.2.1.1 x.2.2.1.1).optA (fun (r : (Bool × DRobot × List (DConstraint) × List (Int) × List (Int) × Int × Int × List (DShape) × DShape × DWitness)) => ((r.1, ()), ((r.2.1, r.2.2.1, r.2.2.2.1, r.2.2.2.2.1, r.2.2.2.2.2.1, r.2.2.2.2.2.2.1, r.2.2.2.2.2.2.2.1, r.2.2.2.2.2.2.2.2.1, r.2.2.2.2.2.2.2.2.2, ()), ()))) := by
  intro x; kernel_rfl
theorem step_manifold_prover_examine (rec_manifold_prover_examine : DRobot → (List (DConstraint)) → (List (Int)) → (List (Int)) → Int → Int → (List (DShape)) → DShape → DWitness → Int → Int → (Bool × DRobot × List (DConstraint) × List (Int) × List (Int) × Int × Int × List (DShape) × DShape × DWitness)) (dom_rec_manifold_prover_examine : DRobot → (List (DConstraint)) → (List (Int)) → (List (Int)) → Int → Int → (List (DShape)) → DShape → DWitness → Int → Int → Bool) (hrec : HdOk Tryz.prog 30 (hd_rec_manifold_prover_examine rec_manifold_prover_examine dom_rec_manifold_prover_examine).sem ∧ Enters Tryz.prog 30) : FnS Tryz.prog 30 3 [⟨[0], true, false, [.d (TRobot), .d (.list (TConstraint)), .d (.list (.int .i64)), .d (.list (.int .i64)), .d (.int .i64), .d (.int .i64), .v 50 (TShape), .d (TShape), .d (TWitness)]⟩, ⟨[1], false, false, [.d (.int .i64)]⟩, ⟨[2], false, false, [.d (.int .i64)]⟩] [⟨[], true, false, [.d (TRobot), .d (.list (TConstraint)), .d (.list (.int .i64)), .d (.list (.int .i64)), .d (.int .i64), .d (.int .i64), .v 50 (TShape), .d (TShape), .d (TWitness)]⟩] [.bool] (fun x => bif (fun x => (t_manifold_prover_examine rec_manifold_prover_examine dom_rec_manifold_prover_examine x.1.1 x.1.2.1 x.1.2.2.1 x.1.2.2.2.1 x.1.2.2.2.2.1 x.1.2.2.2.2.2.1 x.1.2.2.2.2.2.2.1 x.1.2.2.2.2.2.2.2.1 x.1.2.2.2.2.2.2.2.2.1 x.2.1.1 x.2.2.1.1).dom) x then some ((fun (r : (Bool × DRobot × List (DConstraint) × List (Int) × List (Int) × Int × Int × List (DShape) × DShape × DWitness)) => ((r.1, ()), ((r.2.1, r.2.2.1, r.2.2.2.1, r.2.2.2.2.1, r.2.2.2.2.2.1, r.2.2.2.2.2.2.1, r.2.2.2.2.2.2.2.1, r.2.2.2.2.2.2.2.2.1, r.2.2.2.2.2.2.2.2.2, ()), ()))) (t_manifold_prover_examine rec_manifold_prover_examine dom_rec_manifold_prover_examine x.1.1 x.1.2.1 x.1.2.2.1 x.1.2.2.2.1 x.1.2.2.2.2.1 x.1.2.2.2.2.2.1 x.1.2.2.2.2.2.2.1 x.1.2.2.2.2.2.2.2.1 x.1.2.2.2.2.2.2.2.2.1 x.2.1.1 x.2.2.1.1).val) else none) :=
  fnS_tree (np := 3) (ss := [⟨[0], true, false, [.d (TRobot), .d (.list (TConstraint)), .d (.list (.int .i64)), .d (.list (.int .i64)), .d (.int .i64), .d (.int .i64), .v 50 (TShape), .d (TShape), .d (TWitness)]⟩, ⟨[1], false, false, [.d (.int .i64)]⟩, ⟨[2], false, false, [.d (.int .i64)]⟩]) (ss1 := [⟨[], true, false, [.d (TRobot), .d (.list (TConstraint)), .d (.list (.int .i64)), .d (.list (.int .i64)), .d (.int .i64), .d (.int .i64), .v 50 (TShape), .d (TShape), .d (TWitness)]⟩]) (Ts := [.bool]) (R := (Bool × DRobot × List (DConstraint) × List (Int) × List (Int) × Int × Int × List (DShape) × DShape × DWitness)) (dom := fun x => (t_manifold_prover_examine rec_manifold_prover_examine dom_rec_manifold_prover_examine x.1.1 x.1.2.1 x.1.2.2.1 x.1.2.2.2.1 x.1.2.2.2.2.1 x.1.2.2.2.2.2.1 x.1.2.2.2.2.2.2.1 x.1.2.2.2.2.2.2.2.1 x.1.2.2.2.2.2.2.2.2.1 x.2.1.1 x.2.2.1.1).dom) (t := fun (x : Sl [⟨[0], true, false, [.d (TRobot), .d (.list (TConstraint)), .d (.list (.int .i64)), .d (.list (.int .i64)), .d (.int .i64), .d (.int .i64), .v 50 (TShape), .d (TShape), .d (TWitness)]⟩, ⟨[1], false, false, [.d (.int .i64)]⟩, ⟨[2], false, false, [.d (.int .i64)]⟩]) => t_manifold_prover_examine rec_manifold_prover_examine dom_rec_manifold_prover_examine x.1.1 x.1.2.1 x.1.2.2.1 x.1.2.2.2.1 x.1.2.2.2.2.1 x.1.2.2.2.2.2.1 x.1.2.2.2.2.2.2.1 x.1.2.2.2.2.2.2.2.1 x.1.2.2.2.2.2.2.2.2.1 x.2.1.1 x.2.2.1.1) (mk := (fun (r : (Bool × DRobot × List (DConstraint) × List (Int) × List (Int) × Int × Int × List (DShape) × DShape × DWitness)) => ((r.1, ()), ((r.2.1, r.2.2.1, r.2.2.2.1, r.2.2.2.2.1, r.2.2.2.2.2.1, r.2.2.2.2.2.2.1, r.2.2.2.2.2.2.2.1, r.2.2.2.2.2.2.2.2.1, r.2.2.2.2.2.2.2.2.2, ()), ())))) (mkC_ok ktys_ok keqs_ok (fns_cons hrec (fns_cons ok_config_Piece (fns_cons ok_manifold_Holds (fns_cons ok_manifold_Broken (fns_nil _))))) (inl_nil _) noLoops_ok mixed) Tryz.func30 (by kernel_rfl) (run_manifold_prover_examine rec_manifold_prover_examine dom_rec_manifold_prover_examine) (fun _ => .inr rfl)
def fix_manifold_prover_examine : Nat → (DRobot → (List (DConstraint)) → (List (Int)) → (List (Int)) → Int → Int → (List (DShape)) → DShape → DWitness → Int → Int → (Bool × DRobot × List (DConstraint) × List (Int) × List (Int) × Int × Int × List (DShape) × DShape × DWitness)) × (DRobot → (List (DConstraint)) → (List (Int)) → (List (Int)) → Int → Int → (List (DShape)) → DShape → DWitness → Int → Int → Bool)
  | 0 => (fun _ _ _ _ _ _ _ _ _ _ _ => default, fun _ _ _ _ _ _ _ _ _ _ _ => false)
  | n + 1 => (fun a0 a1 a2 a3 a4 a5 a6 a7 a8 a9 a10 => (t_manifold_prover_examine (fix_manifold_prover_examine n).1 (fix_manifold_prover_examine n).2 a0 a1 a2 a3 a4 a5 a6 a7 a8 a9 a10).val, fun a0 a1 a2 a3 a4 a5 a6 a7 a8 a9 a10 => (t_manifold_prover_examine (fix_manifold_prover_examine n).1 (fix_manifold_prover_examine n).2 a0 a1 a2 a3 a4 a5 a6 a7 a8 a9 a10).dom)
theorem okfix_manifold_prover_examine : ∀ n, HdOk Tryz.prog 30 (hd_rec_manifold_prover_examine (fix_manifold_prover_examine n).1 (fix_manifold_prover_examine n).2).sem ∧ Enters Tryz.prog 30
  | 0 => ⟨hdS_ok (by kernel_rfl) (fun _ _ _ _ _ _ _ _ _ h => by simp [fix_manifold_prover_examine] at h), _, Tryz.func30, by kernel_rfl, by kernel_rfl⟩
  | n + 1 => ⟨hdS_ok (by kernel_rfl) (step_manifold_prover_examine (fix_manifold_prover_examine n).1 (fix_manifold_prover_examine n).2 (okfix_manifold_prover_examine n)), _, Tryz.func30, by kernel_rfl, by kernel_rfl⟩
def manifold_prover_examine (a0 : DRobot) (a1 : List (DConstraint)) (a2 : List (Int)) (a3 : List (Int)) (a4 : Int) (a5 : Int) (a6 : List (DShape)) (a7 : DShape) (a8 : DWitness) (a9 : Int) (a10 : Int) : (Bool × DRobot × List (DConstraint) × List (Int) × List (Int) × Int × Int × List (DShape) × DShape × DWitness) := (fix_manifold_prover_examine 64).1 a0 a1 a2 a3 a4 a5 a6 a7 a8 a9 a10
def dom_manifold_prover_examine (a0 : DRobot) (a1 : List (DConstraint)) (a2 : List (Int)) (a3 : List (Int)) (a4 : Int) (a5 : Int) (a6 : List (DShape)) (a7 : DShape) (a8 : DWitness) (a9 : Int) (a10 : Int) : Bool := (fix_manifold_prover_examine 64).2 a0 a1 a2 a3 a4 a5 a6 a7 a8 a9 a10
def hd_manifold_prover_examine : Hd := hdS 3 [⟨[0], true, false, [.d (TRobot), .d (.list (TConstraint)), .d (.list (.int .i64)), .d (.list (.int .i64)), .d (.int .i64), .d (.int .i64), .v 50 (TShape), .d (TShape), .d (TWitness)]⟩, ⟨[1], false, false, [.d (.int .i64)]⟩, ⟨[2], false, false, [.d (.int .i64)]⟩] [⟨[], true, false, [.d (TRobot), .d (.list (TConstraint)), .d (.list (.int .i64)), .d (.list (.int .i64)), .d (.int .i64), .d (.int .i64), .v 50 (TShape), .d (TShape), .d (TWitness)]⟩] [.bool] (fun x => dom_manifold_prover_examine x.1.1 x.1.2.1 x.1.2.2.1 x.1.2.2.2.1 x.1.2.2.2.2.1 x.1.2.2.2.2.2.1 x.1.2.2.2.2.2.2.1 x.1.2.2.2.2.2.2.2.1 x.1.2.2.2.2.2.2.2.2.1 x.2.1.1 x.2.2.1.1) (fun x => (fun (r : (Bool × DRobot × List (DConstraint) × List (Int) × List (Int) × Int × Int × List (DShape) × DShape × DWitness)) => ((r.1, ()), ((r.2.1, r.2.2.1, r.2.2.2.1, r.2.2.2.2.1, r.2.2.2.2.2.1, r.2.2.2.2.2.2.1, r.2.2.2.2.2.2.2.1, r.2.2.2.2.2.2.2.2.1, r.2.2.2.2.2.2.2.2.2, ()), ()))) (manifold_prover_examine x.1.1 x.1.2.1 x.1.2.2.1 x.1.2.2.2.1 x.1.2.2.2.2.1 x.1.2.2.2.2.2.1 x.1.2.2.2.2.2.2.1 x.1.2.2.2.2.2.2.2.1 x.1.2.2.2.2.2.2.2.2.1 x.2.1.1 x.2.2.1.1)) (by kernel_rfl)
theorem ok_manifold_prover_examine : HdOk Tryz.prog 30 hd_manifold_prover_examine.sem ∧ Enters Tryz.prog 30 := okfix_manifold_prover_examine 64

/- armplan/manifold.Prove -/
def t_manifold_Prove (a0 : DRobot) (a1 : List (DConstraint)) (a2 : List (Int)) (a3 : List (Int)) (a4 : Int) : Tr DEdgeResult :=
  let r1 : Bool := manifold_usable a0 a1 a2 a3
  .br (dom_manifold_usable a0 a1 a2 a3) (
   .br ((!r1)) (
    .leaf (0, ([], ((0, (0, [])), (0, ([], [])))))) (
    let x2 : Bool := decide (a4 < 0)
    .br (x2) (
     .leaf (0, ([], ((0, (0, [])), (0, ([], [])))))) (
     let x3 : Bool := decide (20 < a4)
     .br (x3) (
      .leaf (0, ([], ((0, (0, [])), (0, ([], [])))))) (
      let r4 : (Bool × DRobot × List (DConstraint) × List (Int) × List (Int) × Int × Int × List (DShape) × DShape × DWitness) := manifold_prover_examine a0 a1 a2 a3 a4 0 [] (0, (0, [])) (0, ([], [])) 0 0
      .br (dom_manifold_prover_examine a0 a1 a2 a3 a4 0 [] (0, (0, [])) (0, ([], [])) 0 0) (
       .br (r4.1) (
        .leaf (1, r4.2.2.2.2.2.2.2)) (
        .leaf r4.2.2.2.2.2.2)) .fail)))) .fail
def manifold_Prove (a0 : DRobot) (a1 : List (DConstraint)) (a2 : List (Int)) (a3 : List (Int)) (a4 : Int) : DEdgeResult := (t_manifold_Prove a0 a1 a2 a3 a4).val
def dom_manifold_Prove (a0 : DRobot) (a1 : List (DConstraint)) (a2 : List (Int)) (a3 : List (Int)) (a4 : Int) : Bool := (t_manifold_Prove a0 a1 a2 a3 a4).dom
theorem run_manifold_Prove : ∀ x, runF (mkC ktys keqs [(29, hd_manifold_usable), (30, hd_manifold_prover_examine)] [] noLoops) 200 15 Tryz.f15 (argsA [TRobot, .list (TConstraint), .list (.int .i64), .list (.int .i64), .int .i64] x) [] (fun v h => toRes h [TEdgeResult] v) = (t_manifold_Prove x.1 x.2.1 x.2.2.1 x.2.2.2.1 x.2.2.2.2.1).optA (fun r => (r, ())) := by
  intro x; kernel_rfl
theorem fn_manifold_Prove : FnOk Tryz.prog 15 [TRobot, .list (TConstraint), .list (.int .i64), .list (.int .i64), .int .i64] [TEdgeResult] (fun x => bif dom_manifold_Prove x.1 x.2.1 x.2.2.1 x.2.2.2.1 x.2.2.2.2.1 then some ((fun r => (r, ())) (manifold_Prove x.1 x.2.1 x.2.2.1 x.2.2.2.1 x.2.2.2.2.1)) else none) :=
  fn_part (t := fun (x : Ar [TRobot, .list (TConstraint), .list (.int .i64), .list (.int .i64), .int .i64]) => t_manifold_Prove x.1 x.2.1 x.2.2.1 x.2.2.2.1 x.2.2.2.2.1) (R := DEdgeResult) (Ts := [TEdgeResult]) (mk := (fun r => (r, ()))) (mkC_ok ktys_ok keqs_ok (fns_cons ok_manifold_usable (fns_cons ok_manifold_prover_examine (fns_nil _))) (inl_nil _) noLoops_ok mixed) Tryz.func15 run_manifold_Prove
def hd_manifold_Prove : Hd := guardHd [TRobot, .list (TConstraint), .list (.int .i64), .list (.int .i64), .int .i64] [TEdgeResult] (fun x => dom_manifold_Prove x.1 x.2.1 x.2.2.1 x.2.2.2.1 x.2.2.2.2.1) (fun x => (fun r => (r, ())) (manifold_Prove x.1 x.2.1 x.2.2.1 x.2.2.2.1 x.2.2.2.2.1))
theorem ok_manifold_Prove : HdOk Tryz.prog 15 hd_manifold_Prove.sem ∧ Enters Tryz.prog 15 := guard_ok fn_manifold_Prove Tryz.func15 (by kernel_rfl) (by kernel_rfl)

/- loop 0 of armplan/armplanref32.CheckConstraints -/
abbrev ss_armplanref32_CheckConstraints_L0 : List Slot := [⟨[2], true, false, [.d (TRobot)]⟩, ⟨[1], false, false, [.d (.list (TConstraint))]⟩, ⟨[5], false, false, [.d (.int .i64)]⟩]
abbrev os_armplanref32_CheckConstraints_L0 : List (Exit × List Slot) := [(.exit 0, [⟨[2], true, false, [.d (TRobot)]⟩]), (.ret, [⟨[2], true, false, [.d (TRobot)]⟩, ⟨[4], false, false, [.d (.bool)]⟩])]
def t_armplanref32_CheckConstraints_L0 (a0 : DRobot) (a1 : List (DConstraint)) (a2 : Int) : Tr (Sl ss_armplanref32_CheckConstraints_L0 ⊕ Outs os_armplanref32_CheckConstraints_L0) :=
  let x1 : Bool := decide (a2 < ((a1.length : Nat) : Int))
  .br (x1) (
   .br (decide (0 ≤ a2) && decide (a2 < ((a1.length : Nat) : Int))) (
    let x2 : Bool := !decide (((List.getD a1 a2.toNat (Ty.dflt (TConstraint)))).1 = 0)
    .br (x2) (
     let x3 : Bool := !decide (((List.getD a1 a2.toNat (Ty.dflt (TConstraint)))).1 = 1)
     .br (x3) (
      .leaf (.inr (.inr ((a0, ()), (false, ()), ())))) (
      let x4 : Bool := decide ((((List.getD a1 a2.toNat (Ty.dflt (TConstraint)))).2).1 < 0)
      .br (x4) (
       .leaf (.inr (.inr ((a0, ()), (false, ()), ())))) (
       let x5 : Bool := decide (((a0.1.length : Nat) : Int) ≤ (((List.getD a1 a2.toNat (Ty.dflt (TConstraint)))).2).1)
       .br (x5) (
        .leaf (.inr (.inr ((a0, ()), (false, ()), ())))) (
        let r6 : Bool := armplanref6_Near (((((List.getD a1 a2.toNat (Ty.dflt (TConstraint)))).2).2).1) 4194304
        .br ((!r6)) (
         .leaf (.inr (.inr ((a0, ()), (false, ()), ())))) (
         let r7 : Bool := armplanref10_Usable ((((((List.getD a1 a2.toNat (Ty.dflt (TConstraint)))).2).2).2).1)
         .br ((!r7)) (
          .leaf (.inr (.inr ((a0, ()), (false, ()), ())))) (
          let x8 : Bool := decide (((((((List.getD a1 a2.toNat (Ty.dflt (TConstraint)))).2).2).2).2).2 < ((((((List.getD a1 a2.toNat (Ty.dflt (TConstraint)))).2).2).2).2).1)
          .br (x8) (
           .leaf (.inr (.inr ((a0, ()), (false, ()), ())))) (
           let x9 : Bool := decide (((((((List.getD a1 a2.toNat (Ty.dflt (TConstraint)))).2).2).2).2).1 < (-70368744177664))
           .br (x9) (
            .leaf (.inr (.inr ((a0, ()), (false, ()), ())))) (
            let x10 : Bool := decide (70368744177664 < ((((((List.getD a1 a2.toNat (Ty.dflt (TConstraint)))).2).2).2).2).2)
            .br (x10) (
             .leaf (.inr (.inr ((a0, ()), (false, ()), ())))) (
             let x11 : Int := IntKind.wrap .i64 (a2 + 1)
             .leaf (.inl ((a0, ()), (a1, ()), (x11, ()), ()))))))))))) (
     let x12 : Bool := decide ((((List.getD a1 a2.toNat (Ty.dflt (TConstraint)))).2).1 < 0)
     .br (x12) (
      .leaf (.inr (.inr ((a0, ()), (false, ()), ())))) (
      let x13 : Bool := decide (((a0.1.length : Nat) : Int) ≤ (((List.getD a1 a2.toNat (Ty.dflt (TConstraint)))).2).1)
      .br (x13) (
       .leaf (.inr (.inr ((a0, ()), (false, ()), ())))) (
       let r14 : Bool := armplanref6_Near (((((List.getD a1 a2.toNat (Ty.dflt (TConstraint)))).2).2).1) 4194304
       .br ((!r14)) (
        .leaf (.inr (.inr ((a0, ()), (false, ()), ())))) (
        let r15 : Bool := armplanref10_Usable ((((((List.getD a1 a2.toNat (Ty.dflt (TConstraint)))).2).2).2).1)
        .br ((!r15)) (
         .leaf (.inr (.inr ((a0, ()), (false, ()), ())))) (
         let x16 : Bool := decide (((((((List.getD a1 a2.toNat (Ty.dflt (TConstraint)))).2).2).2).2).2 < ((((((List.getD a1 a2.toNat (Ty.dflt (TConstraint)))).2).2).2).2).1)
         .br (x16) (
          .leaf (.inr (.inr ((a0, ()), (false, ()), ())))) (
          let x17 : Bool := decide (((((((List.getD a1 a2.toNat (Ty.dflt (TConstraint)))).2).2).2).2).1 < (-70368744177664))
          .br (x17) (
           .leaf (.inr (.inr ((a0, ()), (false, ()), ())))) (
           let x18 : Bool := decide (70368744177664 < ((((((List.getD a1 a2.toNat (Ty.dflt (TConstraint)))).2).2).2).2).2)
           .br (x18) (
            .leaf (.inr (.inr ((a0, ()), (false, ()), ())))) (
            let x19 : Int := IntKind.wrap .i64 (a2 + 1)
            .leaf (.inl ((a0, ()), (a1, ()), (x19, ()), ()))))))))))) .fail) (
   .leaf (.inr (.inl ((a0, ()), ()))))
def step_armplanref32_CheckConstraints_L0 : Sl ss_armplanref32_CheckConstraints_L0 → Option (Sl ss_armplanref32_CheckConstraints_L0 ⊕ Outs os_armplanref32_CheckConstraints_L0) := fun x => (t_armplanref32_CheckConstraints_L0 x.1.1 x.2.1.1 x.2.2.1.1).optA id
theorem run_armplanref32_CheckConstraints_L0 : ∀ (x : Sl ss_armplanref32_CheckConstraints_L0) (vs : Nat → Value), run (mkC ktys keqs [(24, hd_armplanref6_Near), (25, hd_armplanref10_Usable)] [] noLoops) 200 10 (loopBody 0 (Tryz.f10.body.getD .skip)) (mkSt ss_armplanref32_CheckConstraints_L0 x (baseT 75 [] [] vs)) (endK ss_armplanref32_CheckConstraints_L0 os_armplanref32_CheckConstraints_L0 75 []) = (t_armplanref32_CheckConstraints_L0 x.1.1 x.2.1.1 x.2.2.1.1).optA fun r => (r, [].map (keptA [] vs)) := by
  intro x vs; kernel_rfl
instance inh_armplanref32_CheckConstraints_L0 : Inhabited (Outs os_armplanref32_CheckConstraints_L0) := ⟨outsDflt os_armplanref32_CheckConstraints_L0⟩
def dom_armplanref32_CheckConstraints_L0 (x : Sl ss_armplanref32_CheckConstraints_L0) : Bool := (loopN step_armplanref32_CheckConstraints_L0 rounds x).isSome
def val_armplanref32_CheckConstraints_L0 (x : Sl ss_armplanref32_CheckConstraints_L0) : Outs os_armplanref32_CheckConstraints_L0 := (loopN step_armplanref32_CheckConstraints_L0 rounds x).getD default
def loop_armplanref32_CheckConstraints_L0 : LoopD := mkLoop ss_armplanref32_CheckConstraints_L0 os_armplanref32_CheckConstraints_L0 75 [] [] step_armplanref32_CheckConstraints_L0 dom_armplanref32_CheckConstraints_L0 val_armplanref32_CheckConstraints_L0 (loop_hv step_armplanref32_CheckConstraints_L0)
theorem lok_armplanref32_CheckConstraints_L0 : LoopOk Tryz.prog (loopLH loop_armplanref32_CheckConstraints_L0 0) 0 (.loop (loopBody 0 (Tryz.f10.body.getD .skip))) := loop_in (D := loop_armplanref32_CheckConstraints_L0) (n := 200) (cur := 10) (mkC_ok ktys_ok keqs_ok (fns_cons ok_armplanref6_Near (fns_cons ok_armplanref10_Usable (fns_nil _))) (inl_nil _) noLoops_ok mixed) Tryz.func10 (by kernel_rfl) (turns_of run_armplanref32_CheckConstraints_L0) (by kernel_rfl) (by kernel_rfl) (by kernel_rfl)

/- armplan/armplanref32.CheckConstraints -/
def t_armplanref32_CheckConstraints (a0 : DRobot) (a1 : List (DConstraint)) : Tr Bool :=
  let r1 : Int := armplanref6_CheckRobot a0
  .br (dom_armplanref6_CheckRobot a0) (
   let x2 : Bool := !decide (r1 = 0)
   .br (x2) (
    .leaf false) (
    let x3 : Bool := decide (8 < ((a1.length : Nat) : Int))
    .br (x3) (
     .leaf false) (
     let r4 : Outs os_armplanref32_CheckConstraints_L0 := val_armplanref32_CheckConstraints_L0 ((a0, ()), (a1, ()), (0, ()), ())
     .br (dom_armplanref32_CheckConstraints_L0 ((a0, ()), (a1, ()), (0, ()), ())) (
      let r5 := getL r4
      let r6 := getR r4
      .br (isL r4) (
       let y7 : DRobot := r5.1.1
       .leaf true) (
       let y8 : DRobot := r6.1.1
       let y9 : Bool := r6.2.1.1
       .leaf y9)) .fail))) .fail
def armplanref32_CheckConstraints (a0 : DRobot) (a1 : List (DConstraint)) : Bool := (t_armplanref32_CheckConstraints a0 a1).val
def dom_armplanref32_CheckConstraints (a0 : DRobot) (a1 : List (DConstraint)) : Bool := (t_armplanref32_CheckConstraints a0 a1).dom
theorem run_armplanref32_CheckConstraints : ∀ x, runF (mkC ktys keqs [(23, hd_armplanref6_CheckRobot)] [] (lpOne 10 0 (loopLH loop_armplanref32_CheckConstraints_L0 0) noLoops)) 200 10 Tryz.f10 (argsA [TRobot, .list (TConstraint)] x) [] (fun v h => toRes h [.bool] v) = (t_armplanref32_CheckConstraints x.1 x.2.1).optA (fun r => (r, ())) := by
  intro x; kernel_rfl
theorem fn_armplanref32_CheckConstraints : FnOk Tryz.prog 10 [TRobot, .list (TConstraint)] [.bool] (fun x => bif dom_armplanref32_CheckConstraints x.1 x.2.1 then some ((fun r => (r, ())) (armplanref32_CheckConstraints x.1 x.2.1)) else none) :=
  fn_part (t := fun (x : Ar [TRobot, .list (TConstraint)]) => t_armplanref32_CheckConstraints x.1 x.2.1) (R := Bool) (Ts := [.bool]) (mk := (fun r => (r, ()))) (mkC_ok ktys_ok keqs_ok (fns_cons ok_armplanref6_CheckRobot (fns_nil _)) (inl_nil _) (lpOne_ok (b := loopBody 0 (Tryz.f10.body.getD .skip)) Tryz.func10 (by kernel_rfl) lok_armplanref32_CheckConstraints_L0 noLoops_ok) mixed) Tryz.func10 run_armplanref32_CheckConstraints
def hd_armplanref32_CheckConstraints : Hd := guardHd [TRobot, .list (TConstraint)] [.bool] (fun x => dom_armplanref32_CheckConstraints x.1 x.2.1) (fun x => (fun r => (r, ())) (armplanref32_CheckConstraints x.1 x.2.1))
theorem ok_armplanref32_CheckConstraints : HdOk Tryz.prog 10 hd_armplanref32_CheckConstraints.sem ∧ Enters Tryz.prog 10 := guard_ok fn_armplanref32_CheckConstraints Tryz.func10 (by kernel_rfl) (by kernel_rfl)

/- armplan/armplanref32.Value -/
def t_armplanref32_Value (a0 : DRobot) (a1 : DConstraint) (a2 : List ((Int × Int))) : Tr ((Int × Int) × Bool) :=
  let r1 : Bool := armplanref32_CheckConstraints a0 [a1]
  .br (dom_armplanref32_CheckConstraints a0 [a1]) (
   .br ((!r1)) (
    .leaf ((0, 0), false)) (
    let r2 : Bool := armplanref10_InsideBox a0 a2
    .br (dom_armplanref10_InsideBox a0 a2) (
     .br ((!r2)) (
      .leaf ((0, 0), false)) (
      let r3 : List (DPose) := armplanref10_Links a0 a2
      .br (dom_armplanref10_Links a0 a2) (
       .br (decide (0 ≤ a1.2.1) && decide (a1.2.1 < ((r3.length : Nat) : Int))) (
        let r4 : DIVec := armplanref1_Point a1.2.2.1
        let x5 : Bool := decide (a1.1 = 0)
        .br (x5) (
         let r6 : DIVec := armplanref1_Apply (List.getD r3 a1.2.1.toNat (Ty.dflt (TPose))) r4
         let r7 : (Int × Int) := armplanref10_Dot a1.2.2.2.1 r6
         .leaf (r7, true)) (
         let r8 : DIVec := armplanref1_ApplyMat (((List.getD r3 a1.2.1.toNat (Ty.dflt (TPose)))).1) r4
         let r9 : (Int × Int) := armplanref10_Dot a1.2.2.2.1 r8
         .leaf (r9, true))) .fail) .fail)) .fail)) .fail
def armplanref32_Value (a0 : DRobot) (a1 : DConstraint) (a2 : List ((Int × Int))) : ((Int × Int) × Bool) := (t_armplanref32_Value a0 a1 a2).val
def dom_armplanref32_Value (a0 : DRobot) (a1 : DConstraint) (a2 : List ((Int × Int))) : Bool := (t_armplanref32_Value a0 a1 a2).dom
theorem run_armplanref32_Value : ∀ x, runF (mkC ktys keqs [(10, hd_armplanref32_CheckConstraints), (38, hd_armplanref10_InsideBox), (39, hd_armplanref10_Links), (40, hd_armplanref1_Point), (41, hd_armplanref1_Apply), (42, hd_armplanref1_ApplyMat), (43, hd_armplanref10_Dot)] [] noLoops) 200 26 Tryz.f26 (argsA [TRobot, TConstraint, .list (.pair (.int .i64) (.int .i64))] x) [] (fun v h => toRes h [.pair (.int .i64) (.int .i64), .bool] v) = (t_armplanref32_Value x.1 x.2.1 x.2.2.1).optA (fun r => (r.1, r.2, ())) := by
  intro x; kernel_rfl
theorem fn_armplanref32_Value : FnOk Tryz.prog 26 [TRobot, TConstraint, .list (.pair (.int .i64) (.int .i64))] [.pair (.int .i64) (.int .i64), .bool] (fun x => bif dom_armplanref32_Value x.1 x.2.1 x.2.2.1 then some ((fun r => (r.1, r.2, ())) (armplanref32_Value x.1 x.2.1 x.2.2.1)) else none) :=
  fn_part (t := fun (x : Ar [TRobot, TConstraint, .list (.pair (.int .i64) (.int .i64))]) => t_armplanref32_Value x.1 x.2.1 x.2.2.1) (R := ((Int × Int) × Bool)) (Ts := [.pair (.int .i64) (.int .i64), .bool]) (mk := (fun r => (r.1, r.2, ()))) (mkC_ok ktys_ok keqs_ok (fns_cons ok_armplanref32_CheckConstraints (fns_cons ok_armplanref10_InsideBox (fns_cons ok_armplanref10_Links (fns_cons ok_armplanref1_Point (fns_cons ok_armplanref1_Apply (fns_cons ok_armplanref1_ApplyMat (fns_cons ok_armplanref10_Dot (fns_nil _)))))))) (inl_nil _) noLoops_ok mixed) Tryz.func26 run_armplanref32_Value
def hd_armplanref32_Value : Hd := guardHd [TRobot, TConstraint, .list (.pair (.int .i64) (.int .i64))] [.pair (.int .i64) (.int .i64), .bool] (fun x => dom_armplanref32_Value x.1 x.2.1 x.2.2.1) (fun x => (fun r => (r.1, r.2, ())) (armplanref32_Value x.1 x.2.1 x.2.2.1))
theorem ok_armplanref32_Value : HdOk Tryz.prog 26 hd_armplanref32_Value.sem ∧ Enters Tryz.prog 26 := guard_ok fn_armplanref32_Value Tryz.func26 (by kernel_rfl) (by kernel_rfl)

end Go.RX

/-
  The contracts of functions.
-/
namespace Go.RX
open Go.Proofs

def ltys : List (Nat × TRow) := [(2, ⟨.int .i64, 1, 8, [.int .i64 0], .int .i64⟩),
  (3, ⟨.int .i64, 1, 8, [.int .i64 0], .int .i64⟩),
  (22, ⟨.slice 69, 1, 24, [.slice none 0 0], .list (TJoint)⟩),
  (25, ⟨.struct [(0, 1), (1, 1)], 2, 48, [.slice none 0 0, .slice none 0 0], TRobot⟩),
  (26, ⟨.slice 30, 1, 24, [.slice none 0 0], .list (TConstraint)⟩),
  (28, ⟨.arr 3 2, 3, 24, [.int .i64 0, .int .i64 0, .int .i64 0], TVec⟩),
  (30, ⟨.struct [(0, 1), (1, 1), (2, 3), (5, 3), (8, 1), (9, 1)], 10, 80, [.int .i64 0, .int .i64 0, .int .i64 0, .int .i64 0, .int .i64 0, .int .i64 0, .int .i64 0, .int .i64 0, .int .i64 0, .int .i64 0], TConstraint⟩),
  (31, ⟨.slice 46, 1, 24, [.slice none 0 0], .list (.pair (.int .i64) (.int .i64))⟩),
  (43, ⟨.struct [(0, 1), (1, 1)], 2, 16, [.int .i64 0, .int .i64 0], .pair (.int .i64) (.int .i64)⟩),
  (46, ⟨.struct [(0, 1), (1, 1)], 2, 16, [.int .i64 0, .int .i64 0], .pair (.int .i64) (.int .i64)⟩),
  (47, ⟨.slice 50, 1, 24, [.slice none 0 0], .list (TShape)⟩),
  (50, ⟨.struct [(0, 1), (1, 1), (2, 1)], 3, 40, [.int .i64 0, .int .i64 0, .slice none 0 0], TShape⟩),
  (51, ⟨.slice 2, 1, 24, [.slice none 0 0], .list (.int .i64)⟩),
  (55, ⟨.struct [(0, 1), (1, 1), (2, 3), (5, 3)], 8, 128, [.int .i64 0, .slice none 0 0, .int .i64 0, .int .i64 0, .slice none 0 0, .int .i64 0, .slice none 0 0, .slice none 0 0], TEdgeResult⟩),
  (69, ⟨.struct [(0, 1), (1, 1), (2, 1), (3, 3), (6, 1), (7, 1), (8, 1), (9, 1), (10, 1), (11, 1)], 12, 104, [.string (ByteArray.mk #[]), .int .i64 0, .int .i64 0, .int .i64 0, .int .i64 0, .int .i64 0, .int .i64 0, .int .i64 0, .int .i64 0, .int .i64 0, .int .i64 0, .int .i64 0], TJoint⟩),
  (82, ⟨.struct [(0, 1), (1, 1)], 2, 32, [.slice none 0 0, .int .i64 0], TSource⟩)]
def leqs : List (Nat × (Bool × List TK)) := [(4, (false, [.bool])),
  (43, (true, [.int .i64, .int .i64]))]
theorem ltys_ok : tableOk Tryz.prog ltys = true := by kernel_rfl
theorem leqs_ok : eqsOk Tryz.prog leqs = true := by kernel_rfl

/- armplan/armplanlaw32.awake -/
def t_armplanlaw32_awake : Tr Bool :=
  let r1 : DRobot := armplanmake_Slider 2 64
  let r2 : ((Int × Int) × Bool) := manifold_Value r1 (0, (1, ((0, (0, 0)), ((0, (1, 0)), (0, 9))))) [(3, 4), (5, 7)]
  .br (dom_manifold_Value r1 (0, (1, ((0, (0, 0)), ((0, (1, 0)), (0, 9))))) [(3, 4), (5, 7)]) (
   let r3 : DEdgeResult := manifold_Prove r1 [(0, (1, ((0, (0, 0)), ((0, (1, 0)), (0, 9)))))] [0, 2] [64, 8] 4
   .br (dom_manifold_Prove r1 [(0, (1, ((0, (0, 0)), ((0, (1, 0)), (0, 9)))))] [0, 2] [64, 8] 4) (
    .br (r2.2) (
     let x4 : Bool := (decide (r2.1.1 = 5) && (decide (r2.1.2 = 7) && true))
     .br (x4) (
      let x5 : Bool := decide (r3.1 = 1)
      .br (x5) (
       let x6 : Bool := decide (((r3.2.1.length : Nat) : Int) = 1)
       .leaf x6) (
       .leaf false)) (
      .leaf false)) (
     .leaf false)) .fail) .fail
def armplanlaw32_awake : Bool := t_armplanlaw32_awake.val
def dom_armplanlaw32_awake : Bool := t_armplanlaw32_awake.dom
theorem run_armplanlaw32_awake : ∀ x, runF (mkC ltys leqs [(13, hd_armplanmake_Slider), (14, hd_manifold_Value), (15, hd_manifold_Prove)] [] noLoops) 200 5 Tryz.f5 (argsA [] x) [] (fun v h => toRes h [.bool] v) = (t_armplanlaw32_awake ).optA (fun r => (r, ())) := by
  intro x; kernel_rfl
theorem fn_armplanlaw32_awake : FnOk Tryz.prog 5 [] [.bool] (fun x => bif dom_armplanlaw32_awake  then some ((fun r => (r, ())) (armplanlaw32_awake )) else none) :=
  fn_part (t := fun (_ : Ar []) => t_armplanlaw32_awake ) (R := Bool) (Ts := [.bool]) (mk := (fun r => (r, ()))) (mkC_ok ltys_ok leqs_ok (fns_cons ok_armplanmake_Slider (fns_cons ok_manifold_Value (fns_cons ok_manifold_Prove (fns_nil _)))) (inl_nil _) noLoops_ok mixed) Tryz.func5 run_armplanlaw32_awake
def hd_armplanlaw32_awake : Hd := guardHd [] [.bool] (fun x => dom_armplanlaw32_awake ) (fun x => (fun r => (r, ())) (armplanlaw32_awake ))
theorem ok_armplanlaw32_awake : HdOk Tryz.prog 5 hd_armplanlaw32_awake.sem ∧ Enters Tryz.prog 5 := guard_ok fn_armplanlaw32_awake Tryz.func5 (by kernel_rfl) (by kernel_rfl)

/- loop 0 of armplan/armplanlaw32.Constraints -/
abbrev ss_armplanlaw32_Constraints_L0 : List Slot := [⟨[3], true, false, [.d (TRobot)]⟩, ⟨[7], true, false, [.d (TSource)]⟩, ⟨[1], false, false, [.d (.int .i64)]⟩, ⟨[8], false, false, [.v 30 (TConstraint)]⟩]
abbrev os_armplanlaw32_Constraints_L0 : List (Exit × List Slot) := [(.exit 0, [⟨[3], true, false, [.d (TRobot)]⟩, ⟨[7], true, false, [.d (TSource)]⟩, ⟨[8], false, false, [.v 30 (TConstraint)]⟩])]
def t_armplanlaw32_Constraints_L0 (a0 : DRobot) (a1 : DSource) (a2 : Int) (a3 : List (DConstraint)) : Tr (Sl ss_armplanlaw32_Constraints_L0 ⊕ Outs os_armplanlaw32_Constraints_L0) :=
  let x1 : Bool := decide (0 < a2)
  .br (x1) (
   let r2 : (Int × DSource) := armplanmake_Source_Next a1 2
   .br (dom_armplanmake_Source_Next a1 2) (
    let r3 : (Int × DSource) := armplanmake_Source_Next r2.2 ((a0.1.length : Nat) : Int)
    .br (dom_armplanmake_Source_Next r2.2 ((a0.1.length : Nat) : Int)) (
     let r4 : (Int × DSource) := armplanmake_Source_Signed r3.2 4
     .br (dom_armplanmake_Source_Signed r3.2 4) (
      let x5 : Int := IntKind.wrap .i64 (r4.1 * 65536)
      let x6 : Int := IntKind.wrap .i64 (Int.tdiv x5 2)
      let r7 : (Int × DSource) := armplanmake_Source_Signed r4.2 2
      .br (dom_armplanmake_Source_Signed r4.2 2) (
       let x8 : Int := IntKind.wrap .i64 (r7.1 * 65536)
       let r9 : (Int × DSource) := armplanmake_Source_Signed r7.2 2
       .br (dom_armplanmake_Source_Signed r7.2 2) (
        let x10 : Int := IntKind.wrap .i64 (r9.1 * 65536)
        let x11 : Int := IntKind.wrap .i64 (Int.tdiv x10 2)
        let r12 : (Int × DSource) := armplanmake_Source_Next r9.2 4096
        .br (dom_armplanmake_Source_Next r9.2 4096) (
         let r13 : (Int × DSource) := armplanmake_Source_Next r12.2 4096
         .br (dom_armplanmake_Source_Next r12.2 4096) (
          let r14 : (Int × DSource) := armplanmake_Source_Next r13.2 4096
          .br (dom_armplanmake_Source_Next r13.2 4096) (
           let r15 : DVec := armplanmake_Normal r12.1 r13.1 r14.1
           let r16 : (Int × DSource) := armplanmake_Source_Signed r14.2 60
           .br (dom_armplanmake_Source_Signed r14.2 60) (
            let x17 : Int := IntKind.wrap .i64 (r16.1 * 65536)
            let r18 : (Int × DSource) := armplanmake_Source_Next r16.2 90
            .br (dom_armplanmake_Source_Next r16.2 90) (
             let x19 : Int := IntKind.wrap .i64 (r18.1 * 65536)
             let x20 : Int := IntKind.wrap .i64 (x17 + x19)
             let r21 : (Int × DSource) := armplanmake_Source_Next r18.2 24
             .br (dom_armplanmake_Source_Next r18.2 24) (
              let x22 : Bool := decide (r21.1 = 1)
              .br (x22) (
               let r23 : (Int × DSource) := armplanmake_Source_Next r21.2 9
               .br (dom_armplanmake_Source_Next r21.2 9) (
                let x24 : Int := IntKind.wrap .i64 (r23.1 - 3)
                .br (room (a3.length + [(r2.1, (x24, ((x6, (x8, x11)), (r15, (x17, x20)))))].length)) (
                 let x25 : Int := IntKind.wrap .i64 (a2 - 1)
                 .leaf (.inl ((a0, ()), (r23.2, ()), (x25, ()), ((a3 ++ [(r2.1, (x24, ((x6, (x8, x11)), (r15, (x17, x20)))))]), ()), ()))) .fail) .fail) (
               .br (room (a3.length + [(r2.1, (r3.1, ((x6, (x8, x11)), (r15, (x17, x20)))))].length)) (
                let x26 : Int := IntKind.wrap .i64 (a2 - 1)
                .leaf (.inl ((a0, ()), (r21.2, ()), (x26, ()), ((a3 ++ [(r2.1, (r3.1, ((x6, (x8, x11)), (r15, (x17, x20)))))]), ()), ()))) .fail)) .fail) .fail) .fail) .fail) .fail) .fail) .fail) .fail) .fail) .fail) .fail) (
   .leaf (.inr ((a0, ()), (a1, ()), (a3, ()), ())))
def step_armplanlaw32_Constraints_L0 : Sl ss_armplanlaw32_Constraints_L0 → Option (Sl ss_armplanlaw32_Constraints_L0 ⊕ Outs os_armplanlaw32_Constraints_L0) := fun x => (t_armplanlaw32_Constraints_L0 x.1.1 x.2.1.1 x.2.2.1.1 x.2.2.2.1.1).optA id
theorem run_armplanlaw32_Constraints_L0 : ∀ (x : Sl ss_armplanlaw32_Constraints_L0) (vs : Nat → Value), run (mkC ltys leqs [(18, hd_armplanmake_Source_Next), (19, hd_armplanmake_Source_Signed), (20, hd_armplanmake_Normal)] [] noLoops) 200 7 (loopBody 0 (Tryz.f7.body.getD .skip)) (mkSt ss_armplanlaw32_Constraints_L0 x (baseT 66 [] [] vs)) (endK ss_armplanlaw32_Constraints_L0 os_armplanlaw32_Constraints_L0 66 []) = (t_armplanlaw32_Constraints_L0 x.1.1 x.2.1.1 x.2.2.1.1 x.2.2.2.1.1).optA fun r => (r, [].map (keptA [] vs)) := by
  intro x vs; kernel_rfl
instance inh_armplanlaw32_Constraints_L0 : Inhabited (Outs os_armplanlaw32_Constraints_L0) := ⟨outsDflt os_armplanlaw32_Constraints_L0⟩
def dom_armplanlaw32_Constraints_L0 (x : Sl ss_armplanlaw32_Constraints_L0) : Bool := (loopN step_armplanlaw32_Constraints_L0 rounds x).isSome
def val_armplanlaw32_Constraints_L0 (x : Sl ss_armplanlaw32_Constraints_L0) : Outs os_armplanlaw32_Constraints_L0 := (loopN step_armplanlaw32_Constraints_L0 rounds x).getD default
def loop_armplanlaw32_Constraints_L0 : LoopD := mkLoop ss_armplanlaw32_Constraints_L0 os_armplanlaw32_Constraints_L0 66 [] [] step_armplanlaw32_Constraints_L0 dom_armplanlaw32_Constraints_L0 val_armplanlaw32_Constraints_L0 (loop_hv step_armplanlaw32_Constraints_L0)
theorem lok_armplanlaw32_Constraints_L0 : LoopOk Tryz.prog (loopLH loop_armplanlaw32_Constraints_L0 0) 0 (.loop (loopBody 0 (Tryz.f7.body.getD .skip))) := loop_in (D := loop_armplanlaw32_Constraints_L0) (n := 200) (cur := 7) (mkC_ok ltys_ok leqs_ok (fns_cons ok_armplanmake_Source_Next (fns_cons ok_armplanmake_Source_Signed (fns_cons ok_armplanmake_Normal (fns_nil _)))) (inl_nil _) noLoops_ok mixed) Tryz.func7 (by kernel_rfl) (turns_of run_armplanlaw32_Constraints_L0) (by kernel_rfl) (by kernel_rfl) (by kernel_rfl)

/- armplan/armplanlaw32.Constraints -/
def t_armplanlaw32_Constraints (a0 : DRobot) (a1 : Int) (a2 : List (Int)) : Tr (List (DConstraint)) :=
  let r1 : Outs os_armplanlaw32_Constraints_L0 := val_armplanlaw32_Constraints_L0 ((a0, ()), ((a2, 0), ()), (a1, ()), ([], ()), ())
  .br (dom_armplanlaw32_Constraints_L0 ((a0, ()), ((a2, 0), ()), (a1, ()), ([], ()), ())) (
   let y2 : DRobot := r1.1.1
   let y3 : DSource := r1.2.1.1
   let y4 : List (DConstraint) := r1.2.2.1.1
   .leaf y4) .fail
def armplanlaw32_Constraints (a0 : DRobot) (a1 : Int) (a2 : List (Int)) : List (DConstraint) := (t_armplanlaw32_Constraints a0 a1 a2).val
def dom_armplanlaw32_Constraints (a0 : DRobot) (a1 : Int) (a2 : List (Int)) : Bool := (t_armplanlaw32_Constraints a0 a1 a2).dom
theorem run_armplanlaw32_Constraints : ∀ x, runF (mkC ltys leqs [] [(17, Tryz.f17)] (lpOne 7 0 (loopLH loop_armplanlaw32_Constraints_L0 0) noLoops)) 200 7 Tryz.f7 (argsA [TRobot, .int .i64, .list (.int .i64)] x) [] (fun v h => toRes h [.list (TConstraint)] v) = (t_armplanlaw32_Constraints x.1 x.2.1 x.2.2.1).optA (fun r => (r, ())) := by
  intro x; kernel_rfl
theorem fn_armplanlaw32_Constraints : FnOk Tryz.prog 7 [TRobot, .int .i64, .list (.int .i64)] [.list (TConstraint)] (fun x => bif dom_armplanlaw32_Constraints x.1 x.2.1 x.2.2.1 then some ((fun r => (r, ())) (armplanlaw32_Constraints x.1 x.2.1 x.2.2.1)) else none) :=
  fn_part (t := fun (x : Ar [TRobot, .int .i64, .list (.int .i64)]) => t_armplanlaw32_Constraints x.1 x.2.1 x.2.2.1) (R := List (DConstraint)) (Ts := [.list (TConstraint)]) (mk := (fun r => (r, ()))) (mkC_ok ltys_ok leqs_ok (fns_nil _) (inl_cons Tryz.func17 (by kernel_rfl) (inl_nil _)) (lpOne_ok (b := loopBody 0 (Tryz.f7.body.getD .skip)) Tryz.func7 (by kernel_rfl) lok_armplanlaw32_Constraints_L0 noLoops_ok) mixed) Tryz.func7 run_armplanlaw32_Constraints
def hd_armplanlaw32_Constraints : Hd := guardHd [TRobot, .int .i64, .list (.int .i64)] [.list (TConstraint)] (fun x => dom_armplanlaw32_Constraints x.1 x.2.1 x.2.2.1) (fun x => (fun r => (r, ())) (armplanlaw32_Constraints x.1 x.2.1 x.2.2.1))
theorem ok_armplanlaw32_Constraints : HdOk Tryz.prog 7 hd_armplanlaw32_Constraints.sem ∧ Enters Tryz.prog 7 := guard_ok fn_armplanlaw32_Constraints Tryz.func7 (by kernel_rfl) (by kernel_rfl)

/- armplan/armplanlaw32.few -/
def t_armplanlaw32_few (a0 : DRobot) (a1 : List (DConstraint)) : Tr Bool :=
  let x1 : Bool := decide (((a0.1.length : Nat) : Int) ≤ 12)
  .br (x1) (
   let x2 : Bool := decide (((a1.length : Nat) : Int) ≤ 20)
   .leaf x2) (
   .leaf false)
def armplanlaw32_few (a0 : DRobot) (a1 : List (DConstraint)) : Bool := (t_armplanlaw32_few a0 a1).val
theorem run_armplanlaw32_few : ∀ x, runF (mkC ltys leqs [] [] noLoops) 200 4 Tryz.f4 (argsA [TRobot, .list (TConstraint)] x) [] (fun v h => toRes h [.bool] v) = (t_armplanlaw32_few x.1 x.2.1).optA (fun r => (r, ())) := by
  intro x; kernel_rfl
theorem fn_armplanlaw32_few : FnOk Tryz.prog 4 [TRobot, .list (TConstraint)] [.bool] (fun x => some ((fun r => (r, ())) (armplanlaw32_few x.1 x.2.1))) :=
  fn_tot (t := fun (x : Ar [TRobot, .list (TConstraint)]) => t_armplanlaw32_few x.1 x.2.1) (R := Bool) (Ts := [.bool]) (mk := (fun r => (r, ()))) (mkC_ok ltys_ok leqs_ok (fns_nil _) (inl_nil _) noLoops_ok mixed) Tryz.func4 run_armplanlaw32_few (fun _ => by kernel_rfl)
def hd_armplanlaw32_few : Hd := dataHd [TRobot, .list (TConstraint)] [.bool] (fun x => some ((fun r => (r, ())) (armplanlaw32_few x.1 x.2.1)))
theorem ok_armplanlaw32_few : HdOk Tryz.prog 4 hd_armplanlaw32_few.sem ∧ Enters Tryz.prog 4 := data_ok fn_armplanlaw32_few Tryz.func4 (by kernel_rfl) (by kernel_rfl)

/- armplan/armplanlaw32.values -/
def t_armplanlaw32_values (a0 : DRobot) (a1 : DConstraint) (a2 : List ((Int × Int))) : Tr Bool :=
  let r1 : ((Int × Int) × Bool) := manifold_Value a0 a1 a2
  .br (dom_manifold_Value a0 a1 a2) (
   let r2 : ((Int × Int) × Bool) := armplanref32_Value a0 a1 a2
   .br (dom_armplanref32_Value a0 a1 a2) (
    let x3 : Bool := (decide (r1.1.1 = r2.1.1) && (decide (r1.1.2 = r2.1.2) && true))
    .br (x3) (
     let x4 : Bool := ((r1.2 == r2.2) && true)
     .leaf x4) (
     .leaf false)) .fail) .fail
def armplanlaw32_values (a0 : DRobot) (a1 : DConstraint) (a2 : List ((Int × Int))) : Bool := (t_armplanlaw32_values a0 a1 a2).val
def dom_armplanlaw32_values (a0 : DRobot) (a1 : DConstraint) (a2 : List ((Int × Int))) : Bool := (t_armplanlaw32_values a0 a1 a2).dom
theorem run_armplanlaw32_values : ∀ x, runF (mkC ltys leqs [(14, hd_manifold_Value), (26, hd_armplanref32_Value)] [] noLoops) 200 11 Tryz.f11 (argsA [TRobot, TConstraint, .list (.pair (.int .i64) (.int .i64))] x) [] (fun v h => toRes h [.bool] v) = (t_armplanlaw32_values x.1 x.2.1 x.2.2.1).optA (fun r => (r, ())) := by
  intro x; kernel_rfl
theorem fn_armplanlaw32_values : FnOk Tryz.prog 11 [TRobot, TConstraint, .list (.pair (.int .i64) (.int .i64))] [.bool] (fun x => bif dom_armplanlaw32_values x.1 x.2.1 x.2.2.1 then some ((fun r => (r, ())) (armplanlaw32_values x.1 x.2.1 x.2.2.1)) else none) :=
  fn_part (t := fun (x : Ar [TRobot, TConstraint, .list (.pair (.int .i64) (.int .i64))]) => t_armplanlaw32_values x.1 x.2.1 x.2.2.1) (R := Bool) (Ts := [.bool]) (mk := (fun r => (r, ()))) (mkC_ok ltys_ok leqs_ok (fns_cons ok_manifold_Value (fns_cons ok_armplanref32_Value (fns_nil _))) (inl_nil _) noLoops_ok mixed) Tryz.func11 run_armplanlaw32_values
def hd_armplanlaw32_values : Hd := guardHd [TRobot, TConstraint, .list (.pair (.int .i64) (.int .i64))] [.bool] (fun x => dom_armplanlaw32_values x.1 x.2.1 x.2.2.1) (fun x => (fun r => (r, ())) (armplanlaw32_values x.1 x.2.1 x.2.2.1))
theorem ok_armplanlaw32_values : HdOk Tryz.prog 11 hd_armplanlaw32_values.sem ∧ Enters Tryz.prog 11 := guard_ok fn_armplanlaw32_values Tryz.func11 (by kernel_rfl) (by kernel_rfl)

/- armplan/armplanlaw32.ManifoldValues -/
def t_armplanlaw32_ManifoldValues (a0 : DRobot) (a1 : List (DConstraint)) (a2 : DConstraint) (a3 : List ((Int × Int))) (a4 : List (Int)) (a5 : List (Int)) (a6 : List (Int)) (a7 : Int) : Tr Bool :=
  let r1 : Bool := armplanlaw32_few a0 a1
  .br ((!r1)) (
   let r2 : Bool := armplanlaw32_awake
   .br (dom_armplanlaw32_awake) (
    .leaf r2) .fail) (
   let x3 : Bool := decide (20 < ((a3.length : Nat) : Int))
   .br (x3) (
    let r4 : Bool := armplanlaw32_awake
    .br (dom_armplanlaw32_awake) (
     .leaf r4) .fail) (
    let r5 : DRobot := armplanmake_Robot a4
    .br (dom_armplanmake_Robot a4) (
     let r6 : Int := armplanmake_Round a7 9
     let x7 : Int := IntKind.wrap .i64 (1 + r6)
     let r8 : List (DConstraint) := armplanlaw32_Constraints r5 x7 a5
     .br (dom_armplanlaw32_Constraints r5 x7 a5) (
      let r9 : Bool := armplanlaw32_awake
      .br (dom_armplanlaw32_awake) (
       .br (r9) (
        let r10 : Bool := manifold_Check a0 a1
        .br (dom_manifold_Check a0 a1) (
         let r11 : Bool := armplanref32_CheckConstraints a0 a1
         .br (dom_armplanref32_CheckConstraints a0 a1) (
          let x12 : Bool := ((r10 == r11) && true)
          .br (x12) (
           let r13 : Bool := manifold_Check r5 r8
           .br (dom_manifold_Check r5 r8) (
            let r14 : Bool := armplanref32_CheckConstraints r5 r8
            .br (dom_armplanref32_CheckConstraints r5 r8) (
             let x15 : Bool := ((r13 == r14) && true)
             .br (x15) (
              let r16 : Bool := armplanlaw32_values a0 a2 a3
              .br (dom_armplanlaw32_values a0 a2 a3) (
               .br (r16) (
                .br (decide (0 < ((r8.length : Nat) : Int))) (
                 let r17 : List ((Int × Int)) := armplanmake_Box r5 a6
                 .br (dom_armplanmake_Box r5 a6) (
                  let r18 : Bool := armplanlaw32_values r5 (List.getD r8 0 (Ty.dflt (TConstraint))) r17
                  .br (dom_armplanlaw32_values r5 (List.getD r8 0 (Ty.dflt (TConstraint))) r17) (
                   .br (r18) (
                    let r19 : List ((Int × Int)) := armplanmake_Box r5 a6
                    .br (dom_armplanmake_Box r5 a6) (
                     let r20 : Bool := armplanlaw32_values r5 a2 r19
                     .br (dom_armplanlaw32_values r5 a2 r19) (
                      .br (r20) (
                       .br (decide (0 < ((r8.length : Nat) : Int))) (
                        let r21 : Bool := armplanlaw32_values r5 (List.getD r8 0 (Ty.dflt (TConstraint))) a3
                        .br (dom_armplanlaw32_values r5 (List.getD r8 0 (Ty.dflt (TConstraint))) a3) (
                         .leaf r21) .fail) .fail) (
                       .leaf false)) .fail) .fail) (
                    .leaf false)) .fail) .fail) .fail) (
                .leaf false)) .fail) (
              .leaf false)) .fail) .fail) (
           .leaf false)) .fail) .fail) (
        .leaf false)) .fail) .fail) .fail))
def armplanlaw32_ManifoldValues (a0 : DRobot) (a1 : List (DConstraint)) (a2 : DConstraint) (a3 : List ((Int × Int))) (a4 : List (Int)) (a5 : List (Int)) (a6 : List (Int)) (a7 : Int) : Bool := (t_armplanlaw32_ManifoldValues a0 a1 a2 a3 a4 a5 a6 a7).val
def dom_armplanlaw32_ManifoldValues (a0 : DRobot) (a1 : List (DConstraint)) (a2 : DConstraint) (a3 : List ((Int × Int))) (a4 : List (Int)) (a5 : List (Int)) (a6 : List (Int)) (a7 : Int) : Bool := (t_armplanlaw32_ManifoldValues a0 a1 a2 a3 a4 a5 a6 a7).dom
theorem run_armplanlaw32_ManifoldValues : ∀ x, runF (mkC ltys leqs [(4, hd_armplanlaw32_few), (5, hd_armplanlaw32_awake), (6, hd_armplanmake_Robot), (7, hd_armplanlaw32_Constraints), (8, hd_armplanmake_Round), (9, hd_manifold_Check), (10, hd_armplanref32_CheckConstraints), (11, hd_armplanlaw32_values), (12, hd_armplanmake_Box)] [] noLoops) 200 3 Tryz.f3 (argsA [TRobot, .list (TConstraint), TConstraint, .list (.pair (.int .i64) (.int .i64)), .list (.int .i64), .list (.int .i64), .list (.int .i64), .int .i64] x) [] (fun v h => toRes h [.bool] v) = (t_armplanlaw32_ManifoldValues x.1 x.2.1 x.2.2.1 x.2.2.2.1 x.2.2.2.2.1 x.2.2.2.2.2.1 x.2.2.2.2.2.2.1 x.2.2.2.2.2.2.2.1).optA (fun r => (r, ())) := by
  intro x; kernel_rfl
theorem fn_armplanlaw32_ManifoldValues : FnOk Tryz.prog 3 [TRobot, .list (TConstraint), TConstraint, .list (.pair (.int .i64) (.int .i64)), .list (.int .i64), .list (.int .i64), .list (.int .i64), .int .i64] [.bool] (fun x => bif dom_armplanlaw32_ManifoldValues x.1 x.2.1 x.2.2.1 x.2.2.2.1 x.2.2.2.2.1 x.2.2.2.2.2.1 x.2.2.2.2.2.2.1 x.2.2.2.2.2.2.2.1 then some ((fun r => (r, ())) (armplanlaw32_ManifoldValues x.1 x.2.1 x.2.2.1 x.2.2.2.1 x.2.2.2.2.1 x.2.2.2.2.2.1 x.2.2.2.2.2.2.1 x.2.2.2.2.2.2.2.1)) else none) :=
  fn_part (t := fun (x : Ar [TRobot, .list (TConstraint), TConstraint, .list (.pair (.int .i64) (.int .i64)), .list (.int .i64), .list (.int .i64), .list (.int .i64), .int .i64]) => t_armplanlaw32_ManifoldValues x.1 x.2.1 x.2.2.1 x.2.2.2.1 x.2.2.2.2.1 x.2.2.2.2.2.1 x.2.2.2.2.2.2.1 x.2.2.2.2.2.2.2.1) (R := Bool) (Ts := [.bool]) (mk := (fun r => (r, ()))) (mkC_ok ltys_ok leqs_ok (fns_cons ok_armplanlaw32_few (fns_cons ok_armplanlaw32_awake (fns_cons ok_armplanmake_Robot (fns_cons ok_armplanlaw32_Constraints (fns_cons ok_armplanmake_Round (fns_cons ok_manifold_Check (fns_cons ok_armplanref32_CheckConstraints (fns_cons ok_armplanlaw32_values (fns_cons ok_armplanmake_Box (fns_nil _)))))))))) (inl_nil _) noLoops_ok mixed) Tryz.func3 run_armplanlaw32_ManifoldValues
end Go.RX

/-
  Printed by a program of this session out of the loaded functions: models and their proofs. Own text.
-/
import Derived.Test.YtbgfffdnaijmhaaGreatVPlace
import Derived.Test.YtbgfffdnaijmhaaGreatProg
import Derived.KernelRfl
namespace Go.Proofs.YtbgfffdnaijmhaaGreat.M
open Go Go.Proofs Go.Proofs.YtbgfffdnaijmhaaGreat.V
open Go.IntKind (i64)
set_option linter.unusedVariables false
set_option maxRecDepth 20000
set_option maxHeartbeats 40000000
structure T_api_Res where
  Cpu : Int
  Mem : Int
  Disk : Int
  Pods : Int
  Dev : Int
  deriving DecidableEq
def T_api_Res.cells (x : T_api_Res) : List VV := [.int .i64 x.Cpu, .int .i64 x.Mem, .int .i64 x.Disk, .int .i64 x.Pods, .int .i64 x.Dev]
def T_api_Res.vv (x : T_api_Res) : VV := .agg (T_api_Res.cells x)

structure T_api_Label where
  Key : ByteArray
  Val : ByteArray
  deriving DecidableEq
def T_api_Label.cells (x : T_api_Label) : List VV := [.str x.Key, .str x.Val]
def T_api_Label.vv (x : T_api_Label) : VV := .agg (T_api_Label.cells x)

structure T_api_Taint where
  Key : ByteArray
  Val : ByteArray
  Effect : Int
  deriving DecidableEq
def T_api_Taint.cells (x : T_api_Taint) : List VV := [.str x.Key, .str x.Val, .int .i64 x.Effect]
def T_api_Taint.vv (x : T_api_Taint) : VV := .agg (T_api_Taint.cells x)

structure T_api_Machine where
  Name : ByteArray
  Group : ByteArray
  Has : T_api_Res
  Labels : List T_api_Label
  Taints : List T_api_Taint
  Ready : Bool
  deriving DecidableEq
def T_api_Machine.cells (x : T_api_Machine) : List VV := [.str x.Name, .str x.Group, .int .i64 x.Has.Cpu, .int .i64 x.Has.Mem, .int .i64 x.Has.Disk, .int .i64 x.Has.Pods, .int .i64 x.Has.Dev, .list 232 (List.map T_api_Label.vv x.Labels), .list 31 (List.map T_api_Taint.vv x.Taints), .bool x.Ready]
def T_api_Machine.vv (x : T_api_Machine) : VV := .agg (T_api_Machine.cells x)

structure T_api_Group where
  Name : ByteArray
  Min : Int
  Max : Int
  Like : T_api_Machine
  Price : Int
  Rank : Int
  deriving DecidableEq
def T_api_Group.cells (x : T_api_Group) : List VV := [.str x.Name, .int .i64 x.Min, .int .i64 x.Max, .str x.Like.Name, .str x.Like.Group, .int .i64 x.Like.Has.Cpu, .int .i64 x.Like.Has.Mem, .int .i64 x.Like.Has.Disk, .int .i64 x.Like.Has.Pods, .int .i64 x.Like.Has.Dev, .list 232 (List.map T_api_Label.vv x.Like.Labels), .list 31 (List.map T_api_Taint.vv x.Like.Taints), .bool x.Like.Ready, .int .i64 x.Price, .int .i64 x.Rank]
def T_api_Group.vv (x : T_api_Group) : VV := .agg (T_api_Group.cells x)

structure T_api_Budget where
  Name : ByteArray
  Match : List T_api_Label
  Least : Int
  deriving DecidableEq
def T_api_Budget.cells (x : T_api_Budget) : List VV := [.str x.Name, .list 232 (List.map T_api_Label.vv x.Match), .int .i64 x.Least]
def T_api_Budget.vv (x : T_api_Budget) : VV := .agg (T_api_Budget.cells x)

structure T_api_Term where
  Key : ByteArray
  Op : Int
  Vals : List ByteArray
  deriving DecidableEq
def T_api_Term.cells (x : T_api_Term) : List VV := [.str x.Key, .int .i64 x.Op, .list 9 (List.map VV.str x.Vals)]
def T_api_Term.vv (x : T_api_Term) : VV := .agg (T_api_Term.cells x)

structure T_api_Toleration where
  Key : ByteArray
  Val : ByteArray
  Any : Bool
  Effect : Int
  deriving DecidableEq
def T_api_Toleration.cells (x : T_api_Toleration) : List VV := [.str x.Key, .str x.Val, .bool x.Any, .int .i64 x.Effect]
def T_api_Toleration.vv (x : T_api_Toleration) : VV := .agg (T_api_Toleration.cells x)

structure T_api_Pod where
  Name : ByteArray
  Need : T_api_Res
  Labels : List T_api_Label
  Select : List T_api_Label
  Terms : List T_api_Term
  Bears : List T_api_Toleration
  Ports : List Int
  Apart : List T_api_Label
  Wide : Bool
  Spread : List T_api_Label
  Skew : Int
  Rank : Int
  Owner : ByteArray
  Daemon : Bool
  Pinned : Bool
  Local : Bool
  deriving DecidableEq
def T_api_Pod.cells (x : T_api_Pod) : List VV := [.str x.Name, .int .i64 x.Need.Cpu, .int .i64 x.Need.Mem, .int .i64 x.Need.Disk, .int .i64 x.Need.Pods, .int .i64 x.Need.Dev, .list 232 (List.map T_api_Label.vv x.Labels), .list 232 (List.map T_api_Label.vv x.Select), .list 189 (List.map T_api_Term.vv x.Terms), .list 191 (List.map T_api_Toleration.vv x.Bears), .list 3 (List.map (VV.int .i64) x.Ports), .list 232 (List.map T_api_Label.vv x.Apart), .bool x.Wide, .list 232 (List.map T_api_Label.vv x.Spread), .int .i64 x.Skew, .int .i64 x.Rank, .str x.Owner, .bool x.Daemon, .bool x.Pinned, .bool x.Local]
def T_api_Pod.vv (x : T_api_Pod) : VV := .agg (T_api_Pod.cells x)

structure T_law18_Op where
  Kind : Int
  P_ : T_api_Pod
  X : T_api_Taint
  Name : ByteArray
  N_ : Int
  Is : Bool
  deriving DecidableEq
def T_law18_Op.cells (x : T_law18_Op) : List VV := [.int .i64 x.Kind, .str x.P_.Name, .int .i64 x.P_.Need.Cpu, .int .i64 x.P_.Need.Mem, .int .i64 x.P_.Need.Disk, .int .i64 x.P_.Need.Pods, .int .i64 x.P_.Need.Dev, .list 232 (List.map T_api_Label.vv x.P_.Labels), .list 232 (List.map T_api_Label.vv x.P_.Select), .list 189 (List.map T_api_Term.vv x.P_.Terms), .list 191 (List.map T_api_Toleration.vv x.P_.Bears), .list 3 (List.map (VV.int .i64) x.P_.Ports), .list 232 (List.map T_api_Label.vv x.P_.Apart), .bool x.P_.Wide, .list 232 (List.map T_api_Label.vv x.P_.Spread), .int .i64 x.P_.Skew, .int .i64 x.P_.Rank, .str x.P_.Owner, .bool x.P_.Daemon, .bool x.P_.Pinned, .bool x.P_.Local, .str x.X.Key, .str x.X.Val, .int .i64 x.X.Effect, .str x.Name, .int .i64 x.N_, .bool x.Is]
def T_law18_Op.vv (x : T_law18_Op) : VV := .agg (T_law18_Op.cells x)

structure T_law28_Op where
  Drain : Int
  W : T_law18_Op
  deriving DecidableEq
def T_law28_Op.cells (x : T_law28_Op) : List VV := [.int .i64 x.Drain, .int .i64 x.W.Kind, .str x.W.P_.Name, .int .i64 x.W.P_.Need.Cpu, .int .i64 x.W.P_.Need.Mem, .int .i64 x.W.P_.Need.Disk, .int .i64 x.W.P_.Need.Pods, .int .i64 x.W.P_.Need.Dev, .list 232 (List.map T_api_Label.vv x.W.P_.Labels), .list 232 (List.map T_api_Label.vv x.W.P_.Select), .list 189 (List.map T_api_Term.vv x.W.P_.Terms), .list 191 (List.map T_api_Toleration.vv x.W.P_.Bears), .list 3 (List.map (VV.int .i64) x.W.P_.Ports), .list 232 (List.map T_api_Label.vv x.W.P_.Apart), .bool x.W.P_.Wide, .list 232 (List.map T_api_Label.vv x.W.P_.Spread), .int .i64 x.W.P_.Skew, .int .i64 x.W.P_.Rank, .str x.W.P_.Owner, .bool x.W.P_.Daemon, .bool x.W.P_.Pinned, .bool x.W.P_.Local, .str x.W.X.Key, .str x.W.X.Val, .int .i64 x.W.X.Effect, .str x.W.Name, .int .i64 x.W.N_, .bool x.W.Is]
def T_law28_Op.vv (x : T_law28_Op) : VV := .agg (T_law28_Op.cells x)

structure T_law28_Case where
  G : List T_api_Group
  B : List T_api_Budget
  Delay : Int
  Grace : Int
  L : List T_law28_Op
  deriving DecidableEq
def T_law28_Case.cells (x : T_law28_Case) : List VV := [.list 139 (List.map T_api_Group.vv x.G), .list 103 (List.map T_api_Budget.vv x.B), .int .i64 x.Delay, .int .i64 x.Grace, .list 95 (List.map T_law28_Op.vv x.L)]
def T_law28_Case.vv (x : T_law28_Case) : VV := .agg (T_law28_Case.cells x)

structure T_cloud_pool where
  Group : T_api_Group
  target : Int
  last : Int
  broken : Bool
  deriving DecidableEq
def T_cloud_pool.cells (x : T_cloud_pool) : List VV := [.str x.Group.Name, .int .i64 x.Group.Min, .int .i64 x.Group.Max, .str x.Group.Like.Name, .str x.Group.Like.Group, .int .i64 x.Group.Like.Has.Cpu, .int .i64 x.Group.Like.Has.Mem, .int .i64 x.Group.Like.Has.Disk, .int .i64 x.Group.Like.Has.Pods, .int .i64 x.Group.Like.Has.Dev, .list 232 (List.map T_api_Label.vv x.Group.Like.Labels), .list 31 (List.map T_api_Taint.vv x.Group.Like.Taints), .bool x.Group.Like.Ready, .int .i64 x.Group.Price, .int .i64 x.Group.Rank, .int .i64 x.target, .int .i64 x.last, .bool x.broken]
def T_cloud_pool.vv (x : T_cloud_pool) : VV := .agg (T_cloud_pool.cells x)

structure T_cloud_creating where
  ticks : Int
  deriving DecidableEq
def T_cloud_creating.cells (x : T_cloud_creating) : List VV := [.int .i64 x.ticks]
def T_cloud_creating.vv (x : T_cloud_creating) : VV := .agg (T_cloud_creating.cells x)

structure T_cloud_leaving where

  deriving DecidableEq
def T_cloud_leaving.cells (x : T_cloud_leaving) : List VV := []
def T_cloud_leaving.vv (x : T_cloud_leaving) : VV := .agg (T_cloud_leaving.cells x)

structure T_cloud_running where

  deriving DecidableEq
def T_cloud_running.cells (x : T_cloud_running) : List VV := []
def T_cloud_running.vv (x : T_cloud_running) : VV := .agg (T_cloud_running.cells x)

structure T_cloud_failed where

  deriving DecidableEq
def T_cloud_failed.cells (x : T_cloud_failed) : List VV := []
def T_cloud_failed.vv (x : T_cloud_failed) : VV := .agg (T_cloud_failed.cells x)

inductive I_cloud_state where
  | nil
  | c151 (x : T_cloud_creating)
  | c159 (x : T_cloud_leaving)
  | c160 (x : T_cloud_running)
  | c225 (x : T_cloud_failed)
  deriving DecidableEq
def I_cloud_state.isNil : I_cloud_state → Bool
  | .nil => true
  | .c151 _ => false
  | .c159 _ => false
  | .c160 _ => false
  | .c225 _ => false
def I_cloud_state.ty : I_cloud_state → Nat
  | .nil => 0
  | .c151 _ => 151
  | .c159 _ => 159
  | .c160 _ => 160
  | .c225 _ => 225
def I_cloud_state.val : I_cloud_state → VV
  | .nil => .any
  | .c151 x => T_cloud_creating.vv x
  | .c159 x => T_cloud_leaving.vv x
  | .c160 x => T_cloud_running.vv x
  | .c225 x => T_cloud_failed.vv x
def I_cloud_state.vv (x : I_cloud_state) : VV := .ifo x.isNil x.ty x.val
def I_cloud_state.is151 : I_cloud_state → Bool
  | .c151 _ => true
  | _ => false
def I_cloud_state.as151 : I_cloud_state → T_cloud_creating
  | .c151 x => x
  | _ => (⟨(0 : Int)⟩ : T_cloud_creating)
theorem I_cloud_state.ta151 (x : I_cloud_state) : VV.tup [if (!x.isNil && x.ty == 151) = true then x.val else (.agg [.int .i64 (0 : Int)]), .bool (!x.isNil && x.ty == 151)] = .tup [T_cloud_creating.vv (x.as151), .bool x.is151] := by cases x <;> rfl
def I_cloud_state.is159 : I_cloud_state → Bool
  | .c159 _ => true
  | _ => false
def I_cloud_state.as159 : I_cloud_state → T_cloud_leaving
  | .c159 x => x
  | _ => (⟨⟩ : T_cloud_leaving)
theorem I_cloud_state.ta159 (x : I_cloud_state) : VV.tup [if (!x.isNil && x.ty == 159) = true then x.val else (.agg []), .bool (!x.isNil && x.ty == 159)] = .tup [T_cloud_leaving.vv (x.as159), .bool x.is159] := by cases x <;> rfl
def I_cloud_state.is160 : I_cloud_state → Bool
  | .c160 _ => true
  | _ => false
def I_cloud_state.as160 : I_cloud_state → T_cloud_running
  | .c160 x => x
  | _ => (⟨⟩ : T_cloud_running)
theorem I_cloud_state.ta160 (x : I_cloud_state) : VV.tup [if (!x.isNil && x.ty == 160) = true then x.val else (.agg []), .bool (!x.isNil && x.ty == 160)] = .tup [T_cloud_running.vv (x.as160), .bool x.is160] := by cases x <;> rfl
def I_cloud_state.is225 : I_cloud_state → Bool
  | .c225 _ => true
  | _ => false
def I_cloud_state.as225 : I_cloud_state → T_cloud_failed
  | .c225 x => x
  | _ => (⟨⟩ : T_cloud_failed)
theorem I_cloud_state.ta225 (x : I_cloud_state) : VV.tup [if (!x.isNil && x.ty == 225) = true then x.val else (.agg []), .bool (!x.isNil && x.ty == 225)] = .tup [T_cloud_failed.vv (x.as225), .bool x.is225] := by cases x <;> rfl

structure T_cloud_inst where
  name : ByteArray
  of : Nat
  since : Int
  in_ : I_cloud_state
  deriving DecidableEq
def T_cloud_inst.cells (A0 A1 : Nat) (x : T_cloud_inst) : List VV := [.str x.name, V.Pp A0 x.of, .int .i64 x.since, I_cloud_state.vv x.in_]
def T_cloud_inst.vv (A0 A1 : Nat) (x : T_cloud_inst) : VV := .agg (T_cloud_inst.cells A0 A1 x)

structure Arr5_Int where
  x0 : Int
  x1 : Int
  x2 : Int
  x3 : Int
  x4 : Int
  deriving DecidableEq
def Arr5_Int.cells (x : Arr5_Int) : List VV := [.int .i64 x.x0, .int .i64 x.x1, .int .i64 x.x2, .int .i64 x.x3, .int .i64 x.x4]
def Arr5_Int.vv (x : Arr5_Int) : VV := .agg (Arr5_Int.cells x)
def Arr5_Int.l (x : Arr5_Int) : List Int := [x.x0, x.x1, x.x2, x.x3, x.x4]
def Arr5_Int.put (x : Arr5_Int) (n : Int) (v : Int) : Option Arr5_Int :=
  if n = 0 then some ⟨v, x.x1, x.x2, x.x3, x.x4⟩ else
  if n = 1 then some ⟨x.x0, v, x.x2, x.x3, x.x4⟩ else
  if n = 2 then some ⟨x.x0, x.x1, v, x.x3, x.x4⟩ else
  if n = 3 then some ⟨x.x0, x.x1, x.x2, v, x.x4⟩ else
  if n = 4 then some ⟨x.x0, x.x1, x.x2, x.x3, v⟩ else
  none
theorem Arr5_Int.put_some {x y : Arr5_Int} {n : Int} {v : Int} (h : Arr5_Int.put x n v = some y) : (0 ≤ n ∧ n < ((Arr5_Int.l x).length : Int)) ∧ y.cells = ((Arr5_Int.l x).set n.toNat v).map (VV.int .i64) := by
  unfold Arr5_Int.put at h
  split at h
  · rename_i hn; subst hn; cases h; exact ⟨⟨by decide, by show (0 : Int) < 5; decide⟩, rfl⟩
  split at h
  · rename_i hn; subst hn; cases h; exact ⟨⟨by decide, by show (1 : Int) < 5; decide⟩, rfl⟩
  split at h
  · rename_i hn; subst hn; cases h; exact ⟨⟨by decide, by show (2 : Int) < 5; decide⟩, rfl⟩
  split at h
  · rename_i hn; subst hn; cases h; exact ⟨⟨by decide, by show (3 : Int) < 5; decide⟩, rfl⟩
  split at h
  · rename_i hn; subst hn; cases h; exact ⟨⟨by decide, by show (4 : Int) < 5; decide⟩, rfl⟩
  cases h

structure T_cloud_Cloud where
  pools : List Nat
  insts : List Nat
  delay : Int
  now : Int
  calls : Int
  deriving DecidableEq
def T_cloud_Cloud.cells (A0 A1 : Nat) (x : T_cloud_Cloud) : List VV := [.list 140 (List.map (V.Pp A0) x.pools), .list 152 (List.map (V.Pp A1) x.insts), .int .i64 x.delay, .int .i64 x.now, .int .i64 x.calls]
def T_cloud_Cloud.vv (A0 A1 : Nat) (x : T_cloud_Cloud) : VV := .agg (T_cloud_Cloud.cells A0 A1 x)

structure T_api_Bound where
  Pod : T_api_Pod
  On : ByteArray
  deriving DecidableEq
def T_api_Bound.cells (x : T_api_Bound) : List VV := [.str x.Pod.Name, .int .i64 x.Pod.Need.Cpu, .int .i64 x.Pod.Need.Mem, .int .i64 x.Pod.Need.Disk, .int .i64 x.Pod.Need.Pods, .int .i64 x.Pod.Need.Dev, .list 232 (List.map T_api_Label.vv x.Pod.Labels), .list 232 (List.map T_api_Label.vv x.Pod.Select), .list 189 (List.map T_api_Term.vv x.Pod.Terms), .list 191 (List.map T_api_Toleration.vv x.Pod.Bears), .list 3 (List.map (VV.int .i64) x.Pod.Ports), .list 232 (List.map T_api_Label.vv x.Pod.Apart), .bool x.Pod.Wide, .list 232 (List.map T_api_Label.vv x.Pod.Spread), .int .i64 x.Pod.Skew, .int .i64 x.Pod.Rank, .str x.Pod.Owner, .bool x.Pod.Daemon, .bool x.Pod.Pinned, .bool x.Pod.Local, .str x.On]
def T_api_Bound.vv (x : T_api_Bound) : VV := .agg (T_api_Bound.cells x)

structure T_world_World where
  Cloud : Unit
  groups : List T_api_Group
  budgets : List T_api_Budget
  ms : List T_api_Machine
  bs : List T_api_Bound
  held : List (ByteArray × Int)

structure T_api_Inst where
  Name : ByteArray
  Group : ByteArray
  State : Int
  Left : Int
  Since : Int
  deriving DecidableEq
def T_api_Inst.cells (x : T_api_Inst) : List VV := [.str x.Name, .str x.Group, .int .i64 x.State, .int .i64 x.Left, .int .i64 x.Since]
def T_api_Inst.vv (x : T_api_Inst) : VV := .agg (T_api_Inst.cells x)

structure T_drain_one where
  name : ByteArray
  steps : Int
  back : Bool
  deriving DecidableEq
def T_drain_one.cells (x : T_drain_one) : List VV := [.str x.name, .int .i64 x.steps, .bool x.back]
def T_drain_one.vv (x : T_drain_one) : VV := .agg (T_drain_one.cells x)

structure T_drain_Table where
  l : List T_drain_one
  grace : Int
  made : Bool
  deriving DecidableEq
def T_drain_Table.cells (x : T_drain_Table) : List VV := [.list 172 (List.map T_drain_one.vv x.l), .int .i64 x.grace, .bool x.made]
def T_drain_Table.vv (x : T_drain_Table) : VV := .agg (T_drain_Table.cells x)

structure T_api_Move where
  Pod : ByteArray
  To : ByteArray
  deriving DecidableEq
def T_api_Move.cells (x : T_api_Move) : List VV := [.str x.Pod, .str x.To]
def T_api_Move.vv (x : T_api_Move) : VV := .agg (T_api_Move.cells x)

structure T_fit_asker where
  ms : List T_api_Machine
  bs : List T_api_Bound
  p : T_api_Pod
  deriving DecidableEq
def T_fit_asker.cells (x : T_fit_asker) : List VV := [.list 68 (List.map T_api_Machine.vv x.ms), .list 64 (List.map T_api_Bound.vv x.bs), .str x.p.Name, .int .i64 x.p.Need.Cpu, .int .i64 x.p.Need.Mem, .int .i64 x.p.Need.Disk, .int .i64 x.p.Need.Pods, .int .i64 x.p.Need.Dev, .list 232 (List.map T_api_Label.vv x.p.Labels), .list 232 (List.map T_api_Label.vv x.p.Select), .list 189 (List.map T_api_Term.vv x.p.Terms), .list 191 (List.map T_api_Toleration.vv x.p.Bears), .list 3 (List.map (VV.int .i64) x.p.Ports), .list 232 (List.map T_api_Label.vv x.p.Apart), .bool x.p.Wide, .list 232 (List.map T_api_Label.vv x.p.Spread), .int .i64 x.p.Skew, .int .i64 x.p.Rank, .str x.p.Owner, .bool x.p.Daemon, .bool x.p.Pinned, .bool x.p.Local]
def T_fit_asker.vv (x : T_fit_asker) : VV := .agg (T_fit_asker.cells x)

structure T_apart_place where
  zones : List (ByteArray × ByteArray)

structure T_sched_score where
  prefers : Int
  share : Int
  deriving DecidableEq
def T_sched_score.cells (x : T_sched_score) : List VV := [.int .i64 x.prefers, .int .i64 x.share]
def T_sched_score.vv (x : T_sched_score) : VV := .agg (T_sched_score.cells x)

abbrev L232 (l : List T_api_Label) : VV := .list 232 (List.map T_api_Label.vv l)
abbrev L191 (l : List T_api_Toleration) : VV := .list 191 (List.map T_api_Toleration.vv l)
abbrev L31 (l : List T_api_Taint) : VV := .list 31 (List.map T_api_Taint.vv l)
abbrev L139 (l : List T_api_Group) : VV := .list 139 (List.map T_api_Group.vv l)
abbrev L103 (l : List T_api_Budget) : VV := .list 103 (List.map T_api_Budget.vv l)
abbrev X89 (b : Nat) (x : T_law28_Case) : HE := .box b 89 (T_law28_Case.cells x)
abbrev X31 (b : Nat) (x : T_api_Taint) : HE := .box b 31 (T_api_Taint.cells x)
abbrev L5 (l : List Int) : VV := .list 5 (List.map (VV.int .u8) l)
abbrev X139 (b : Nat) (x : T_api_Group) : HE := .box b 139 (T_api_Group.cells x)
abbrev X68 (b : Nat) (x : T_api_Machine) : HE := .box b 68 (T_api_Machine.cells x)
abbrev Z31 (ob : Option Nat) (l : List T_api_Taint) (cap : Nat) : VV := .sl ob (List.map T_api_Taint.vv l).length cap
abbrev Q31 (ob : Option Nat) (cap : Nat) (l : List T_api_Taint) : HE := .row ob 31 cap (List.map T_api_Taint.vv l)
abbrev Z140 (A0 A1 : Nat) (ob : Option Nat) (l : List Nat) (cap : Nat) : VV := .sl ob (List.map (V.Pp A0) l).length cap
abbrev Z152 (A0 A1 : Nat) (ob : Option Nat) (l : List Nat) (cap : Nat) : VV := .sl ob (List.map (V.Pp A1) l).length cap
abbrev Q152 (A0 A1 : Nat) (ob : Option Nat) (cap : Nat) (l : List Nat) : HE := .row ob 152 cap (List.map (V.Pp A1) l)
abbrev Q140 (A0 A1 : Nat) (ob : Option Nat) (cap : Nat) (l : List Nat) : HE := .row ob 140 cap (List.map (V.Pp A0) l)
abbrev X103 (b : Nat) (x : T_api_Budget) : HE := .box b 103 (T_api_Budget.cells x)
abbrev Q139 (ob : Option Nat) (cap : Nat) (l : List T_api_Group) : HE := .row ob 139 cap (List.map T_api_Group.vv l)
abbrev Z139 (ob : Option Nat) (l : List T_api_Group) (cap : Nat) : VV := .sl ob (List.map T_api_Group.vv l).length cap
abbrev Q103 (ob : Option Nat) (cap : Nat) (l : List T_api_Budget) : HE := .row ob 103 cap (List.map T_api_Budget.vv l)
abbrev Z103 (ob : Option Nat) (l : List T_api_Budget) (cap : Nat) : VV := .sl ob (List.map T_api_Budget.vv l).length cap
abbrev Z70 (ob : Option Nat) (l : List T_api_Inst) (cap : Nat) : VV := .sl ob (List.map T_api_Inst.vv l).length cap
abbrev Q70 (ob : Option Nat) (cap : Nat) (l : List T_api_Inst) : HE := .row ob 70 cap (List.map T_api_Inst.vv l)
abbrev L70 (l : List T_api_Inst) : VV := .list 70 (List.map T_api_Inst.vv l)
abbrev L68 (l : List T_api_Machine) : VV := .list 68 (List.map T_api_Machine.vv l)
abbrev X70 (b : Nat) (x : T_api_Inst) : HE := .box b 70 (T_api_Inst.cells x)
abbrev Z64 (ob : Option Nat) (l : List T_api_Bound) (cap : Nat) : VV := .sl ob (List.map T_api_Bound.vv l).length cap
abbrev Q64 (ob : Option Nat) (cap : Nat) (l : List T_api_Bound) : HE := .row ob 64 cap (List.map T_api_Bound.vv l)
abbrev Q68 (ob : Option Nat) (cap : Nat) (l : List T_api_Machine) : HE := .row ob 68 cap (List.map T_api_Machine.vv l)
abbrev Z68 (ob : Option Nat) (l : List T_api_Machine) (cap : Nat) : VV := .sl ob (List.map T_api_Machine.vv l).length cap
abbrev Z172 (ob : Option Nat) (l : List T_drain_one) (cap : Nat) : VV := .sl ob (List.map T_drain_one.vv l).length cap
abbrev Q172 (ob : Option Nat) (cap : Nat) (l : List T_drain_one) : HE := .row ob 172 cap (List.map T_drain_one.vv l)
abbrev X189 (b : Nat) (x : T_api_Term) : HE := .box b 189 (T_api_Term.cells x)
abbrev L9 (l : List ByteArray) : VV := .list 9 (List.map VV.str l)
abbrev L189 (l : List T_api_Term) : VV := .list 189 (List.map T_api_Term.vv l)
abbrev X29 (b : Nat) (x : T_api_Pod) : HE := .box b 29 (T_api_Pod.cells x)
abbrev L3 (l : List Int) : VV := .list 3 (List.map (VV.int .i64) l)
abbrev L24 (l : List (List T_api_Label)) : VV := .list 24 (List.map (fun (q : List T_api_Label) => VV.list 232 (List.map T_api_Label.vv q)) l)
abbrev L64 (l : List T_api_Bound) : VV := .list 64 (List.map T_api_Bound.vv l)
abbrev Z189 (ob : Option Nat) (l : List T_api_Term) (cap : Nat) : VV := .sl ob (List.map T_api_Term.vv l).length cap
abbrev Q189 (ob : Option Nat) (cap : Nat) (l : List T_api_Term) : HE := .row ob 189 cap (List.map T_api_Term.vv l)
abbrev Q3 (ob : Option Nat) (cap : Nat) (l : List Int) : HE := .row ob 3 cap (List.map (VV.int .i64) l)
abbrev Q191 (ob : Option Nat) (cap : Nat) (l : List T_api_Toleration) : HE := .row ob 191 cap (List.map T_api_Toleration.vv l)
abbrev Q232 (ob : Option Nat) (cap : Nat) (l : List T_api_Label) : HE := .row ob 232 cap (List.map T_api_Label.vv l)
abbrev Z232 (ob : Option Nat) (l : List T_api_Label) (cap : Nat) : VV := .sl ob (List.map T_api_Label.vv l).length cap
abbrev Z191 (ob : Option Nat) (l : List T_api_Toleration) (cap : Nat) : VV := .sl ob (List.map T_api_Toleration.vv l).length cap
abbrev Z3 (ob : Option Nat) (l : List Int) (cap : Nat) : VV := .sl ob (List.map (VV.int .i64) l).length cap
abbrev Z9 (ob : Option Nat) (l : List ByteArray) (cap : Nat) : VV := .sl ob (List.map VV.str l).length cap
abbrev Q9 (ob : Option Nat) (cap : Nat) (l : List ByteArray) : HE := .row ob 9 cap (List.map VV.str l)
abbrev Z29 (ob : Option Nat) (l : List T_api_Pod) (cap : Nat) : VV := .sl ob (List.map T_api_Pod.vv l).length cap
abbrev Q29 (ob : Option Nat) (cap : Nat) (l : List T_api_Pod) : HE := .row ob 29 cap (List.map T_api_Pod.vv l)
abbrev L29 (l : List T_api_Pod) : VV := .list 29 (List.map T_api_Pod.vv l)
abbrev X247 (b : Nat) (x : Arr5_Int) : HE := .box b 247 (Arr5_Int.cells x)
abbrev X23 (b : Nat) (x : T_api_Res) : HE := .box b 23 (T_api_Res.cells x)
abbrev X239 (b : Nat) (x : T_sched_score) : HE := .box b 239 (T_sched_score.cells x)
abbrev Z201 (ob : Option Nat) (l : List T_api_Move) (cap : Nat) : VV := .sl ob (List.map T_api_Move.vv l).length cap
abbrev Q201 (ob : Option Nat) (cap : Nat) (l : List T_api_Move) : HE := .row ob 201 cap (List.map T_api_Move.vv l)
abbrev X172 (b : Nat) (x : T_drain_one) : HE := .box b 172 (T_drain_one.cells x)
theorem ld37 : ldB Tryz.prog 37 1 false = true := by kernel_rfl
theorem el37 : elB Tryz.prog 37 139 15 = true := by kernel_rfl
theorem fa139_0 : faB Tryz.prog 139 0 0 = true := by kernel_rfl
theorem ld9 : ldB Tryz.prog 9 1 false = true := by kernel_rfl
theorem fa139_3 : faB Tryz.prog 139 3 3 = true := by kernel_rfl
theorem ld68 : ldB Tryz.prog 68 10 true = true := by kernel_rfl
theorem fa68_0 : faB Tryz.prog 68 0 0 = true := by kernel_rfl
theorem fa68_3 : faB Tryz.prog 68 3 7 = true := by kernel_rfl
theorem ld24 : ldB Tryz.prog 24 1 false = true := by kernel_rfl
theorem el24 : elB Tryz.prog 24 232 2 = true := by kernel_rfl
theorem fn121 : fnB Tryz.prog 121 = true := by kernel_rfl
theorem fa68_4 : faB Tryz.prog 68 4 8 = true := by kernel_rfl
theorem ld66 : ldB Tryz.prog 66 1 false = true := by kernel_rfl
theorem el26 : elB Tryz.prog 26 191 4 = true := by kernel_rfl
theorem el66 : elB Tryz.prog 66 31 3 = true := by kernel_rfl
theorem fa31_1 : faB Tryz.prog 31 1 1 = true := by kernel_rfl
theorem fn57 : fnB Tryz.prog 57 = true := by kernel_rfl
theorem fn157 : fnB Tryz.prog 157 = true := by kernel_rfl
theorem ld38 : ldB Tryz.prog 38 1 false = true := by kernel_rfl
theorem el38 : elB Tryz.prog 38 103 3 = true := by kernel_rfl
theorem fa103_1 : faB Tryz.prog 103 1 1 = true := by kernel_rfl
theorem fn89 : fnB Tryz.prog 89 = true := by kernel_rfl
theorem fn88 : fnB Tryz.prog 88 = true := by kernel_rfl
theorem fa139_1 : faB Tryz.prog 139 1 1 = true := by kernel_rfl
theorem ld3 : ldB Tryz.prog 3 1 false = true := by kernel_rfl
theorem pl23 : plV Tryz.prog 23 = some (fun i => [(0, 1), (1, 1), (2, 1), (3, 1), (4, 1)].toArray[i]?, [.int .i64 (0 : Int), .int .i64 (0 : Int), .int .i64 (0 : Int), .int .i64 (0 : Int), .int .i64 (0 : Int)]) := by kernel_rfl
theorem pl68 : plV Tryz.prog 68 = some (fun i => [(0, 1), (1, 1), (2, 5), (7, 1), (8, 1), (9, 1)].toArray[i]?, [.str (⟨#[]⟩ : ByteArray), .str (⟨#[]⟩ : ByteArray), .int .i64 (0 : Int), .int .i64 (0 : Int), .int .i64 (0 : Int), .int .i64 (0 : Int), .int .i64 (0 : Int), .sl none 0 0, .sl none 0 0, .bool false]) := by kernel_rfl
theorem pl139 : plV Tryz.prog 139 = some (fun i => [(0, 1), (1, 1), (2, 1), (3, 10), (13, 1), (14, 1)].toArray[i]?, [.str (⟨#[]⟩ : ByteArray), .int .i64 (0 : Int), .int .i64 (0 : Int), .str (⟨#[]⟩ : ByteArray), .str (⟨#[]⟩ : ByteArray), .int .i64 (0 : Int), .int .i64 (0 : Int), .int .i64 (0 : Int), .int .i64 (0 : Int), .int .i64 (0 : Int), .sl none 0 0, .sl none 0 0, .bool false, .int .i64 (0 : Int), .int .i64 (0 : Int)]) := by kernel_rfl
theorem ld139 : ldB Tryz.prog 139 15 true = true := by kernel_rfl
theorem fn223 : fnB Tryz.prog 223 = true := by kernel_rfl
theorem fn188 : fnB Tryz.prog 188 = true := by kernel_rfl
theorem fn189 : fnB Tryz.prog 189 = true := by kernel_rfl
theorem fn187 : fnB Tryz.prog 187 = true := by kernel_rfl
theorem ld4 : ldB Tryz.prog 4 1 false = true := by kernel_rfl
theorem fa139_2 : faB Tryz.prog 139 2 2 = true := by kernel_rfl
theorem fn134 : fnB Tryz.prog 134 = true := by kernel_rfl
theorem fn131 : fnB Tryz.prog 131 = true := by kernel_rfl
theorem fn132 : fnB Tryz.prog 132 = true := by kernel_rfl
theorem ld23 : ldB Tryz.prog 23 5 true = true := by kernel_rfl
theorem pl247 : plV Tryz.prog 247 = some (fun i => some (i * 1, 1), [.int .i64 (0 : Int), .int .i64 (0 : Int), .int .i64 (0 : Int), .int .i64 (0 : Int), .int .i64 (0 : Int)]) := by kernel_rfl
theorem ld247 : ldB Tryz.prog 247 5 true = true := by kernel_rfl
theorem z247 : zV Tryz.prog 247 = some [.int .i64 (0 : Int), .int .i64 (0 : Int), .int .i64 (0 : Int), .int .i64 (0 : Int), .int .i64 (0 : Int)] := by kernel_rfl
theorem ar247 : arB Tryz.prog 247 3 5 1 = true := by kernel_rfl
theorem fn190 : fnB Tryz.prog 190 = true := by kernel_rfl
theorem fn133 : fnB Tryz.prog 133 = true := by kernel_rfl
theorem ld232 : ldB Tryz.prog 232 2 true = true := by kernel_rfl
theorem zc3 : (Tryz.prog.info? 3).bind (·.zero) = some (.int .i64 0) := by kernel_rfl
theorem mk9 : KeyOk Tryz.prog 9 VV.str Value.string TypeDesc.string := KeyOk.str Tryz.underlying9
theorem fn185 : fnB Tryz.prog 185 = true := by kernel_rfl
theorem mixed : Tryz.prog.follows .mixedOrders = true := by kernel_rfl
theorem z232 : zV Tryz.prog 232 = some [.str (⟨#[]⟩ : ByteArray), .str (⟨#[]⟩ : ByteArray)] := by kernel_rfl
theorem fn130 : fnB Tryz.prog 130 = true := by kernel_rfl
theorem ld31 : ldB Tryz.prog 31 3 true = true := by kernel_rfl
theorem fn142 : fnB Tryz.prog 142 = true := by kernel_rfl
theorem fn143 : fnB Tryz.prog 143 = true := by kernel_rfl
theorem z31 : zV Tryz.prog 31 = some [.str (⟨#[]⟩ : ByteArray), .str (⟨#[]⟩ : ByteArray), .int .i64 (0 : Int)] := by kernel_rfl
def shp31 : Shp := .st (.cons 0 1 false .str (.cons 1 1 false .str (.cons 2 1 false .int .nil)))
theorem eq31 : (shB Tryz.prog shp31 31 && noif Tryz.prog 31 && Nat.ble shp31.ht 9998) = true := by kernel_rfl
theorem fn141 : fnB Tryz.prog 141 = true := by kernel_rfl
theorem fn75 : fnB Tryz.prog 75 = true := by kernel_rfl
theorem fn228 : fnB Tryz.prog 228 = true := by kernel_rfl
theorem z68 : zV Tryz.prog 68 = some [.str (⟨#[]⟩ : ByteArray), .str (⟨#[]⟩ : ByteArray), .int .i64 (0 : Int), .int .i64 (0 : Int), .int .i64 (0 : Int), .int .i64 (0 : Int), .int .i64 (0 : Int), .sl none 0 0, .sl none 0 0, .bool false] := by kernel_rfl
theorem z139 : zV Tryz.prog 139 = some [.str (⟨#[]⟩ : ByteArray), .int .i64 (0 : Int), .int .i64 (0 : Int), .str (⟨#[]⟩ : ByteArray), .str (⟨#[]⟩ : ByteArray), .int .i64 (0 : Int), .int .i64 (0 : Int), .int .i64 (0 : Int), .int .i64 (0 : Int), .int .i64 (0 : Int), .sl none 0 0, .sl none 0 0, .bool false, .int .i64 (0 : Int), .int .i64 (0 : Int)] := by kernel_rfl
theorem fn124 : fnB Tryz.prog 124 = true := by kernel_rfl
theorem fn200 : fnB Tryz.prog 200 = true := by kernel_rfl
theorem fn158 : fnB Tryz.prog 158 = true := by kernel_rfl
theorem pl149 : plV Tryz.prog 149 = some (fun i => [(0, 1), (1, 1), (2, 1), (3, 1), (4, 1)].toArray[i]?, [.sl none 0 0, .sl none 0 0, .int .i64 (0 : Int), .int .i64 (0 : Int), .int .i64 (0 : Int)]) := by kernel_rfl
theorem pl144 : plV Tryz.prog 144 = some (fun i => [(0, 15), (15, 1), (16, 1), (17, 1)].toArray[i]?, [.str (⟨#[]⟩ : ByteArray), .int .i64 (0 : Int), .int .i64 (0 : Int), .str (⟨#[]⟩ : ByteArray), .str (⟨#[]⟩ : ByteArray), .int .i64 (0 : Int), .int .i64 (0 : Int), .int .i64 (0 : Int), .int .i64 (0 : Int), .int .i64 (0 : Int), .sl none 0 0, .sl none 0 0, .bool false, .int .i64 (0 : Int), .int .i64 (0 : Int), .int .i64 (0 : Int), .int .i64 (0 : Int), .bool false]) := by kernel_rfl
theorem ld146 : ldB Tryz.prog 146 1 false = true := by kernel_rfl
theorem el146 : elB Tryz.prog 146 140 1 = true := by kernel_rfl
theorem pl160 : plV Tryz.prog 160 = some (fun i => [].toArray[i]?, []) := by kernel_rfl
theorem nif160 : nifB Tryz.prog 160 = true := by kernel_rfl
theorem fa144_2 : faB Tryz.prog 144 2 16 = true := by kernel_rfl
theorem ld147 : ldB Tryz.prog 147 1 false = true := by kernel_rfl
theorem fa144_0 : faB Tryz.prog 144 0 0 = true := by kernel_rfl
theorem el259 : elB Tryz.prog 259 5 1 = true := by kernel_rfl
theorem ap259 : apB Tryz.prog 259 5 1 1 = true := by kernel_rfl
theorem fn179 : fnB Tryz.prog 179 = true := by kernel_rfl
theorem ap66 : apB Tryz.prog 66 31 3 40 = true := by kernel_rfl
theorem ap24 : apB Tryz.prog 24 232 2 32 = true := by kernel_rfl
theorem fd68_0 : fdB Tryz.prog 68 0 0 1 false = true := by kernel_rfl
theorem pl157 : plV Tryz.prog 157 = some (fun i => [(0, 1), (1, 1), (2, 1), (3, 1)].toArray[i]?, [.str (⟨#[]⟩ : ByteArray), .nilptr, .int .i64 (0 : Int), .nilif]) := by kernel_rfl
theorem el147 : elB Tryz.prog 147 152 1 = true := by kernel_rfl
theorem ap147 : apB Tryz.prog 147 152 1 8 = true := by kernel_rfl
theorem fn125 : fnB Tryz.prog 125 = true := by kernel_rfl
theorem fn82 : fnB Tryz.prog 82 = true := by kernel_rfl
theorem ap146 : apB Tryz.prog 146 140 1 8 = true := by kernel_rfl
theorem ld103 : ldB Tryz.prog 103 3 true = true := by kernel_rfl
theorem pl217 : plV Tryz.prog 217 = some (fun i => [(0, 1)].toArray[i]?, [.str (⟨#[]⟩ : ByteArray)]) := by kernel_rfl
def shp217 : Shp := .st (.cons 0 1 false .str .nil)
theorem eq217 : (shB Tryz.prog shp217 217 && noif Tryz.prog 217 && Nat.ble shp217.ht 9998) = true := by kernel_rfl
theorem z103 : zV Tryz.prog 103 = some [.str (⟨#[]⟩ : ByteArray), .sl none 0 0, .int .i64 (0 : Int)] := by kernel_rfl
theorem fn91 : fnB Tryz.prog 91 = true := by kernel_rfl
theorem pl43 : plV Tryz.prog 43 = some (fun i => [(0, 1), (1, 1), (2, 1), (3, 1), (4, 1), (5, 1)].toArray[i]?, [.nilptr, .sl none 0 0, .sl none 0 0, .sl none 0 0, .sl none 0 0, .nilmap]) := by kernel_rfl
theorem ap37 : apB Tryz.prog 37 139 15 176 = true := by kernel_rfl
theorem fn79 : fnB Tryz.prog 79 = true := by kernel_rfl
theorem ap38 : apB Tryz.prog 38 103 3 48 = true := by kernel_rfl
theorem fn83 : fnB Tryz.prog 83 = true := by kernel_rfl
theorem ld152 : ldB Tryz.prog 152 1 false = true := by kernel_rfl
theorem fa157_0 : faB Tryz.prog 157 0 0 = true := by kernel_rfl
theorem fa157_1 : faB Tryz.prog 157 1 1 = true := by kernel_rfl
theorem ld140 : ldB Tryz.prog 140 1 false = true := by kernel_rfl
theorem fa157_3 : faB Tryz.prog 157 3 3 = true := by kernel_rfl
theorem ld155 : ldB Tryz.prog 155 1 false = true := by kernel_rfl
theorem mt151_number : mtB Tryz.prog 151 "trireme/cloud.number" 312 = true := by kernel_rfl
theorem fn312 : fnB Tryz.prog 312 = true := by kernel_rfl
theorem mt159_number : mtB Tryz.prog 159 "trireme/cloud.number" 315 = true := by kernel_rfl
theorem fn315 : fnB Tryz.prog 315 = true := by kernel_rfl
theorem mt160_number : mtB Tryz.prog 160 "trireme/cloud.number" 318 = true := by kernel_rfl
theorem fn318 : fnB Tryz.prog 318 = true := by kernel_rfl
theorem mt225_number : mtB Tryz.prog 225 "trireme/cloud.number" 321 = true := by kernel_rfl
theorem fn321 : fnB Tryz.prog 321 = true := by kernel_rfl
theorem mt151_left : mtB Tryz.prog 151 "trireme/cloud.left" 311 = true := by kernel_rfl
theorem fn311 : fnB Tryz.prog 311 = true := by kernel_rfl
theorem mt159_left : mtB Tryz.prog 159 "trireme/cloud.left" 314 = true := by kernel_rfl
theorem fn314 : fnB Tryz.prog 314 = true := by kernel_rfl
theorem mt160_left : mtB Tryz.prog 160 "trireme/cloud.left" 317 = true := by kernel_rfl
theorem fn317 : fnB Tryz.prog 317 = true := by kernel_rfl
theorem mt225_left : mtB Tryz.prog 225 "trireme/cloud.left" 320 = true := by kernel_rfl
theorem fn320 : fnB Tryz.prog 320 = true := by kernel_rfl
theorem fa157_2 : faB Tryz.prog 157 2 2 = true := by kernel_rfl
theorem pl70 : plV Tryz.prog 70 = some (fun i => [(0, 1), (1, 1), (2, 1), (3, 1), (4, 1)].toArray[i]?, [.str (⟨#[]⟩ : ByteArray), .str (⟨#[]⟩ : ByteArray), .int .i64 (0 : Int), .int .i64 (0 : Int), .int .i64 (0 : Int)]) := by kernel_rfl
theorem el54 : elB Tryz.prog 54 70 5 = true := by kernel_rfl
theorem ap54 : apB Tryz.prog 54 70 5 56 = true := by kernel_rfl
theorem ld70 : ldB Tryz.prog 70 5 true = true := by kernel_rfl
theorem ld39 : ldB Tryz.prog 39 1 false = true := by kernel_rfl
theorem el39 : elB Tryz.prog 39 68 10 = true := by kernel_rfl
theorem fn138 : fnB Tryz.prog 138 = true := by kernel_rfl
theorem fn136 : fnB Tryz.prog 136 = true := by kernel_rfl
theorem fn72 : fnB Tryz.prog 72 = true := by kernel_rfl
theorem ap39 : apB Tryz.prog 39 68 10 128 = true := by kernel_rfl
theorem fn126 : fnB Tryz.prog 126 = true := by kernel_rfl
theorem z70 : zV Tryz.prog 70 = some [.str (⟨#[]⟩ : ByteArray), .str (⟨#[]⟩ : ByteArray), .int .i64 (0 : Int), .int .i64 (0 : Int), .int .i64 (0 : Int)] := by kernel_rfl
theorem fn27 : fnB Tryz.prog 27 = true := by kernel_rfl
theorem fn63 : fnB Tryz.prog 63 = true := by kernel_rfl
theorem fn80 : fnB Tryz.prog 80 = true := by kernel_rfl
theorem fn90 : fnB Tryz.prog 90 = true := by kernel_rfl
theorem pl108 : plV Tryz.prog 108 = some (fun i => [(0, 1), (1, 1), (2, 1)].toArray[i]?, [.sl none 0 0, .int .i64 (0 : Int), .bool false]) := by kernel_rfl
theorem fn38 : fnB Tryz.prog 38 = true := by kernel_rfl
theorem pl29 : plV Tryz.prog 29 = some (fun i => [(0, 1), (1, 5), (6, 1), (7, 1), (8, 1), (9, 1), (10, 1), (11, 1), (12, 1), (13, 1), (14, 1), (15, 1), (16, 1), (17, 1), (18, 1), (19, 1)].toArray[i]?, [.str (⟨#[]⟩ : ByteArray), .int .i64 (0 : Int), .int .i64 (0 : Int), .int .i64 (0 : Int), .int .i64 (0 : Int), .int .i64 (0 : Int), .sl none 0 0, .sl none 0 0, .sl none 0 0, .sl none 0 0, .sl none 0 0, .sl none 0 0, .bool false, .sl none 0 0, .int .i64 (0 : Int), .int .i64 (0 : Int), .str (⟨#[]⟩ : ByteArray), .bool false, .bool false, .bool false]) := by kernel_rfl
theorem ld29 : ldB Tryz.prog 29 20 true = true := by kernel_rfl
theorem ld25 : ldB Tryz.prog 25 1 false = true := by kernel_rfl
theorem el25 : elB Tryz.prog 25 189 3 = true := by kernel_rfl
theorem ld189 : ldB Tryz.prog 189 3 true = true := by kernel_rfl
theorem fa189_2 : faB Tryz.prog 189 2 2 = true := by kernel_rfl
theorem ld61 : ldB Tryz.prog 61 1 false = true := by kernel_rfl
theorem el61 : elB Tryz.prog 61 9 1 = true := by kernel_rfl
theorem fn238 : fnB Tryz.prog 238 = true := by kernel_rfl
theorem fn239 : fnB Tryz.prog 239 = true := by kernel_rfl
theorem fn222 : fnB Tryz.prog 222 = true := by kernel_rfl
theorem fn186 : fnB Tryz.prog 186 = true := by kernel_rfl
theorem fn129 : fnB Tryz.prog 129 = true := by kernel_rfl
theorem z189 : zV Tryz.prog 189 = some [.str (⟨#[]⟩ : ByteArray), .int .i64 (0 : Int), .sl none 0 0] := by kernel_rfl
theorem fa29_6 : faB Tryz.prog 29 6 10 = true := by kernel_rfl
theorem ld27 : ldB Tryz.prog 27 1 false = true := by kernel_rfl
theorem el27 : elB Tryz.prog 27 3 1 = true := by kernel_rfl
theorem el202 : elB Tryz.prog 202 24 1 = true := by kernel_rfl
theorem ap202 : apB Tryz.prog 202 24 1 24 = true := by kernel_rfl
theorem fa29_5 : faB Tryz.prog 29 5 9 = true := by kernel_rfl
theorem ld26 : ldB Tryz.prog 26 1 false = true := by kernel_rfl
theorem ld191 : ldB Tryz.prog 191 4 true = true := by kernel_rfl
theorem z191 : zV Tryz.prog 191 = some [.str (⟨#[]⟩ : ByteArray), .str (⟨#[]⟩ : ByteArray), .bool false, .int .i64 (0 : Int)] := by kernel_rfl
theorem fn135 : fnB Tryz.prog 135 = true := by kernel_rfl
theorem ld40 : ldB Tryz.prog 40 1 false = true := by kernel_rfl
theorem el40 : elB Tryz.prog 40 64 21 = true := by kernel_rfl
theorem fa64_0 : faB Tryz.prog 64 0 0 = true := by kernel_rfl
theorem fn137 : fnB Tryz.prog 137 = true := by kernel_rfl
theorem fn66 : fnB Tryz.prog 66 = true := by kernel_rfl
theorem fn65 : fnB Tryz.prog 65 = true := by kernel_rfl
theorem fn60 : fnB Tryz.prog 60 = true := by kernel_rfl
theorem el209 : elB Tryz.prog 209 208 1 = true := by kernel_rfl
theorem ld208 : ldB Tryz.prog 208 1 false = true := by kernel_rfl
theorem ap209 : apB Tryz.prog 209 208 1 8 = true := by kernel_rfl
theorem ap61 : apB Tryz.prog 61 9 1 16 = true := by kernel_rfl
theorem ap25 : apB Tryz.prog 25 189 3 48 = true := by kernel_rfl
theorem ap27 : apB Tryz.prog 27 3 1 8 = true := by kernel_rfl
theorem ap26 : apB Tryz.prog 26 191 4 48 = true := by kernel_rfl
theorem z29 : zV Tryz.prog 29 = some [.str (⟨#[]⟩ : ByteArray), .int .i64 (0 : Int), .int .i64 (0 : Int), .int .i64 (0 : Int), .int .i64 (0 : Int), .int .i64 (0 : Int), .sl none 0 0, .sl none 0 0, .sl none 0 0, .sl none 0 0, .sl none 0 0, .sl none 0 0, .bool false, .sl none 0 0, .int .i64 (0 : Int), .int .i64 (0 : Int), .str (⟨#[]⟩ : ByteArray), .bool false, .bool false, .bool false] := by kernel_rfl
theorem pl64 : plV Tryz.prog 64 = some (fun i => [(0, 20), (20, 1)].toArray[i]?, [.str (⟨#[]⟩ : ByteArray), .int .i64 (0 : Int), .int .i64 (0 : Int), .int .i64 (0 : Int), .int .i64 (0 : Int), .int .i64 (0 : Int), .sl none 0 0, .sl none 0 0, .sl none 0 0, .sl none 0 0, .sl none 0 0, .sl none 0 0, .bool false, .sl none 0 0, .int .i64 (0 : Int), .int .i64 (0 : Int), .str (⟨#[]⟩ : ByteArray), .bool false, .bool false, .bool false, .str (⟨#[]⟩ : ByteArray)]) := by kernel_rfl
theorem ap40 : apB Tryz.prog 40 64 21 288 = true := by kernel_rfl
theorem fn67 : fnB Tryz.prog 67 = true := by kernel_rfl
theorem fn148 : fnB Tryz.prog 148 = true := by kernel_rfl
theorem fa144_1 : faB Tryz.prog 144 1 15 = true := by kernel_rfl
theorem fa144_3 : faB Tryz.prog 144 3 17 = true := by kernel_rfl
theorem pl151 : plV Tryz.prog 151 = some (fun i => [(0, 1)].toArray[i]?, [.int .i64 (0 : Int)]) := by kernel_rfl
theorem nif151 : nifB Tryz.prog 151 = true := by kernel_rfl
theorem fn81 : fnB Tryz.prog 81 = true := by kernel_rfl
theorem pl225 : plV Tryz.prog 225 = some (fun i => [].toArray[i]?, []) := by kernel_rfl
theorem nif225 : nifB Tryz.prog 225 = true := by kernel_rfl
theorem mt151_tick : mtB Tryz.prog 151 "trireme/cloud.tick" 313 = true := by kernel_rfl
theorem fn313 : fnB Tryz.prog 313 = true := by kernel_rfl
theorem mt159_tick : mtB Tryz.prog 159 "trireme/cloud.tick" 316 = true := by kernel_rfl
theorem fn316 : fnB Tryz.prog 316 = true := by kernel_rfl
theorem mt160_tick : mtB Tryz.prog 160 "trireme/cloud.tick" 319 = true := by kernel_rfl
theorem fn319 : fnB Tryz.prog 319 = true := by kernel_rfl
theorem mt225_tick : mtB Tryz.prog 225 "trireme/cloud.tick" 322 = true := by kernel_rfl
theorem fn322 : fnB Tryz.prog 322 = true := by kernel_rfl
theorem ifb155 : ifB Tryz.prog 155 = true := by kernel_rfl
theorem ld64 : ldB Tryz.prog 64 21 true = true := by kernel_rfl
theorem fa64_1 : faB Tryz.prog 64 1 20 = true := by kernel_rfl
theorem z64 : zV Tryz.prog 64 = some [.str (⟨#[]⟩ : ByteArray), .int .i64 (0 : Int), .int .i64 (0 : Int), .int .i64 (0 : Int), .int .i64 (0 : Int), .int .i64 (0 : Int), .sl none 0 0, .sl none 0 0, .sl none 0 0, .sl none 0 0, .sl none 0 0, .sl none 0 0, .bool false, .sl none 0 0, .int .i64 (0 : Int), .int .i64 (0 : Int), .str (⟨#[]⟩ : ByteArray), .bool false, .bool false, .bool false, .str (⟨#[]⟩ : ByteArray)] := by kernel_rfl
theorem el193 : elB Tryz.prog 193 29 20 = true := by kernel_rfl
theorem ap193 : apB Tryz.prog 193 29 20 272 = true := by kernel_rfl
theorem no232_64 : ∀ a : T_api_Label, noT [64] (T_api_Label.vv a) = true := fun a => by simp [noT, noTs, T_api_Label.vv, T_api_Label.cells]
theorem no9_64 : ∀ a : ByteArray, noT [64] (VV.str a) = true := fun a => by simp [noT, noTs]
theorem no189_64 : ∀ a : T_api_Term, noT [64] (T_api_Term.vv a) = true := fun a => by simp [noT, noTs, T_api_Term.vv, T_api_Term.cells, noTs_map no9_64]
theorem no191_64 : ∀ a : T_api_Toleration, noT [64] (T_api_Toleration.vv a) = true := fun a => by simp [noT, noTs, T_api_Toleration.vv, T_api_Toleration.cells]
theorem no3_64 : ∀ a : Int, noT [64] ((VV.int .i64) a) = true := fun a => by simp [noT, noTs]
theorem no29_64 : ∀ a : T_api_Pod, noT [64] (T_api_Pod.vv a) = true := fun a => by simp [noT, noTs, T_api_Pod.vv, T_api_Pod.cells, noTs_map no189_64, noTs_map no191_64, noTs_map no232_64, noTs_map no3_64]
theorem fn123 : fnB Tryz.prog 123 = true := by kernel_rfl
theorem fn71 : fnB Tryz.prog 71 = true := by kernel_rfl
theorem fn180 : fnB Tryz.prog 180 = true := by kernel_rfl
theorem fn181 : fnB Tryz.prog 181 = true := by kernel_rfl
theorem pl263 : plV Tryz.prog 263 = some (fun i => [(0, 1), (1, 1), (2, 20)].toArray[i]?, [.sl none 0 0, .sl none 0 0, .str (⟨#[]⟩ : ByteArray), .int .i64 (0 : Int), .int .i64 (0 : Int), .int .i64 (0 : Int), .int .i64 (0 : Int), .int .i64 (0 : Int), .sl none 0 0, .sl none 0 0, .sl none 0 0, .sl none 0 0, .sl none 0 0, .sl none 0 0, .bool false, .sl none 0 0, .int .i64 (0 : Int), .int .i64 (0 : Int), .str (⟨#[]⟩ : ByteArray), .bool false, .bool false, .bool false]) := by kernel_rfl
theorem fn240 : fnB Tryz.prog 240 = true := by kernel_rfl
theorem fn224 : fnB Tryz.prog 224 = true := by kernel_rfl
theorem fn290 : fnB Tryz.prog 290 = true := by kernel_rfl
theorem fn275 : fnB Tryz.prog 275 = true := by kernel_rfl
theorem fn281 : fnB Tryz.prog 281 = true := by kernel_rfl
theorem fn269 : fnB Tryz.prog 269 = true := by kernel_rfl
theorem fn145 : fnB Tryz.prog 145 = true := by kernel_rfl
theorem fn268 : fnB Tryz.prog 268 = true := by kernel_rfl
theorem fn139 : fnB Tryz.prog 139 = true := by kernel_rfl
theorem fn252 : fnB Tryz.prog 252 = true := by kernel_rfl
theorem fn259 : fnB Tryz.prog 259 = true := by kernel_rfl
theorem fn258 : fnB Tryz.prog 258 = true := by kernel_rfl
theorem fn191 : fnB Tryz.prog 191 = true := by kernel_rfl
theorem ld193 : ldB Tryz.prog 193 1 false = true := by kernel_rfl
theorem fn234 : fnB Tryz.prog 234 = true := by kernel_rfl
theorem fn251 : fnB Tryz.prog 251 = true := by kernel_rfl
theorem z23 : zV Tryz.prog 23 = some [.int .i64 (0 : Int), .int .i64 (0 : Int), .int .i64 (0 : Int), .int .i64 (0 : Int), .int .i64 (0 : Int)] := by kernel_rfl
theorem fn267 : fnB Tryz.prog 267 = true := by kernel_rfl
theorem fn250 : fnB Tryz.prog 250 = true := by kernel_rfl
theorem fn235 : fnB Tryz.prog 235 = true := by kernel_rfl
theorem z193 : zV Tryz.prog 193 = some [.sl none 0 0] := by kernel_rfl
theorem fn292 : fnB Tryz.prog 292 = true := by kernel_rfl
theorem fn291 : fnB Tryz.prog 291 = true := by kernel_rfl
theorem fn276 : fnB Tryz.prog 276 = true := by kernel_rfl
theorem fn277 : fnB Tryz.prog 277 = true := by kernel_rfl
theorem fn219 : fnB Tryz.prog 219 = true := by kernel_rfl
theorem fn261 : fnB Tryz.prog 261 = true := by kernel_rfl
theorem fn262 : fnB Tryz.prog 262 = true := by kernel_rfl
theorem fn263 : fnB Tryz.prog 263 = true := by kernel_rfl
theorem fn260 : fnB Tryz.prog 260 = true := by kernel_rfl
theorem fn247 : fnB Tryz.prog 247 = true := by kernel_rfl
theorem fn246 : fnB Tryz.prog 246 = true := by kernel_rfl
theorem fn232 : fnB Tryz.prog 232 = true := by kernel_rfl
theorem pl291 : plV Tryz.prog 291 = some (fun i => [(0, 1)].toArray[i]?, [.nilmap]) := by kernel_rfl
theorem ld291 : ldB Tryz.prog 291 1 true = true := by kernel_rfl
theorem zc9 : (Tryz.prog.info? 9).bind (·.zero) = some (.string ⟨#[]⟩) := by kernel_rfl
theorem fn278 : fnB Tryz.prog 278 = true := by kernel_rfl
theorem fn265 : fnB Tryz.prog 265 = true := by kernel_rfl
theorem z291 : zV Tryz.prog 291 = some [.nilmap] := by kernel_rfl
theorem fn264 : fnB Tryz.prog 264 = true := by kernel_rfl
theorem fn280 : fnB Tryz.prog 280 = true := by kernel_rfl
theorem fn279 : fnB Tryz.prog 279 = true := by kernel_rfl
theorem fn266 : fnB Tryz.prog 266 = true := by kernel_rfl
theorem fn249 : fnB Tryz.prog 249 = true := by kernel_rfl
theorem fn248 : fnB Tryz.prog 248 = true := by kernel_rfl
theorem fn233 : fnB Tryz.prog 233 = true := by kernel_rfl
theorem fn218 : fnB Tryz.prog 218 = true := by kernel_rfl
theorem fn217 : fnB Tryz.prog 217 = true := by kernel_rfl
theorem fn216 : fnB Tryz.prog 216 = true := by kernel_rfl
theorem z61 : zV Tryz.prog 61 = some [.sl none 0 0] := by kernel_rfl
theorem fn236 : fnB Tryz.prog 236 = true := by kernel_rfl
theorem fn237 : fnB Tryz.prog 237 = true := by kernel_rfl
theorem pl239 : plV Tryz.prog 239 = some (fun i => [(0, 1), (1, 1)].toArray[i]?, [.int .i64 (0 : Int), .int .i64 (0 : Int)]) := by kernel_rfl
theorem ld239 : ldB Tryz.prog 239 2 true = true := by kernel_rfl
theorem fn221 : fnB Tryz.prog 221 = true := by kernel_rfl
theorem fn220 : fnB Tryz.prog 220 = true := by kernel_rfl
theorem z239 : zV Tryz.prog 239 = some [.int .i64 (0 : Int), .int .i64 (0 : Int)] := by kernel_rfl
theorem fn183 : fnB Tryz.prog 183 = true := by kernel_rfl
theorem fn184 : fnB Tryz.prog 184 = true := by kernel_rfl
theorem fn182 : fnB Tryz.prog 182 = true := by kernel_rfl
theorem pl201 : plV Tryz.prog 201 = some (fun i => [(0, 1), (1, 1)].toArray[i]?, [.str (⟨#[]⟩ : ByteArray), .str (⟨#[]⟩ : ByteArray)]) := by kernel_rfl
theorem el122 : elB Tryz.prog 122 201 2 = true := by kernel_rfl
theorem ap122 : apB Tryz.prog 122 201 2 32 = true := by kernel_rfl
theorem fn128 : fnB Tryz.prog 128 = true := by kernel_rfl
theorem fn127 : fnB Tryz.prog 127 = true := by kernel_rfl
theorem no232_64_68 : ∀ a : T_api_Label, noT [64, 68] (T_api_Label.vv a) = true := fun a => by simp [noT, noTs, T_api_Label.vv, T_api_Label.cells]
theorem no9_64_68 : ∀ a : ByteArray, noT [64, 68] (VV.str a) = true := fun a => by simp [noT, noTs]
theorem no189_64_68 : ∀ a : T_api_Term, noT [64, 68] (T_api_Term.vv a) = true := fun a => by simp [noT, noTs, T_api_Term.vv, T_api_Term.cells, noTs_map no9_64_68]
theorem no191_64_68 : ∀ a : T_api_Toleration, noT [64, 68] (T_api_Toleration.vv a) = true := fun a => by simp [noT, noTs, T_api_Toleration.vv, T_api_Toleration.cells]
theorem no3_64_68 : ∀ a : Int, noT [64, 68] ((VV.int .i64) a) = true := fun a => by simp [noT, noTs]
theorem no64_64_68 : ∀ a : T_api_Bound, noT [64, 68] (T_api_Bound.vv a) = true := fun a => by simp [noT, noTs, T_api_Bound.vv, T_api_Bound.cells, noTs_map no189_64_68, noTs_map no191_64_68, noTs_map no232_64_68, noTs_map no3_64_68]
theorem no201_64_68 : ∀ a : T_api_Move, noT [64, 68] (T_api_Move.vv a) = true := fun a => by simp [noT, noTs, T_api_Move.vv, T_api_Move.cells]
theorem fn64 : fnB Tryz.prog 64 = true := by kernel_rfl
theorem fn62 : fnB Tryz.prog 62 = true := by kernel_rfl
theorem fn61 : fnB Tryz.prog 61 = true := by kernel_rfl
theorem fn112 : fnB Tryz.prog 112 = true := by kernel_rfl
theorem fn19 : fnB Tryz.prog 19 = true := by kernel_rfl
theorem fn113 : fnB Tryz.prog 113 = true := by kernel_rfl
theorem fn111 : fnB Tryz.prog 111 = true := by kernel_rfl
theorem ld106 : ldB Tryz.prog 106 1 false = true := by kernel_rfl
theorem el106 : elB Tryz.prog 106 172 3 = true := by kernel_rfl
theorem ld172 : ldB Tryz.prog 172 3 true = true := by kernel_rfl
theorem z172 : zV Tryz.prog 172 = some [.str (⟨#[]⟩ : ByteArray), .int .i64 (0 : Int), .bool false] := by kernel_rfl
theorem pl31 : plV Tryz.prog 31 = some (fun i => [(0, 1), (1, 1), (2, 1)].toArray[i]?, [.str (⟨#[]⟩ : ByteArray), .str (⟨#[]⟩ : ByteArray), .int .i64 (0 : Int)]) := by kernel_rfl
theorem fn140 : fnB Tryz.prog 140 = true := by kernel_rfl
theorem fn74 : fnB Tryz.prog 74 = true := by kernel_rfl
theorem fn73 : fnB Tryz.prog 73 = true := by kernel_rfl
theorem fn69 : fnB Tryz.prog 69 = true := by kernel_rfl
theorem fn16 : fnB Tryz.prog 16 = true := by kernel_rfl
theorem pl172 : plV Tryz.prog 172 = some (fun i => [(0, 1), (1, 1), (2, 1)].toArray[i]?, [.str (⟨#[]⟩ : ByteArray), .int .i64 (0 : Int), .bool false]) := by kernel_rfl
theorem ap106 : apB Tryz.prog 106 172 3 32 = true := by kernel_rfl
theorem fn117 : fnB Tryz.prog 117 = true := by kernel_rfl
theorem fn175 : fnB Tryz.prog 175 = true := by kernel_rfl
theorem fn20 : fnB Tryz.prog 20 = true := by kernel_rfl
theorem fn146 : fnB Tryz.prog 146 = true := by kernel_rfl
theorem fn147 : fnB Tryz.prog 147 = true := by kernel_rfl
theorem fn78 : fnB Tryz.prog 78 = true := by kernel_rfl
theorem fn68 : fnB Tryz.prog 68 = true := by kernel_rfl
theorem fn144 : fnB Tryz.prog 144 = true := by kernel_rfl
theorem fn77 : fnB Tryz.prog 77 = true := by kernel_rfl
theorem fn76 : fnB Tryz.prog 76 = true := by kernel_rfl
theorem fn17 : fnB Tryz.prog 17 = true := by kernel_rfl
theorem fn176 : fnB Tryz.prog 176 = true := by kernel_rfl
theorem fn18 : fnB Tryz.prog 18 = true := by kernel_rfl
theorem nif159 : nifB Tryz.prog 159 = true := by kernel_rfl
theorem zg159 : zgV Tryz.prog 159 = some (.agg []) := by kernel_rfl
theorem zg160 : zgV Tryz.prog 160 = some (.agg []) := by kernel_rfl
theorem pl159 : plV Tryz.prog 159 = some (fun i => [].toArray[i]?, []) := by kernel_rfl
theorem fn84 : fnB Tryz.prog 84 = true := by kernel_rfl
theorem fn25 : fnB Tryz.prog 25 = true := by kernel_rfl
theorem fn116 : fnB Tryz.prog 116 = true := by kernel_rfl
theorem fn119 : fnB Tryz.prog 119 = true := by kernel_rfl
theorem fn114 : fnB Tryz.prog 114 = true := by kernel_rfl
theorem fn51 : fnB Tryz.prog 51 = true := by kernel_rfl
theorem fn115 : fnB Tryz.prog 115 = true := by kernel_rfl
theorem fn41 : fnB Tryz.prog 41 = true := by kernel_rfl
theorem fn42 : fnB Tryz.prog 42 = true := by kernel_rfl
theorem fn11 : fnB Tryz.prog 11 = true := by kernel_rfl
theorem fn47 : fnB Tryz.prog 47 = true := by kernel_rfl
theorem fn39 : fnB Tryz.prog 39 = true := by kernel_rfl
theorem fn24 : fnB Tryz.prog 24 = true := by kernel_rfl
theorem fn12 : fnB Tryz.prog 12 = true := by kernel_rfl
theorem fn30 : fnB Tryz.prog 30 = true := by kernel_rfl
theorem fn37 : fnB Tryz.prog 37 = true := by kernel_rfl
theorem fn36 : fnB Tryz.prog 36 = true := by kernel_rfl
theorem el87 : elB Tryz.prog 87 95 28 = true := by kernel_rfl
theorem ld95 : ldB Tryz.prog 95 28 true = true := by kernel_rfl
theorem fn122 : fnB Tryz.prog 122 = true := by kernel_rfl
theorem fn56 : fnB Tryz.prog 56 = true := by kernel_rfl
theorem fn9 : fnB Tryz.prog 9 = true := by kernel_rfl
theorem fn70 : fnB Tryz.prog 70 = true := by kernel_rfl
theorem fn14 : fnB Tryz.prog 14 = true := by kernel_rfl
theorem fn40 : fnB Tryz.prog 40 = true := by kernel_rfl
theorem fn45 : fnB Tryz.prog 45 = true := by kernel_rfl
theorem fn26 : fnB Tryz.prog 26 = true := by kernel_rfl
def shp70 : Shp := .st (.cons 0 1 false .str (.cons 1 1 false .str (.cons 2 1 false .int (.cons 3 1 false .int (.cons 4 1 false .int .nil)))))
theorem eq70 : (shB Tryz.prog shp70 70 && noif Tryz.prog 70 && Nat.ble shp70.ht 9998) = true := by kernel_rfl
theorem fn43 : fnB Tryz.prog 43 = true := by kernel_rfl
theorem fn177 : fnB Tryz.prog 177 = true := by kernel_rfl
theorem fn118 : fnB Tryz.prog 118 = true := by kernel_rfl
theorem fn44 : fnB Tryz.prog 44 = true := by kernel_rfl
theorem fn46 : fnB Tryz.prog 46 = true := by kernel_rfl
theorem z95 : zV Tryz.prog 95 = some [.int .i64 (0 : Int), .int .i64 (0 : Int), .str (⟨#[]⟩ : ByteArray), .int .i64 (0 : Int), .int .i64 (0 : Int), .int .i64 (0 : Int), .int .i64 (0 : Int), .int .i64 (0 : Int), .sl none 0 0, .sl none 0 0, .sl none 0 0, .sl none 0 0, .sl none 0 0, .sl none 0 0, .bool false, .sl none 0 0, .int .i64 (0 : Int), .int .i64 (0 : Int), .str (⟨#[]⟩ : ByteArray), .bool false, .bool false, .bool false, .str (⟨#[]⟩ : ByteArray), .str (⟨#[]⟩ : ByteArray), .int .i64 (0 : Int), .str (⟨#[]⟩ : ByteArray), .int .i64 (0 : Int), .bool false] := by kernel_rfl
def tb : Tb := ⟨[(23, 0, 0), (23, 1, 1), (23, 2, 2), (23, 3, 3), (23, 4, 4), (29, 0, 0), (29, 1, 1), (29, 2, 6), (29, 3, 7), (29, 4, 8), (29, 5, 9), (29, 6, 10), (29, 7, 11), (29, 8, 12), (29, 9, 13), (29, 10, 14), (29, 11, 15), (29, 12, 16), (29, 13, 17), (31, 0, 0), (31, 1, 1), (31, 2, 2), (33, 0, 0), (33, 1, 1), (33, 2, 21), (33, 3, 24), (33, 4, 25), (33, 5, 26), (43, 0, 0), (43, 1, 1), (43, 2, 2), (43, 3, 3), (43, 4, 4), (43, 5, 5), (64, 0, 0), (64, 1, 20), (68, 0, 0), (68, 1, 1), (68, 2, 2), (68, 3, 7), (68, 4, 8), (68, 5, 9), (70, 0, 0), (70, 1, 1), (70, 2, 2), (89, 0, 0), (89, 1, 1), (89, 2, 2), (89, 3, 3), (89, 4, 4), (95, 0, 0), (95, 1, 1), (103, 0, 0), (103, 1, 1), (103, 2, 2), (108, 0, 0), (108, 1, 1), (108, 2, 2), (139, 0, 0), (139, 1, 1), (139, 2, 2), (139, 3, 3), (139, 4, 13), (139, 5, 14), (144, 0, 0), (144, 1, 15), (144, 2, 16), (144, 3, 17), (149, 0, 0), (149, 1, 1), (149, 2, 2), (149, 3, 3), (149, 4, 4), (151, 0, 0), (157, 0, 0), (157, 1, 1), (157, 2, 2), (157, 3, 3), (172, 0, 0), (172, 1, 1), (172, 2, 2), (189, 0, 0), (189, 1, 1), (189, 2, 2), (191, 0, 0), (191, 1, 1), (191, 2, 2), (191, 3, 3), (232, 0, 0), (232, 1, 1), (239, 0, 0), (239, 1, 1), (263, 0, 0), (263, 1, 1), (263, 2, 2), (291, 0, 0)], [(3, 1, false), (4, 1, false), (9, 1, false), (23, 5, true), (24, 1, false), (25, 1, false), (26, 1, false), (27, 1, false), (29, 20, true), (31, 3, true), (33, 27, true), (36, 1, false), (37, 1, false), (38, 1, false), (39, 1, false), (40, 1, false), (41, 1, false), (61, 1, false), (64, 21, true), (66, 1, false), (68, 10, true), (70, 5, true), (87, 1, false), (89, 5, true), (95, 28, true), (103, 3, true), (106, 1, false), (139, 15, true), (140, 1, false), (146, 1, false), (147, 1, false), (152, 1, false), (155, 1, false), (160, 0, true), (172, 3, true), (189, 3, true), (191, 4, true), (193, 1, false), (208, 1, false), (225, 0, true), (232, 2, true), (239, 2, true), (247, 5, true), (288, 1, false), (291, 1, true)]⟩
theorem tbk : tb.ok Tryz.prog = true := by kernel_rfl
theorem Aa : type_of% @VR.p := @VR.p
theorem Ab : type_of% @VR.cons := @VR.cons
theorem Ac : type_of% @VR.nil := @VR.nil
theorem Ad : type_of% @VR.ru := @VR.ru
theorem Ae : type_of% @VW.sr := @VW.sr
theorem Af : type_of% @VW.seq := @VW.seq
theorem Ag : type_of% @VW.rr := @VW.rr
theorem Ah : type_of% @Shift.pk := @Shift.pk
theorem Ai : type_of% @VP.move := @VP.move
theorem Aj : type_of% @VP.assign := @VP.assign
theorem Ak : type_of% @VO.storeP := @VO.storeP
theorem Al : type_of% @VW.skip := @VW.skip
theorem Am : type_of% @VA.one := @VA.one
theorem An : type_of% @VB.o := @VB.o
theorem Ao : type_of% @VW.if_ := @VW.if_
theorem Aq : type_of% @VO.callK := @VO.callK
theorem Au : type_of% @VO.alloc := @VO.alloc
theorem Av : type_of% @VR.shift := @VR.shift
theorem Aw : type_of% @VW.block := @VW.block
theorem Ax : type_of% @Shift.mem := @Shift.mem
theorem Ay : type_of% @VO.cl := @VO.cl
theorem Az : type_of% @Shift.freezeE := @Shift.freezeE
theorem A4 : type_of% @VO.buildSlice := @VO.buildSlice
theorem A5 : type_of% @VA.done := @VA.done
theorem A6 : type_of% @VW.exit := @VW.exit
theorem A7 : type_of% @VP.lenT := @VP.lenT
theorem A8 : type_of% @VS.run := @VS.run
theorem A9 : type_of% @VA.ru := @VA.ru
theorem Ba : type_of% @VW.r1 := @VW.r1
theorem Bb : type_of% @VA.p := @VA.p
theorem Bc : type_of% @Tryz.underlying9 := @Tryz.underlying9
theorem Be : type_of% @Shift.pick := @Shift.pick
theorem Bf : type_of% @Shift.nilRow := @Shift.nilRow
theorem Bg : type_of% @VO.box := @VO.box
theorem Bh : type_of% @VR.consG := @VR.consG
theorem Bi : type_of% @VW.drawK := @VW.drawK
theorem Bk : type_of% @VR.pG := @VR.pG
theorem Bl : type_of% @VW.condT := @VW.condT
theorem Bm : type_of% @VW.condF := @VW.condF
theorem Bn : type_of% @VP.buildP := @VP.buildP
theorem Bo : type_of% @VO.apT := @VO.apT
theorem Bp : type_of% @VP.nilCheckQ := @VP.nilCheckQ
theorem Bq : type_of% @VW.ret := @VW.ret
theorem Br : type_of% @VP.arith := @VP.arith
theorem Bs : type_of% @VP.pickB := @VP.pickB
theorem Bt : type_of% @VP.loadE := @VP.loadE
theorem Bu : type_of% @VW.shift := @VW.shift
theorem Bv : type_of% @VW.region := @VW.region
theorem Bw : type_of% @VP.glE := @VP.glE
theorem Bx : type_of% @VR.sm := @VR.sm
theorem Bz : type_of% @Tryz.underlying61 := @Tryz.underlying61
theorem B0 : type_of% @VP.loadP := @VP.loadP
theorem B1 : type_of% @Shift.trans := @Shift.trans
theorem B2 : type_of% @VP.fieldQ := @VP.fieldQ
theorem B3 : type_of% @VA.all := @VA.all
theorem B4 : type_of% @VW.lenM := @VW.lenM
theorem B5 : type_of% @VW.jo' := @VW.jo'
theorem B6 : type_of% @Tryz.underlying40 := @Tryz.underlying40
theorem B7 : type_of% @VP.vo := @VP.vo
theorem B8 : type_of% @VP.glK := @VP.glK
theorem B9 : type_of% @Tryz.underlying41 := @Tryz.underlying41
theorem Ca : type_of% @VW.bf := @VW.bf
theorem Cb : type_of% @VP.loadQ := @VP.loadQ
theorem Cc : type_of% @VW.js' := @VW.js'
theorem Cd : type_of% @Tryz.underlying24 := @Tryz.underlying24
theorem Ce : type_of% @VP.loadR := @VP.loadR
theorem Cf : type_of% @VW.be := @VW.be
theorem Cg : type_of% @VR.someRow := @VR.someRow
theorem Ch : type_of% @Tryz.underlying66 := @Tryz.underlying66
theorem Ci : type_of% @VP.lenS := @VP.lenS
theorem Cj : type_of% @VO.cl2 := @VO.cl2
theorem Ck : type_of% @Tryz.underlying37 := @Tryz.underlying37
theorem Cl : type_of% @VCx.run := @VCx.run
theorem Cm : type_of% @VP.glR := @VP.glR
theorem Cn : type_of% @Tryz.underlying35 := @Tryz.underlying35
theorem Co : type_of% @Tryz.underlying27 := @Tryz.underlying27
theorem Cp : type_of% @VP.not := @VP.not
theorem Cq : type_of% @VR.gor := @VR.gor
theorem Cr : type_of% @Shift.reSl := @Shift.reSl
theorem Cs : type_of% @VA.shift := @VA.shift
theorem Ct : type_of% @VP.makeFunc := @VP.makeFunc
theorem Cu : type_of% @VR.gand := @VR.gand
theorem Cv : type_of% @Tryz.underlying39 := @Tryz.underlying39
theorem Cw : type_of% @Tryz.underlying38 := @Tryz.underlying38
theorem Cx : type_of% @VP.lenRT := @VP.lenRT
theorem Cy : type_of% @VP.lookup := @VP.lookup
theorem Cz : type_of% @VS2.run := @VS2.run
theorem C0 : type_of% @VR.so := @VR.so
theorem C1 : type_of% @VP.indexA := @VP.indexA
theorem C2 : type_of% @VP.isNil := @VP.isNil
theorem C3 : type_of% @Tryz.underlying5 := @Tryz.underlying5
theorem C4 : type_of% @Tryz.underlying193 := @Tryz.underlying193
theorem C5 : type_of% @VR.skipG := @VR.skipG
theorem C6 : type_of% @Tryz.underlying25 := @Tryz.underlying25
theorem C7 : type_of% @VP.fieldP := @VP.fieldP
theorem C8 : type_of% @Tryz.underlying288 := @Tryz.underlying288
theorem C9 : type_of% @Tryz.underlying54 := @Tryz.underlying54
theorem Da : type_of% @Tryz.underlying91 := @Tryz.underlying91
theorem Db : type_of% @Tryz.underlying26 := @Tryz.underlying26
theorem Dc : type_of% @VO.makeMap := @VO.makeMap
theorem Dd : type_of% @VP.assignQ := @VP.assignQ
theorem De : type_of% @VO.mapUpdate := @VO.mapUpdate
theorem Df : type_of% @Tryz.underlying106 := @Tryz.underlying106
theorem Dg : type_of% @Tryz.underlying36 := @Tryz.underlying36
theorem Dh : type_of% @Tryz.underlying3 := @Tryz.underlying3
theorem Di : type_of% @VO.storeQ := @VO.storeQ
theorem Dj : type_of% @VO.boxQ := @VO.boxQ
theorem Dk : type_of% @VA.sm := @VA.sm
theorem Dl : type_of% @VA.pG := @VA.pG
theorem Dm : type_of% @VB.oG := @VB.oG
theorem Dn : type_of% @VO.ce := @VO.ce
theorem Dp : type_of% @Tryz.underlying147 := @Tryz.underlying147
theorem Dq : type_of% @VW.js := @VW.js
theorem Dr : type_of% @VP.gi := @VP.gi
theorem Ds : type_of% @VO.storeRT := @VO.storeRT
theorem Dt : type_of% @VP.assignI := @VP.assignI
theorem Du : type_of% @VP.catT := @VP.catT
theorem Dv : type_of% @VP.slT := @VP.slT
theorem Dw : type_of% @VP.mkI := @VP.mkI
theorem Dx : type_of% @VP.isNot := @VP.isNot
theorem Dy : type_of% @VP.nilCheckP := @VP.nilCheckP
theorem Dz : type_of% @VP.loadA := @VP.loadA
theorem D0 : type_of% @VR.sa := @VR.sa
theorem D1 : type_of% @VP.fieldR := @VP.fieldR
theorem D2 : type_of% @VP.extract := @VP.extract
theorem D3 : type_of% @VP.field := @VP.field
theorem D4 : type_of% @Tryz.func136 := @Tryz.func136
theorem D5 : type_of% @VP.indexR := @VP.indexR
theorem D6 : type_of% @Tryz.func139 := @Tryz.func139
theorem D7 : type_of% @Tryz.func250 := @Tryz.func250
theorem D8 : type_of% @Tryz.func69 := @Tryz.func69
theorem D9 : type_of% @VP.convI := @VP.convI
theorem Ea : type_of% @VO.cl1 := @VO.cl1
end Go.Proofs.YtbgfffdnaijmhaaGreat.M

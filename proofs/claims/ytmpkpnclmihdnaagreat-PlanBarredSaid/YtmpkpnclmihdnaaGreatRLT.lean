/-
  Printed by a program of this session out of the loaded functions: models and their proofs. Own text.
-/
import Derived.Test.YtmpkpnclmihdnaaGreatVLend
import Derived.Test.YtmpkpnclmihdnaaGreatProg
import Derived.KernelRfl
namespace Go.Proofs.YtmpkpnclmihdnaaGreat.M
open Go Go.Proofs Go.Proofs.YtmpkpnclmihdnaaGreat.V
open Go.IntKind (i64)
set_option linter.unusedVariables false
set_option maxRecDepth 20000
set_option maxHeartbeats 4000000
structure T_api_Res where
  Cpu : Int
  Mem : Int
  Disk : Int
  Pods : Int
  Dev : Int
  deriving DecidableEq
def T_api_Res.cells (x : T_api_Res) : List VV := [.int .i64 x.Cpu, .int .i64 x.Mem, .int .i64 x.Disk, .int .i64 x.Pods, .int .i64 x.Dev]
def T_api_Res.vv (x : T_api_Res) : VV := .agg x.cells

structure T_api_Label where
  Key : ByteArray
  Val : ByteArray
  deriving DecidableEq
def T_api_Label.cells (x : T_api_Label) : List VV := [.str x.Key, .str x.Val]
def T_api_Label.vv (x : T_api_Label) : VV := .agg x.cells

structure T_api_Taint where
  Key : ByteArray
  Val : ByteArray
  Effect : Int
  deriving DecidableEq
def T_api_Taint.cells (x : T_api_Taint) : List VV := [.str x.Key, .str x.Val, .int .i64 x.Effect]
def T_api_Taint.vv (x : T_api_Taint) : VV := .agg x.cells

structure T_api_Machine where
  Name : ByteArray
  Group : ByteArray
  Has : T_api_Res
  Labels : List T_api_Label
  Taints : List T_api_Taint
  Ready : Bool
  deriving DecidableEq
def T_api_Machine.cells (x : T_api_Machine) : List VV := [.str x.Name, .str x.Group, .int .i64 x.Has.Cpu, .int .i64 x.Has.Mem, .int .i64 x.Has.Disk, .int .i64 x.Has.Pods, .int .i64 x.Has.Dev, .list 92 (List.map T_api_Label.vv x.Labels), .list 166 (List.map T_api_Taint.vv x.Taints), .bool x.Ready]
def T_api_Machine.vv (x : T_api_Machine) : VV := .agg x.cells

structure T_api_Term where
  Key : ByteArray
  Op : Int
  Vals : List ByteArray
  deriving DecidableEq
def T_api_Term.cells (x : T_api_Term) : List VV := [.str x.Key, .int .i64 x.Op, .list 9 (List.map VV.str x.Vals)]
def T_api_Term.vv (x : T_api_Term) : VV := .agg x.cells

structure T_api_Toleration where
  Key : ByteArray
  Val : ByteArray
  Any : Bool
  Effect : Int
  deriving DecidableEq
def T_api_Toleration.cells (x : T_api_Toleration) : List VV := [.str x.Key, .str x.Val, .bool x.Any, .int .i64 x.Effect]
def T_api_Toleration.vv (x : T_api_Toleration) : VV := .agg x.cells

structure T_api_Pod where
  Name : ByteArray
  Need : T_api_Res
  Labels : List T_api_Label
  Select : List T_api_Label
  Terms : List T_api_Term
  Bears : List T_api_Toleration
  Ports : List Int
  Apart : List T_api_Label
  Wide : Bool
  Spread : List T_api_Label
  Skew : Int
  Rank : Int
  Owner : ByteArray
  Daemon : Bool
  Pinned : Bool
  Local : Bool
  deriving DecidableEq
def T_api_Pod.cells (x : T_api_Pod) : List VV := [.str x.Name, .int .i64 x.Need.Cpu, .int .i64 x.Need.Mem, .int .i64 x.Need.Disk, .int .i64 x.Need.Pods, .int .i64 x.Need.Dev, .list 92 (List.map T_api_Label.vv x.Labels), .list 92 (List.map T_api_Label.vv x.Select), .list 142 (List.map T_api_Term.vv x.Terms), .list 172 (List.map T_api_Toleration.vv x.Bears), .list 3 (List.map (VV.int .i64) x.Ports), .list 92 (List.map T_api_Label.vv x.Apart), .bool x.Wide, .list 92 (List.map T_api_Label.vv x.Spread), .int .i64 x.Skew, .int .i64 x.Rank, .str x.Owner, .bool x.Daemon, .bool x.Pinned, .bool x.Local]
def T_api_Pod.vv (x : T_api_Pod) : VV := .agg x.cells

structure T_api_Bound where
  Pod : T_api_Pod
  On : ByteArray
  deriving DecidableEq
def T_api_Bound.cells (x : T_api_Bound) : List VV := [.str x.Pod.Name, .int .i64 x.Pod.Need.Cpu, .int .i64 x.Pod.Need.Mem, .int .i64 x.Pod.Need.Disk, .int .i64 x.Pod.Need.Pods, .int .i64 x.Pod.Need.Dev, .list 92 (List.map T_api_Label.vv x.Pod.Labels), .list 92 (List.map T_api_Label.vv x.Pod.Select), .list 142 (List.map T_api_Term.vv x.Pod.Terms), .list 172 (List.map T_api_Toleration.vv x.Pod.Bears), .list 3 (List.map (VV.int .i64) x.Pod.Ports), .list 92 (List.map T_api_Label.vv x.Pod.Apart), .bool x.Pod.Wide, .list 92 (List.map T_api_Label.vv x.Pod.Spread), .int .i64 x.Pod.Skew, .int .i64 x.Pod.Rank, .str x.Pod.Owner, .bool x.Pod.Daemon, .bool x.Pod.Pinned, .bool x.Pod.Local, .str x.On]
def T_api_Bound.vv (x : T_api_Bound) : VV := .agg x.cells

structure T_api_Budget where
  Name : ByteArray
  Match : List T_api_Label
  Least : Int
  deriving DecidableEq
def T_api_Budget.cells (x : T_api_Budget) : List VV := [.str x.Name, .list 92 (List.map T_api_Label.vv x.Match), .int .i64 x.Least]
def T_api_Budget.vv (x : T_api_Budget) : VV := .agg x.cells

structure T_law26_Case where
  Ms : List T_api_Machine
  Bs : List T_api_Bound
  L : List T_api_Budget
  Names : List ByteArray
  Barred : List ByteArray
  Most : Int
  deriving DecidableEq
def T_law26_Case.cells (x : T_law26_Case) : List VV := [.list 61 (List.map T_api_Machine.vv x.Ms), .list 49 (List.map T_api_Bound.vv x.Bs), .list 64 (List.map T_api_Budget.vv x.L), .list 9 (List.map VV.str x.Names), .list 9 (List.map VV.str x.Barred), .int .i64 x.Most]
def T_law26_Case.vv (x : T_law26_Case) : VV := .agg x.cells

structure T_api_Move where
  Pod : ByteArray
  To : ByteArray
  deriving DecidableEq
def T_api_Move.cells (x : T_api_Move) : List VV := [.str x.Pod, .str x.To]
def T_api_Move.vv (x : T_api_Move) : VV := .agg x.cells

structure T_plan_planner where
  ms : List T_api_Machine
  bs : List T_api_Bound
  barred : List ByteArray
  deriving DecidableEq
def T_plan_planner.cells (x : T_plan_planner) : List VV := [.list 61 (List.map T_api_Machine.vv x.ms), .list 49 (List.map T_api_Bound.vv x.bs), .list 9 (List.map VV.str x.barred)]
def T_plan_planner.vv (x : T_plan_planner) : VV := .agg x.cells

structure T_fit_asker where
  ms : List T_api_Machine
  bs : List T_api_Bound
  p : T_api_Pod
  deriving DecidableEq
def T_fit_asker.cells (x : T_fit_asker) : List VV := [.list 61 (List.map T_api_Machine.vv x.ms), .list 49 (List.map T_api_Bound.vv x.bs), .str x.p.Name, .int .i64 x.p.Need.Cpu, .int .i64 x.p.Need.Mem, .int .i64 x.p.Need.Disk, .int .i64 x.p.Need.Pods, .int .i64 x.p.Need.Dev, .list 92 (List.map T_api_Label.vv x.p.Labels), .list 92 (List.map T_api_Label.vv x.p.Select), .list 142 (List.map T_api_Term.vv x.p.Terms), .list 172 (List.map T_api_Toleration.vv x.p.Bears), .list 3 (List.map (VV.int .i64) x.p.Ports), .list 92 (List.map T_api_Label.vv x.p.Apart), .bool x.p.Wide, .list 92 (List.map T_api_Label.vv x.p.Spread), .int .i64 x.p.Skew, .int .i64 x.p.Rank, .str x.p.Owner, .bool x.p.Daemon, .bool x.p.Pinned, .bool x.p.Local]
def T_fit_asker.vv (x : T_fit_asker) : VV := .agg x.cells

structure Arr5_Int where
  x0 : Int
  x1 : Int
  x2 : Int
  x3 : Int
  x4 : Int
  deriving DecidableEq
def Arr5_Int.cells (x : Arr5_Int) : List VV := [.int .i64 x.x0, .int .i64 x.x1, .int .i64 x.x2, .int .i64 x.x3, .int .i64 x.x4]
def Arr5_Int.vv (x : Arr5_Int) : VV := .agg x.cells
def Arr5_Int.l (x : Arr5_Int) : List Int := [x.x0, x.x1, x.x2, x.x3, x.x4]
def Arr5_Int.put (x : Arr5_Int) (n : Int) (v : Int) : Option Arr5_Int :=
  if n = 0 then some ⟨v, x.x1, x.x2, x.x3, x.x4⟩ else
  if n = 1 then some ⟨x.x0, v, x.x2, x.x3, x.x4⟩ else
  if n = 2 then some ⟨x.x0, x.x1, v, x.x3, x.x4⟩ else
  if n = 3 then some ⟨x.x0, x.x1, x.x2, v, x.x4⟩ else
  if n = 4 then some ⟨x.x0, x.x1, x.x2, x.x3, v⟩ else
  none
theorem Arr5_Int.put_some {x y : Arr5_Int} {n : Int} {v : Int} (h : Arr5_Int.put x n v = some y) : (0 ≤ n ∧ n < ((Arr5_Int.l x).length : Int)) ∧ y.cells = ((Arr5_Int.l x).set n.toNat v).map (VV.int .i64) := by
  unfold Arr5_Int.put at h
  split at h
  · rename_i hn; subst hn; cases h; exact ⟨⟨by decide, by show (0 : Int) < 5; decide⟩, rfl⟩
  split at h
  · rename_i hn; subst hn; cases h; exact ⟨⟨by decide, by show (1 : Int) < 5; decide⟩, rfl⟩
  split at h
  · rename_i hn; subst hn; cases h; exact ⟨⟨by decide, by show (2 : Int) < 5; decide⟩, rfl⟩
  split at h
  · rename_i hn; subst hn; cases h; exact ⟨⟨by decide, by show (3 : Int) < 5; decide⟩, rfl⟩
  split at h
  · rename_i hn; subst hn; cases h; exact ⟨⟨by decide, by show (4 : Int) < 5; decide⟩, rfl⟩
  cases h

structure T_apart_place where
  zones : List (ByteArray × ByteArray)

structure T_api_Plan where
  Name : ByteArray
  Moves : List T_api_Move
  deriving DecidableEq
def T_api_Plan.cells (x : T_api_Plan) : List VV := [.str x.Name, .list 58 (List.map T_api_Move.vv x.Moves)]
def T_api_Plan.vv (x : T_api_Plan) : VV := .agg x.cells

abbrev L92 (l : List T_api_Label) : VV := .list 92 (List.map T_api_Label.vv l)
abbrev L172 (l : List T_api_Toleration) : VV := .list 172 (List.map T_api_Toleration.vv l)
abbrev L166 (l : List T_api_Taint) : VV := .list 166 (List.map T_api_Taint.vv l)
abbrev L61 (l : List T_api_Machine) : VV := .list 61 (List.map T_api_Machine.vv l)
abbrev L49 (l : List T_api_Bound) : VV := .list 49 (List.map T_api_Bound.vv l)
abbrev X142 (b : Nat) (x : T_api_Term) : HE := .box b 142 (T_api_Term.cells x)
abbrev X47 (b : Nat) (x : T_api_Pod) : HE := .box b 47 (T_api_Pod.cells x)
abbrev L64 (l : List T_api_Budget) : VV := .list 64 (List.map T_api_Budget.vv l)
abbrev L142 (l : List T_api_Term) : VV := .list 142 (List.map T_api_Term.vv l)
abbrev L9 (l : List ByteArray) : VV := .list 9 (List.map VV.str l)
abbrev Z61 (ob : Option Nat) (l : List T_api_Machine) (cap : Nat) : VV := .sl ob (List.map T_api_Machine.vv l).length cap
abbrev Q61 (ob : Option Nat) (cap : Nat) (l : List T_api_Machine) : HE := .row ob 61 cap (List.map T_api_Machine.vv l)
abbrev Q49 (ob : Option Nat) (cap : Nat) (l : List T_api_Bound) : HE := .row ob 49 cap (List.map T_api_Bound.vv l)
abbrev Z49 (ob : Option Nat) (l : List T_api_Bound) (cap : Nat) : VV := .sl ob (List.map T_api_Bound.vv l).length cap
abbrev Z47 (ob : Option Nat) (l : List T_api_Pod) (cap : Nat) : VV := .sl ob (List.map T_api_Pod.vv l).length cap
abbrev Q47 (ob : Option Nat) (cap : Nat) (l : List T_api_Pod) : HE := .row ob 47 cap (List.map T_api_Pod.vv l)
abbrev L47 (l : List T_api_Pod) : VV := .list 47 (List.map T_api_Pod.vv l)
abbrev X102 (b : Nat) (x : T_plan_planner) : HE := .box b 102 (T_plan_planner.cells x)
abbrev X166 (b : Nat) (x : T_api_Taint) : HE := .box b 166 (T_api_Taint.cells x)
abbrev Z166 (ob : Option Nat) (l : List T_api_Taint) (cap : Nat) : VV := .sl ob (List.map T_api_Taint.vv l).length cap
abbrev Q166 (ob : Option Nat) (cap : Nat) (l : List T_api_Taint) : HE := .row ob 166 cap (List.map T_api_Taint.vv l)
abbrev X61 (b : Nat) (x : T_api_Machine) : HE := .box b 61 (T_api_Machine.cells x)
abbrev X183 (b : Nat) (x : Arr5_Int) : HE := .box b 183 (Arr5_Int.cells x)
abbrev X41 (b : Nat) (x : T_api_Res) : HE := .box b 41 (T_api_Res.cells x)
abbrev L3 (l : List Int) : VV := .list 3 (List.map (VV.int .i64) l)
abbrev Z9 (ob : Option Nat) (l : List ByteArray) (cap : Nat) : VV := .sl ob (List.map VV.str l).length cap
abbrev Q9 (ob : Option Nat) (cap : Nat) (l : List ByteArray) : HE := .row ob 9 cap (List.map VV.str l)
abbrev Z3 (ob : Option Nat) (l : List Int) (cap : Nat) : VV := .sl ob (List.map (VV.int .i64) l).length cap
abbrev Q3 (ob : Option Nat) (cap : Nat) (l : List Int) : HE := .row ob 3 cap (List.map (VV.int .i64) l)
abbrev Z58 (ob : Option Nat) (l : List T_api_Move) (cap : Nat) : VV := .sl ob (List.map T_api_Move.vv l).length cap
abbrev Q58 (ob : Option Nat) (cap : Nat) (l : List T_api_Move) : HE := .row ob 58 cap (List.map T_api_Move.vv l)
abbrev L4 (l : List Bool) : VV := .list 4 (List.map VV.bool l)
abbrev X64 (b : Nat) (x : T_api_Budget) : HE := .box b 64 (T_api_Budget.cells x)
abbrev X58 (b : Nat) (x : T_api_Move) : HE := .box b 58 (T_api_Move.cells x)
abbrev L58 (l : List T_api_Move) : VV := .list 58 (List.map T_api_Move.vv l)
abbrev Z54 (ob : Option Nat) (l : List T_api_Plan) (cap : Nat) : VV := .sl ob (List.map T_api_Plan.vv l).length cap
abbrev Q54 (ob : Option Nat) (cap : Nat) (l : List T_api_Plan) : HE := .row ob 54 cap (List.map T_api_Plan.vv l)
abbrev L54 (l : List T_api_Plan) : VV := .list 54 (List.map T_api_Plan.vv l)
abbrev X27 (b : Nat) (x : T_law26_Case) : HE := .box b 27 (T_law26_Case.cells x)
abbrev L5 (l : List Int) : VV := .list 5 (List.map (VV.int .u8) l)
theorem ld25 : ldB Tryz.prog 25 1 false = true := by kernel_rfl
theorem ld23 : ldB Tryz.prog 23 1 false = true := by kernel_rfl
theorem el22 : elB Tryz.prog 22 61 10 = true := by kernel_rfl
theorem ld61 : ldB Tryz.prog 61 10 true = true := by kernel_rfl
theorem ld9 : ldB Tryz.prog 9 1 false = true := by kernel_rfl
theorem el42 : elB Tryz.prog 42 92 2 = true := by kernel_rfl
theorem fn93 : fnB Tryz.prog 93 = true := by kernel_rfl
theorem el44 : elB Tryz.prog 44 172 4 = true := by kernel_rfl
theorem el59 : elB Tryz.prog 59 166 3 = true := by kernel_rfl
theorem fn119 : fnB Tryz.prog 119 = true := by kernel_rfl
theorem fn65 : fnB Tryz.prog 65 = true := by kernel_rfl
theorem el23 : elB Tryz.prog 23 49 21 = true := by kernel_rfl
theorem ld47 : ldB Tryz.prog 47 20 true = true := by kernel_rfl
theorem el43 : elB Tryz.prog 43 142 3 = true := by kernel_rfl
theorem ld142 : ldB Tryz.prog 142 3 true = true := by kernel_rfl
theorem el25 : elB Tryz.prog 25 9 1 = true := by kernel_rfl
theorem fn120 : fnB Tryz.prog 120 = true := by kernel_rfl
theorem fa49_1 : faB Tryz.prog 49 1 20 = true := by kernel_rfl
theorem fn66 : fnB Tryz.prog 66 = true := by kernel_rfl
theorem el24 : elB Tryz.prog 24 64 3 = true := by kernel_rfl
theorem fn45 : fnB Tryz.prog 45 = true := by kernel_rfl
theorem fn180 : fnB Tryz.prog 180 = true := by kernel_rfl
theorem mixed : Tryz.prog.follows .mixedOrders = true := by kernel_rfl
theorem fn137 : fnB Tryz.prog 137 = true := by kernel_rfl
theorem fn136 : fnB Tryz.prog 136 = true := by kernel_rfl
theorem fn94 : fnB Tryz.prog 94 = true := by kernel_rfl
theorem fn110 : fnB Tryz.prog 110 = true := by kernel_rfl
theorem ld41 : ldB Tryz.prog 41 5 true = true := by kernel_rfl
theorem ld3 : ldB Tryz.prog 3 1 false = true := by kernel_rfl
theorem fn161 : fnB Tryz.prog 161 = true := by kernel_rfl
theorem fn111 : fnB Tryz.prog 111 = true := by kernel_rfl
theorem fn138 : fnB Tryz.prog 138 = true := by kernel_rfl
theorem fn139 : fnB Tryz.prog 139 = true := by kernel_rfl
theorem fn95 : fnB Tryz.prog 95 = true := by kernel_rfl
theorem fn162 : fnB Tryz.prog 162 = true := by kernel_rfl
theorem fn163 : fnB Tryz.prog 163 = true := by kernel_rfl
theorem fn112 : fnB Tryz.prog 112 = true := by kernel_rfl
theorem fn60 : fnB Tryz.prog 60 = true := by kernel_rfl
theorem fn113 : fnB Tryz.prog 113 = true := by kernel_rfl
theorem fn213 : fnB Tryz.prog 213 = true := by kernel_rfl
theorem fn190 : fnB Tryz.prog 190 = true := by kernel_rfl
theorem fn191 : fnB Tryz.prog 191 = true := by kernel_rfl
theorem fn164 : fnB Tryz.prog 164 = true := by kernel_rfl
theorem fn114 : fnB Tryz.prog 114 = true := by kernel_rfl
theorem el45 : elB Tryz.prog 45 3 1 = true := by kernel_rfl
theorem ld172 : ldB Tryz.prog 172 4 true = true := by kernel_rfl
theorem z172 : zV Tryz.prog 172 = some [.str (⟨#[]⟩ : ByteArray), .str (⟨#[]⟩ : ByteArray), .bool false, .int .i64 (0 : Int)] := by kernel_rfl
theorem fn115 : fnB Tryz.prog 115 = true := by kernel_rfl
theorem fn61 : fnB Tryz.prog 61 = true := by kernel_rfl
theorem fn23 : fnB Tryz.prog 23 = true := by kernel_rfl
theorem fn57 : fnB Tryz.prog 57 = true := by kernel_rfl
theorem fn22 : fnB Tryz.prog 22 = true := by kernel_rfl
theorem fn46 : fnB Tryz.prog 46 = true := by kernel_rfl
theorem fn27 : fnB Tryz.prog 27 = true := by kernel_rfl
theorem pl41 : plV Tryz.prog 41 = some (fun i => [(0, 1), (1, 1), (2, 1), (3, 1), (4, 1)].toArray[i]?, [.int .i64 (0 : Int), .int .i64 (0 : Int), .int .i64 (0 : Int), .int .i64 (0 : Int), .int .i64 (0 : Int)]) := by kernel_rfl
theorem pl61 : plV Tryz.prog 61 = some (fun i => [(0, 1), (1, 1), (2, 5), (7, 1), (8, 1), (9, 1)].toArray[i]?, [.str (⟨#[]⟩ : ByteArray), .str (⟨#[]⟩ : ByteArray), .int .i64 (0 : Int), .int .i64 (0 : Int), .int .i64 (0 : Int), .int .i64 (0 : Int), .int .i64 (0 : Int), .sl none 0 0, .sl none 0 0, .bool false]) := by kernel_rfl
theorem pl47 : plV Tryz.prog 47 = some (fun i => [(0, 1), (1, 5), (6, 1), (7, 1), (8, 1), (9, 1), (10, 1), (11, 1), (12, 1), (13, 1), (14, 1), (15, 1), (16, 1), (17, 1), (18, 1), (19, 1)].toArray[i]?, [.str (⟨#[]⟩ : ByteArray), .int .i64 (0 : Int), .int .i64 (0 : Int), .int .i64 (0 : Int), .int .i64 (0 : Int), .int .i64 (0 : Int), .sl none 0 0, .sl none 0 0, .sl none 0 0, .sl none 0 0, .sl none 0 0, .sl none 0 0, .bool false, .sl none 0 0, .int .i64 (0 : Int), .int .i64 (0 : Int), .str (⟨#[]⟩ : ByteArray), .bool false, .bool false, .bool false]) := by kernel_rfl
theorem pl49 : plV Tryz.prog 49 = some (fun i => [(0, 20), (20, 1)].toArray[i]?, [.str (⟨#[]⟩ : ByteArray), .int .i64 (0 : Int), .int .i64 (0 : Int), .int .i64 (0 : Int), .int .i64 (0 : Int), .int .i64 (0 : Int), .sl none 0 0, .sl none 0 0, .sl none 0 0, .sl none 0 0, .sl none 0 0, .sl none 0 0, .bool false, .sl none 0 0, .int .i64 (0 : Int), .int .i64 (0 : Int), .str (⟨#[]⟩ : ByteArray), .bool false, .bool false, .bool false, .str (⟨#[]⟩ : ByteArray)]) := by kernel_rfl
theorem fn97 : fnB Tryz.prog 97 = true := by kernel_rfl
theorem fn96 : fnB Tryz.prog 96 = true := by kernel_rfl
theorem fn47 : fnB Tryz.prog 47 = true := by kernel_rfl
theorem ap22 : apB Tryz.prog 22 61 10 128 = true := by kernel_rfl
theorem fn52 : fnB Tryz.prog 52 = true := by kernel_rfl
theorem z61 : zV Tryz.prog 61 = some [.str (⟨#[]⟩ : ByteArray), .str (⟨#[]⟩ : ByteArray), .int .i64 (0 : Int), .int .i64 (0 : Int), .int .i64 (0 : Int), .int .i64 (0 : Int), .int .i64 (0 : Int), .sl none 0 0, .sl none 0 0, .bool false] := by kernel_rfl
theorem pl102 : plV Tryz.prog 102 = some (fun i => [(0, 1), (1, 1), (2, 1)].toArray[i]?, [.sl none 0 0, .sl none 0 0, .sl none 0 0]) := by kernel_rfl
theorem ld49 : ldB Tryz.prog 49 21 true = true := by kernel_rfl
theorem ap23 : apB Tryz.prog 23 49 21 288 = true := by kernel_rfl
theorem z49 : zV Tryz.prog 49 = some [.str (⟨#[]⟩ : ByteArray), .int .i64 (0 : Int), .int .i64 (0 : Int), .int .i64 (0 : Int), .int .i64 (0 : Int), .int .i64 (0 : Int), .sl none 0 0, .sl none 0 0, .sl none 0 0, .sl none 0 0, .sl none 0 0, .sl none 0 0, .bool false, .sl none 0 0, .int .i64 (0 : Int), .int .i64 (0 : Int), .str (⟨#[]⟩ : ByteArray), .bool false, .bool false, .bool false, .str (⟨#[]⟩ : ByteArray)] := by kernel_rfl
theorem el55 : elB Tryz.prog 55 47 20 = true := by kernel_rfl
theorem ap55 : apB Tryz.prog 55 47 20 272 = true := by kernel_rfl
theorem z47 : zV Tryz.prog 47 = some [.str (⟨#[]⟩ : ByteArray), .int .i64 (0 : Int), .int .i64 (0 : Int), .int .i64 (0 : Int), .int .i64 (0 : Int), .int .i64 (0 : Int), .sl none 0 0, .sl none 0 0, .sl none 0 0, .sl none 0 0, .sl none 0 0, .sl none 0 0, .bool false, .sl none 0 0, .int .i64 (0 : Int), .int .i64 (0 : Int), .str (⟨#[]⟩ : ByteArray), .bool false, .bool false, .bool false] := by kernel_rfl
theorem fn85 : fnB Tryz.prog 85 = true := by kernel_rfl
theorem pl152 : plV Tryz.prog 152 = some (fun i => [(0, 1), (1, 1), (2, 20)].toArray[i]?, [.sl none 0 0, .sl none 0 0, .str (⟨#[]⟩ : ByteArray), .int .i64 (0 : Int), .int .i64 (0 : Int), .int .i64 (0 : Int), .int .i64 (0 : Int), .int .i64 (0 : Int), .sl none 0 0, .sl none 0 0, .sl none 0 0, .sl none 0 0, .sl none 0 0, .sl none 0 0, .bool false, .sl none 0 0, .int .i64 (0 : Int), .int .i64 (0 : Int), .str (⟨#[]⟩ : ByteArray), .bool false, .bool false, .bool false]) := by kernel_rfl
theorem ld92 : ldB Tryz.prog 92 2 true = true := by kernel_rfl
theorem z92 : zV Tryz.prog 92 = some [.str (⟨#[]⟩ : ByteArray), .str (⟨#[]⟩ : ByteArray)] := by kernel_rfl
theorem fn238 : fnB Tryz.prog 238 = true := by kernel_rfl
theorem fn231 : fnB Tryz.prog 231 = true := by kernel_rfl
theorem fn239 : fnB Tryz.prog 239 = true := by kernel_rfl
theorem fn217 : fnB Tryz.prog 217 = true := by kernel_rfl
theorem fn218 : fnB Tryz.prog 218 = true := by kernel_rfl
theorem fn199 : fnB Tryz.prog 199 = true := by kernel_rfl
theorem fn170 : fnB Tryz.prog 170 = true := by kernel_rfl
theorem fn232 : fnB Tryz.prog 232 = true := by kernel_rfl
theorem z142 : zV Tryz.prog 142 = some [.str (⟨#[]⟩ : ByteArray), .int .i64 (0 : Int), .sl none 0 0] := by kernel_rfl
theorem ld166 : ldB Tryz.prog 166 3 true = true := by kernel_rfl
theorem fn228 : fnB Tryz.prog 228 = true := by kernel_rfl
theorem fn208 : fnB Tryz.prog 208 = true := by kernel_rfl
theorem fn207 : fnB Tryz.prog 207 = true := by kernel_rfl
theorem ap59 : apB Tryz.prog 59 166 3 40 = true := by kernel_rfl
theorem fn206 : fnB Tryz.prog 206 = true := by kernel_rfl
theorem z166 : zV Tryz.prog 166 = some [.str (⟨#[]⟩ : ByteArray), .str (⟨#[]⟩ : ByteArray), .int .i64 (0 : Int)] := by kernel_rfl
theorem fn205 : fnB Tryz.prog 205 = true := by kernel_rfl
theorem fn181 : fnB Tryz.prog 181 = true := by kernel_rfl
theorem fn220 : fnB Tryz.prog 220 = true := by kernel_rfl
theorem fn219 : fnB Tryz.prog 219 = true := by kernel_rfl
theorem fn212 : fnB Tryz.prog 212 = true := by kernel_rfl
theorem ld55 : ldB Tryz.prog 55 1 false = true := by kernel_rfl
theorem pl183 : plV Tryz.prog 183 = some (fun i => some (i * 1, 1), [.int .i64 (0 : Int), .int .i64 (0 : Int), .int .i64 (0 : Int), .int .i64 (0 : Int), .int .i64 (0 : Int)]) := by kernel_rfl
theorem ld183 : ldB Tryz.prog 183 5 true = true := by kernel_rfl
theorem z183 : zV Tryz.prog 183 = some [.int .i64 (0 : Int), .int .i64 (0 : Int), .int .i64 (0 : Int), .int .i64 (0 : Int), .int .i64 (0 : Int)] := by kernel_rfl
theorem ar183 : arB Tryz.prog 183 3 5 1 = true := by kernel_rfl
theorem fn174 : fnB Tryz.prog 174 = true := by kernel_rfl
theorem fn130 : fnB Tryz.prog 130 = true := by kernel_rfl
theorem fn182 : fnB Tryz.prog 182 = true := by kernel_rfl
theorem fn210 : fnB Tryz.prog 210 = true := by kernel_rfl
theorem z41 : zV Tryz.prog 41 = some [.int .i64 (0 : Int), .int .i64 (0 : Int), .int .i64 (0 : Int), .int .i64 (0 : Int), .int .i64 (0 : Int)] := by kernel_rfl
theorem fn229 : fnB Tryz.prog 229 = true := by kernel_rfl
theorem fn209 : fnB Tryz.prog 209 = true := by kernel_rfl
theorem fn183 : fnB Tryz.prog 183 = true := by kernel_rfl
theorem z55 : zV Tryz.prog 55 = some [.sl none 0 0] := by kernel_rfl
theorem fn241 : fnB Tryz.prog 241 = true := by kernel_rfl
theorem fn240 : fnB Tryz.prog 240 = true := by kernel_rfl
theorem fn233 : fnB Tryz.prog 233 = true := by kernel_rfl
theorem fn234 : fnB Tryz.prog 234 = true := by kernel_rfl
theorem fn143 : fnB Tryz.prog 143 = true := by kernel_rfl
theorem fn222 : fnB Tryz.prog 222 = true := by kernel_rfl
theorem fn223 : fnB Tryz.prog 223 = true := by kernel_rfl
theorem fn224 : fnB Tryz.prog 224 = true := by kernel_rfl
theorem fn221 : fnB Tryz.prog 221 = true := by kernel_rfl
theorem fn202 : fnB Tryz.prog 202 = true := by kernel_rfl
theorem fn201 : fnB Tryz.prog 201 = true := by kernel_rfl
theorem fn177 : fnB Tryz.prog 177 = true := by kernel_rfl
theorem mk9 : KeyOk Tryz.prog 9 VV.str Value.string TypeDesc.string := KeyOk.str Tryz.underlying9
theorem pl215 : plV Tryz.prog 215 = some (fun i => [(0, 1)].toArray[i]?, [.nilmap]) := by kernel_rfl
theorem ld215 : ldB Tryz.prog 215 1 true = true := by kernel_rfl
theorem zc9 : (Tryz.prog.info? 9).bind (·.zero) = some (.string ⟨#[]⟩) := by kernel_rfl
theorem fn235 : fnB Tryz.prog 235 = true := by kernel_rfl
theorem fn226 : fnB Tryz.prog 226 = true := by kernel_rfl
theorem z215 : zV Tryz.prog 215 = some [.nilmap] := by kernel_rfl
theorem fn225 : fnB Tryz.prog 225 = true := by kernel_rfl
theorem zc3 : (Tryz.prog.info? 3).bind (·.zero) = some (.int .i64 0) := by kernel_rfl
theorem ap25 : apB Tryz.prog 25 9 1 16 = true := by kernel_rfl
theorem ap45 : apB Tryz.prog 45 3 1 8 = true := by kernel_rfl
theorem fn237 : fnB Tryz.prog 237 = true := by kernel_rfl
theorem fn236 : fnB Tryz.prog 236 = true := by kernel_rfl
theorem fn227 : fnB Tryz.prog 227 = true := by kernel_rfl
theorem fn204 : fnB Tryz.prog 204 = true := by kernel_rfl
theorem fn203 : fnB Tryz.prog 203 = true := by kernel_rfl
theorem fn178 : fnB Tryz.prog 178 = true := by kernel_rfl
theorem fn141 : fnB Tryz.prog 141 = true := by kernel_rfl
theorem fn133 : fnB Tryz.prog 133 = true := by kernel_rfl
theorem fn140 : fnB Tryz.prog 140 = true := by kernel_rfl
theorem z25 : zV Tryz.prog 25 = some [.sl none 0 0] := by kernel_rfl
theorem fn98 : fnB Tryz.prog 98 = true := by kernel_rfl
theorem fn142 : fnB Tryz.prog 142 = true := by kernel_rfl
theorem fn184 : fnB Tryz.prog 184 = true := by kernel_rfl
theorem fn144 : fnB Tryz.prog 144 = true := by kernel_rfl
theorem fn100 : fnB Tryz.prog 100 = true := by kernel_rfl
theorem fn99 : fnB Tryz.prog 99 = true := by kernel_rfl
theorem pl58 : plV Tryz.prog 58 = some (fun i => [(0, 1), (1, 1)].toArray[i]?, [.str (⟨#[]⟩ : ByteArray), .str (⟨#[]⟩ : ByteArray)]) := by kernel_rfl
theorem el30 : elB Tryz.prog 30 58 2 = true := by kernel_rfl
theorem ap30 : apB Tryz.prog 30 58 2 32 = true := by kernel_rfl
theorem fn49 : fnB Tryz.prog 49 = true := by kernel_rfl
theorem fn48 : fnB Tryz.prog 48 = true := by kernel_rfl
theorem fn20 : fnB Tryz.prog 20 = true := by kernel_rfl
theorem el190 : elB Tryz.prog 190 4 1 = true := by kernel_rfl
theorem fn149 : fnB Tryz.prog 149 = true := by kernel_rfl
theorem ap190 : apB Tryz.prog 190 4 1 1 = true := by kernel_rfl
theorem fn103 : fnB Tryz.prog 103 = true := by kernel_rfl
theorem fn105 : fnB Tryz.prog 105 = true := by kernel_rfl
theorem ld64 : ldB Tryz.prog 64 3 true = true := by kernel_rfl
theorem fn188 : fnB Tryz.prog 188 = true := by kernel_rfl
theorem fn189 : fnB Tryz.prog 189 = true := by kernel_rfl
theorem z64 : zV Tryz.prog 64 = some [.str (⟨#[]⟩ : ByteArray), .sl none 0 0, .int .i64 (0 : Int)] := by kernel_rfl
theorem fn54 : fnB Tryz.prog 54 = true := by kernel_rfl
theorem fn150 : fnB Tryz.prog 150 = true := by kernel_rfl
theorem fn104 : fnB Tryz.prog 104 = true := by kernel_rfl
theorem fn53 : fnB Tryz.prog 53 = true := by kernel_rfl
theorem fn13 : fnB Tryz.prog 13 = true := by kernel_rfl
theorem ld58 : ldB Tryz.prog 58 2 true = true := by kernel_rfl
theorem fa58_0 : faB Tryz.prog 58 0 0 = true := by kernel_rfl
theorem fa58_1 : faB Tryz.prog 58 1 1 = true := by kernel_rfl
theorem z58 : zV Tryz.prog 58 = some [.str (⟨#[]⟩ : ByteArray), .str (⟨#[]⟩ : ByteArray)] := by kernel_rfl
theorem pl54 : plV Tryz.prog 54 = some (fun i => [(0, 1), (1, 1)].toArray[i]?, [.str (⟨#[]⟩ : ByteArray), .sl none 0 0]) := by kernel_rfl
theorem el34 : elB Tryz.prog 34 54 2 = true := by kernel_rfl
theorem ap34 : apB Tryz.prog 34 54 2 40 = true := by kernel_rfl
theorem fn51 : fnB Tryz.prog 51 = true := by kernel_rfl
theorem z23 : zV Tryz.prog 23 = some [.sl none 0 0] := by kernel_rfl
def shp58 : Shp := .st (.cons 0 1 false .str (.cons 1 1 false .str .nil))
theorem eq58 : (shB Tryz.prog shp58 58 && noif Tryz.prog 58 && Nat.ble shp58.ht 9998) = true := by kernel_rfl
theorem fn15 : fnB Tryz.prog 15 = true := by kernel_rfl
theorem fa54_0 : faB Tryz.prog 54 0 0 = true := by kernel_rfl
theorem fa54_1 : faB Tryz.prog 54 1 1 = true := by kernel_rfl
theorem ld30 : ldB Tryz.prog 30 1 false = true := by kernel_rfl
theorem fn18 : fnB Tryz.prog 18 = true := by kernel_rfl
theorem fn16 : fnB Tryz.prog 16 = true := by kernel_rfl
theorem fn12 : fnB Tryz.prog 12 = true := by kernel_rfl
theorem fn11 : fnB Tryz.prog 11 = true := by kernel_rfl
theorem fn55 : fnB Tryz.prog 55 = true := by kernel_rfl
theorem fn62 : fnB Tryz.prog 62 = true := by kernel_rfl
theorem fn116 : fnB Tryz.prog 116 = true := by kernel_rfl
theorem fn63 : fnB Tryz.prog 63 = true := by kernel_rfl
theorem fn214 : fnB Tryz.prog 214 = true := by kernel_rfl
theorem fn192 : fnB Tryz.prog 192 = true := by kernel_rfl
theorem fn230 : fnB Tryz.prog 230 = true := by kernel_rfl
theorem fn215 : fnB Tryz.prog 215 = true := by kernel_rfl
theorem fn211 : fnB Tryz.prog 211 = true := by kernel_rfl
theorem fn193 : fnB Tryz.prog 193 = true := by kernel_rfl
theorem fn186 : fnB Tryz.prog 186 = true := by kernel_rfl
theorem fn146 : fnB Tryz.prog 146 = true := by kernel_rfl
theorem fn194 : fnB Tryz.prog 194 = true := by kernel_rfl
theorem fn195 : fnB Tryz.prog 195 = true := by kernel_rfl
theorem fn147 : fnB Tryz.prog 147 = true := by kernel_rfl
theorem fn166 : fnB Tryz.prog 166 = true := by kernel_rfl
theorem fn165 : fnB Tryz.prog 165 = true := by kernel_rfl
theorem fn117 : fnB Tryz.prog 117 = true := by kernel_rfl
theorem fn197 : fnB Tryz.prog 197 = true := by kernel_rfl
theorem fn196 : fnB Tryz.prog 196 = true := by kernel_rfl
theorem fn167 : fnB Tryz.prog 167 = true := by kernel_rfl
theorem fn216 : fnB Tryz.prog 216 = true := by kernel_rfl
theorem fn198 : fnB Tryz.prog 198 = true := by kernel_rfl
theorem fn168 : fnB Tryz.prog 168 = true := by kernel_rfl
theorem fn118 : fnB Tryz.prog 118 = true := by kernel_rfl
theorem fn64 : fnB Tryz.prog 64 = true := by kernel_rfl
theorem fn185 : fnB Tryz.prog 185 = true := by kernel_rfl
theorem fn187 : fnB Tryz.prog 187 = true := by kernel_rfl
theorem fn148 : fnB Tryz.prog 148 = true := by kernel_rfl
theorem fn145 : fnB Tryz.prog 145 = true := by kernel_rfl
theorem fn102 : fnB Tryz.prog 102 = true := by kernel_rfl
theorem fn101 : fnB Tryz.prog 101 = true := by kernel_rfl
theorem fn50 : fnB Tryz.prog 50 = true := by kernel_rfl
theorem fn24 : fnB Tryz.prog 24 = true := by kernel_rfl
theorem fn21 : fnB Tryz.prog 21 = true := by kernel_rfl
theorem fn14 : fnB Tryz.prog 14 = true := by kernel_rfl
theorem fn25 : fnB Tryz.prog 25 = true := by kernel_rfl
theorem fn151 : fnB Tryz.prog 151 = true := by kernel_rfl
theorem fn106 : fnB Tryz.prog 106 = true := by kernel_rfl
theorem fn56 : fnB Tryz.prog 56 = true := by kernel_rfl
def shp41 : Shp := .st (.cons 0 1 false .int (.cons 1 1 false .int (.cons 2 1 false .int (.cons 3 1 false .int (.cons 4 1 false .int .nil)))))
theorem eq41 : (shB Tryz.prog shp41 41 && noif Tryz.prog 41 && Nat.ble shp41.ht 9998) = true := by kernel_rfl
def shp92 : Shp := .st (.cons 0 1 false .str (.cons 1 1 false .str .nil))
theorem eq92 : (shB Tryz.prog shp92 92 && noif Tryz.prog 92 && Nat.ble shp92.ht 9998) = true := by kernel_rfl
theorem fn107 : fnB Tryz.prog 107 = true := by kernel_rfl
def shp166 : Shp := .st (.cons 0 1 false .str (.cons 1 1 false .str (.cons 2 1 false .int .nil)))
theorem eq166 : (shB Tryz.prog shp166 166 && noif Tryz.prog 166 && Nat.ble shp166.ht 9998) = true := by kernel_rfl
theorem fn108 : fnB Tryz.prog 108 = true := by kernel_rfl
theorem fn58 : fnB Tryz.prog 58 = true := by kernel_rfl
theorem el193 : elB Tryz.prog 193 5 1 = true := by kernel_rfl
theorem ap193 : apB Tryz.prog 193 5 1 1 = true := by kernel_rfl
theorem fn154 : fnB Tryz.prog 154 = true := by kernel_rfl
theorem fn153 : fnB Tryz.prog 153 = true := by kernel_rfl
theorem fn152 : fnB Tryz.prog 152 = true := by kernel_rfl
theorem fn157 : fnB Tryz.prog 157 = true := by kernel_rfl
theorem fn155 : fnB Tryz.prog 155 = true := by kernel_rfl
theorem fn156 : fnB Tryz.prog 156 = true := by kernel_rfl
theorem fn158 : fnB Tryz.prog 158 = true := by kernel_rfl
theorem fn159 : fnB Tryz.prog 159 = true := by kernel_rfl
theorem fn160 : fnB Tryz.prog 160 = true := by kernel_rfl
theorem fn109 : fnB Tryz.prog 109 = true := by kernel_rfl
theorem fn59 : fnB Tryz.prog 59 = true := by kernel_rfl
theorem fn19 : fnB Tryz.prog 19 = true := by kernel_rfl
theorem fn17 : fnB Tryz.prog 17 = true := by kernel_rfl
theorem fn26 : fnB Tryz.prog 26 = true := by kernel_rfl
def tb : Tb := ⟨[(27, 0, 0), (27, 1, 1), (27, 2, 2), (27, 3, 3), (27, 4, 4), (27, 5, 5), (41, 0, 0), (41, 1, 1), (41, 2, 2), (41, 3, 3), (41, 4, 4), (47, 0, 0), (47, 1, 1), (47, 2, 6), (47, 3, 7), (47, 4, 8), (47, 5, 9), (47, 6, 10), (47, 7, 11), (47, 8, 12), (47, 9, 13), (47, 10, 14), (47, 11, 15), (47, 12, 16), (47, 13, 17), (47, 14, 18), (47, 15, 19), (49, 0, 0), (49, 1, 20), (54, 0, 0), (54, 1, 1), (58, 0, 0), (58, 1, 1), (61, 0, 0), (61, 1, 1), (61, 2, 2), (61, 3, 7), (61, 4, 8), (61, 5, 9), (64, 0, 0), (64, 1, 1), (64, 2, 2), (92, 0, 0), (92, 1, 1), (102, 0, 0), (102, 1, 1), (102, 2, 2), (142, 0, 0), (142, 1, 1), (142, 2, 2), (152, 0, 0), (152, 1, 1), (152, 2, 2), (166, 0, 0), (166, 1, 1), (166, 2, 2), (172, 0, 0), (172, 1, 1), (172, 2, 2), (172, 3, 3), (215, 0, 0)], [(3, 1, false), (4, 1, false), (9, 1, false), (22, 1, false), (23, 1, false), (24, 1, false), (25, 1, false), (27, 6, true), (30, 1, false), (41, 5, true), (42, 1, false), (43, 1, false), (44, 1, false), (45, 1, false), (47, 20, true), (49, 21, true), (55, 1, false), (58, 2, true), (59, 1, false), (61, 10, true), (64, 3, true), (92, 2, true), (142, 3, true), (166, 3, true), (172, 4, true), (183, 5, true), (212, 1, false), (215, 1, true)]⟩
theorem tbk : tb.ok Tryz.prog = true := by kernel_rfl
theorem Aa : type_of% @VR.ru := @VR.ru
theorem Ab : type_of% @VR.p := @VR.p
theorem Ac : type_of% @VR.nil := @VR.nil
theorem Ad : type_of% @VR.cons := @VR.cons
theorem Ae : type_of% @VW.seq := @VW.seq
theorem Af : type_of% @Shift.pk := @Shift.pk
theorem Ag : type_of% @VW.rr := @VW.rr
theorem Ah : type_of% @VW.sr := @VW.sr
theorem Ai : type_of% @VP.assign := @VP.assign
theorem Aj : type_of% @VW.skip := @VW.skip
theorem Ak : type_of% @VW.if_ := @VW.if_
theorem Al : type_of% @VP.move := @VP.move
theorem Am : type_of% @VO.cl := @VO.cl
theorem An : type_of% @VO.storeP := @VO.storeP
theorem Ao : type_of% @VA.one := @VA.one
theorem Aq : type_of% @VA.ru := @VA.ru
theorem Au : type_of% @VB.o := @VB.o
theorem Av : type_of% @VP.lenT := @VP.lenT
theorem Aw : type_of% @Shift.freezeE := @Shift.freezeE
theorem Ax : type_of% @VA.p := @VA.p
theorem Ay : type_of% @VW.block := @VW.block
theorem Az : type_of% @VP.glE := @VP.glE
theorem A0 : type_of% @VO.alloc := @VO.alloc
theorem A1 : type_of% @VW.exit := @VW.exit
theorem A2 : type_of% @VW.r1 := @VW.r1
theorem A3 : type_of% @VS.run := @VS.run
theorem A4 : type_of% @VP.arith := @VP.arith
theorem A5 : type_of% @VA.done := @VA.done
theorem A6 : type_of% @Tryz.underlying9 := @Tryz.underlying9
theorem A7 : type_of% @VR.consG := @VR.consG
theorem A8 : type_of% @VO.buildSlice := @VO.buildSlice
theorem A9 : type_of% @VW.drawK := @VW.drawK
theorem Ba : type_of% @VO.box := @VO.box
theorem Bb : type_of% @Shift.trans := @Shift.trans
theorem Bc : type_of% @Shift.nilRow := @Shift.nilRow
theorem Be : type_of% @VR.sm := @VR.sm
theorem Bf : type_of% @VP.pickB := @VP.pickB
theorem Bg : type_of% @VR.pG := @VR.pG
theorem Bh : type_of% @VR.shift := @VR.shift
theorem Bi : type_of% @VP.loadE := @VP.loadE
theorem Bk : type_of% @Tryz.underlying23 := @Tryz.underlying23
theorem Bl : type_of% @VW.bf := @VW.bf
theorem Bm : type_of% @Shift.pick := @Shift.pick
theorem Bn : type_of% @VW.jo' := @VW.jo'
theorem Bo : type_of% @Tryz.underlying25 := @Tryz.underlying25
theorem Bp : type_of% @VP.catT := @VP.catT
theorem Bq : type_of% @VW.region := @VW.region
theorem Br : type_of% @Tryz.underlying42 := @Tryz.underlying42
theorem Bt : type_of% @VP.buildP := @VP.buildP
theorem Bu : type_of% @Tryz.underlying22 := @Tryz.underlying22
theorem Bv : type_of% @Tryz.underlying55 := @Tryz.underlying55
theorem Bw : type_of% @VW.js' := @VW.js'
theorem Bx : type_of% @VR.gand := @VR.gand
theorem Bz : type_of% @VO.cl2 := @VO.cl2
theorem B0 : type_of% @VW.condT := @VW.condT
theorem B1 : type_of% @Tryz.underlying59 := @Tryz.underlying59
theorem B2 : type_of% @Tryz.underlying34 := @Tryz.underlying34
theorem B3 : type_of% @VO.apT := @VO.apT
theorem B4 : type_of% @VA.all := @VA.all
theorem B5 : type_of% @VW.condF := @VW.condF
theorem B6 : type_of% @Tryz.underlying5 := @Tryz.underlying5
theorem B7 : type_of% @VW.lenM := @VW.lenM
theorem B8 : type_of% @VW.shift := @VW.shift
theorem B9 : type_of% @VP.fieldR := @VP.fieldR
theorem Ca : type_of% @Tryz.underlying3 := @Tryz.underlying3
theorem Cb : type_of% @VP.lenS := @VP.lenS
theorem Cc : type_of% @VA.shift := @VA.shift
theorem Cd : type_of% @VP.loadR := @VP.loadR
theorem Ce : type_of% @VA.pG := @VA.pG
theorem Cf : type_of% @VP.glR := @VP.glR
theorem Cg : type_of% @Shift.reSl := @Shift.reSl
theorem Ch : type_of% @VP.glK := @VP.glK
theorem Ci : type_of% @Shift.mem := @Shift.mem
theorem Cj : type_of% @Tryz.underlying30 := @Tryz.underlying30
theorem Ck : type_of% @Tryz.underlying45 := @Tryz.underlying45
theorem Cl : type_of% @VS2.run := @VS2.run
theorem Cm : type_of% @Tryz.underlying43 := @Tryz.underlying43
theorem Cn : type_of% @VW.be := @VW.be
theorem Co : type_of% @VP.not := @VP.not
theorem Cp : type_of% @VR.gor := @VR.gor
theorem Cq : type_of% @VP.indexA := @VP.indexA
theorem Cr : type_of% @VA.sm := @VA.sm
theorem Cs : type_of% @Tryz.underlying24 := @Tryz.underlying24
theorem Ct : type_of% @Tryz.underlying44 := @Tryz.underlying44
theorem Cu : type_of% @VP.lenRT := @VP.lenRT
theorem Cv : type_of% @VB.oG := @VB.oG
theorem Cw : type_of% @Tryz.underlying149 := @Tryz.underlying149
theorem Cx : type_of% @VR.someRow := @VR.someRow
theorem Cy : type_of% @VP.convI := @VP.convI
theorem Cz : type_of% @VR.so := @VR.so
theorem C0 : type_of% @VP.gi := @VP.gi
theorem C1 : type_of% @Tryz.underlying212 := @Tryz.underlying212
theorem C2 : type_of% @VA.someRow := @VA.someRow
theorem C3 : type_of% @VP.makeFunc := @VP.makeFunc
theorem C4 : type_of% @VO.ce := @VO.ce
theorem C5 : type_of% @VP.lookup := @VP.lookup
theorem C6 : type_of% @VP.loadP := @VP.loadP
theorem C7 : type_of% @VO.storeRT := @VO.storeRT
theorem C8 : type_of% @VR.sa := @VR.sa
theorem C9 : type_of% @VP.max2 := @VP.max2
theorem Da : type_of% @VP.vo := @VP.vo
theorem Db : type_of% @VW.js := @VW.js
theorem Dc : type_of% @VO.callK := @VO.callK
theorem Dd : type_of% @VP.loadA := @VP.loadA
theorem De : type_of% @VP.quoT := @VP.quoT
theorem Df : type_of% @VA.sa := @VA.sa
theorem Dg : type_of% @Tryz.func209 := @Tryz.func209
theorem Dh : type_of% @VO.mapUpdate := @VO.mapUpdate
theorem Di : type_of% @VP.min2 := @VP.min2
theorem Dj : type_of% @Tryz.func96 := @Tryz.func96
theorem Dk : type_of% @VP.eqS := @VP.eqS
theorem Dl : type_of% @VO.makeMap := @VO.makeMap
end Go.Proofs.YtmpkpnclmihdnaaGreat.M

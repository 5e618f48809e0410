/-
  Printed by a program of this session out of the loaded functions: models and their proofs. Own text.
-/
import Derived.Test.YtmpkpnclmihdnaaGreatVDefer
import Derived.Test.YtmpkpnclmihdnaaGreatProg
import Derived.KernelRfl
namespace Go.Proofs.YtmpkpnclmihdnaaGreat.M
open Go Go.Proofs Go.Proofs.YtmpkpnclmihdnaaGreat.V
open Go.IntKind (i64)
set_option linter.unusedVariables false
set_option maxRecDepth 20000
set_option maxHeartbeats 4000000
structure T_api_Res where
  Cpu : Int
  Mem : Int
  Disk : Int
  Pods : Int
  Dev : Int
  deriving DecidableEq
def T_api_Res.cells (x : T_api_Res) : List VV := [.int .i64 x.Cpu, .int .i64 x.Mem, .int .i64 x.Disk, .int .i64 x.Pods, .int .i64 x.Dev]
def T_api_Res.vv (x : T_api_Res) : VV := .agg x.cells

structure T_api_Label where
  Key : ByteArray
  Val : ByteArray
  deriving DecidableEq
def T_api_Label.cells (x : T_api_Label) : List VV := [.str x.Key, .str x.Val]
def T_api_Label.vv (x : T_api_Label) : VV := .agg x.cells

structure T_api_Taint where
  Key : ByteArray
  Val : ByteArray
  Effect : Int
  deriving DecidableEq
def T_api_Taint.cells (x : T_api_Taint) : List VV := [.str x.Key, .str x.Val, .int .i64 x.Effect]
def T_api_Taint.vv (x : T_api_Taint) : VV := .agg x.cells

structure T_api_Machine where
  Name : ByteArray
  Group : ByteArray
  Has : T_api_Res
  Labels : List T_api_Label
  Taints : List T_api_Taint
  Ready : Bool
  deriving DecidableEq
def T_api_Machine.cells (x : T_api_Machine) : List VV := [.str x.Name, .str x.Group, .int .i64 x.Has.Cpu, .int .i64 x.Has.Mem, .int .i64 x.Has.Disk, .int .i64 x.Has.Pods, .int .i64 x.Has.Dev, .list 92 (List.map T_api_Label.vv x.Labels), .list 166 (List.map T_api_Taint.vv x.Taints), .bool x.Ready]
def T_api_Machine.vv (x : T_api_Machine) : VV := .agg x.cells

structure T_api_Term where
  Key : ByteArray
  Op : Int
  Vals : List ByteArray
  deriving DecidableEq
def T_api_Term.cells (x : T_api_Term) : List VV := [.str x.Key, .int .i64 x.Op, .list 9 (List.map VV.str x.Vals)]
def T_api_Term.vv (x : T_api_Term) : VV := .agg x.cells

structure T_api_Toleration where
  Key : ByteArray
  Val : ByteArray
  Any : Bool
  Effect : Int
  deriving DecidableEq
def T_api_Toleration.cells (x : T_api_Toleration) : List VV := [.str x.Key, .str x.Val, .bool x.Any, .int .i64 x.Effect]
def T_api_Toleration.vv (x : T_api_Toleration) : VV := .agg x.cells

structure T_api_Pod where
  Name : ByteArray
  Need : T_api_Res
  Labels : List T_api_Label
  Select : List T_api_Label
  Terms : List T_api_Term
  Bears : List T_api_Toleration
  Ports : List Int
  Apart : List T_api_Label
  Wide : Bool
  Spread : List T_api_Label
  Skew : Int
  Rank : Int
  Owner : ByteArray
  Daemon : Bool
  Pinned : Bool
  Local : Bool
  deriving DecidableEq
def T_api_Pod.cells (x : T_api_Pod) : List VV := [.str x.Name, .int .i64 x.Need.Cpu, .int .i64 x.Need.Mem, .int .i64 x.Need.Disk, .int .i64 x.Need.Pods, .int .i64 x.Need.Dev, .list 92 (List.map T_api_Label.vv x.Labels), .list 92 (List.map T_api_Label.vv x.Select), .list 142 (List.map T_api_Term.vv x.Terms), .list 172 (List.map T_api_Toleration.vv x.Bears), .list 3 (List.map (VV.int .i64) x.Ports), .list 92 (List.map T_api_Label.vv x.Apart), .bool x.Wide, .list 92 (List.map T_api_Label.vv x.Spread), .int .i64 x.Skew, .int .i64 x.Rank, .str x.Owner, .bool x.Daemon, .bool x.Pinned, .bool x.Local]
def T_api_Pod.vv (x : T_api_Pod) : VV := .agg x.cells

structure T_api_Bound where
  Pod : T_api_Pod
  On : ByteArray
  deriving DecidableEq
def T_api_Bound.cells (x : T_api_Bound) : List VV := [.str x.Pod.Name, .int .i64 x.Pod.Need.Cpu, .int .i64 x.Pod.Need.Mem, .int .i64 x.Pod.Need.Disk, .int .i64 x.Pod.Need.Pods, .int .i64 x.Pod.Need.Dev, .list 92 (List.map T_api_Label.vv x.Pod.Labels), .list 92 (List.map T_api_Label.vv x.Pod.Select), .list 142 (List.map T_api_Term.vv x.Pod.Terms), .list 172 (List.map T_api_Toleration.vv x.Pod.Bears), .list 3 (List.map (VV.int .i64) x.Pod.Ports), .list 92 (List.map T_api_Label.vv x.Pod.Apart), .bool x.Pod.Wide, .list 92 (List.map T_api_Label.vv x.Pod.Spread), .int .i64 x.Pod.Skew, .int .i64 x.Pod.Rank, .str x.Pod.Owner, .bool x.Pod.Daemon, .bool x.Pod.Pinned, .bool x.Pod.Local, .str x.On]
def T_api_Bound.vv (x : T_api_Bound) : VV := .agg x.cells

structure T_law13_Op where
  Kind : Int
  M : T_api_Machine
  P_ : T_api_Pod
  Name : ByteArray
  deriving DecidableEq
def T_law13_Op.cells (x : T_law13_Op) : List VV := [.int .i64 x.Kind, .str x.M.Name, .str x.M.Group, .int .i64 x.M.Has.Cpu, .int .i64 x.M.Has.Mem, .int .i64 x.M.Has.Disk, .int .i64 x.M.Has.Pods, .int .i64 x.M.Has.Dev, .list 92 (List.map T_api_Label.vv x.M.Labels), .list 166 (List.map T_api_Taint.vv x.M.Taints), .bool x.M.Ready, .str x.P_.Name, .int .i64 x.P_.Need.Cpu, .int .i64 x.P_.Need.Mem, .int .i64 x.P_.Need.Disk, .int .i64 x.P_.Need.Pods, .int .i64 x.P_.Need.Dev, .list 92 (List.map T_api_Label.vv x.P_.Labels), .list 92 (List.map T_api_Label.vv x.P_.Select), .list 142 (List.map T_api_Term.vv x.P_.Terms), .list 172 (List.map T_api_Toleration.vv x.P_.Bears), .list 3 (List.map (VV.int .i64) x.P_.Ports), .list 92 (List.map T_api_Label.vv x.P_.Apart), .bool x.P_.Wide, .list 92 (List.map T_api_Label.vv x.P_.Spread), .int .i64 x.P_.Skew, .int .i64 x.P_.Rank, .str x.P_.Owner, .bool x.P_.Daemon, .bool x.P_.Pinned, .bool x.P_.Local, .str x.Name]
def T_law13_Op.vv (x : T_law13_Op) : VV := .agg x.cells

structure Arr5_Int where
  x0 : Int
  x1 : Int
  x2 : Int
  x3 : Int
  x4 : Int
  deriving DecidableEq
def Arr5_Int.cells (x : Arr5_Int) : List VV := [.int .i64 x.x0, .int .i64 x.x1, .int .i64 x.x2, .int .i64 x.x3, .int .i64 x.x4]
def Arr5_Int.vv (x : Arr5_Int) : VV := .agg x.cells
def Arr5_Int.l (x : Arr5_Int) : List Int := [x.x0, x.x1, x.x2, x.x3, x.x4]
def Arr5_Int.put (x : Arr5_Int) (n : Int) (v : Int) : Option Arr5_Int :=
  if n = 0 then some ⟨v, x.x1, x.x2, x.x3, x.x4⟩ else
  if n = 1 then some ⟨x.x0, v, x.x2, x.x3, x.x4⟩ else
  if n = 2 then some ⟨x.x0, x.x1, v, x.x3, x.x4⟩ else
  if n = 3 then some ⟨x.x0, x.x1, x.x2, v, x.x4⟩ else
  if n = 4 then some ⟨x.x0, x.x1, x.x2, x.x3, v⟩ else
  none
theorem Arr5_Int.put_some {x y : Arr5_Int} {n : Int} {v : Int} (h : Arr5_Int.put x n v = some y) : (0 ≤ n ∧ n < ((Arr5_Int.l x).length : Int)) ∧ y.cells = ((Arr5_Int.l x).set n.toNat v).map (VV.int .i64) := by
  unfold Arr5_Int.put at h
  split at h
  · rename_i hn; subst hn; cases h; exact ⟨⟨by decide, by show (0 : Int) < 5; decide⟩, rfl⟩
  split at h
  · rename_i hn; subst hn; cases h; exact ⟨⟨by decide, by show (1 : Int) < 5; decide⟩, rfl⟩
  split at h
  · rename_i hn; subst hn; cases h; exact ⟨⟨by decide, by show (2 : Int) < 5; decide⟩, rfl⟩
  split at h
  · rename_i hn; subst hn; cases h; exact ⟨⟨by decide, by show (3 : Int) < 5; decide⟩, rfl⟩
  split at h
  · rename_i hn; subst hn; cases h; exact ⟨⟨by decide, by show (4 : Int) < 5; decide⟩, rfl⟩
  cases h

structure T_snap_state where
  ms : List T_api_Machine
  bs : List T_api_Bound
  deriving DecidableEq
def T_snap_state.cells (x : T_snap_state) : List VV := [.list 61 (List.map T_api_Machine.vv x.ms), .list 49 (List.map T_api_Bound.vv x.bs)]
def T_snap_state.vv (x : T_snap_state) : VV := .agg x.cells

def T_snap_state.er (x : T_snap_state) : VV := .eref 119 (T_snap_state.cells x)
def T_snap_state.pf : Option T_snap_state → VV
  | none => .nilptr
  | some x => T_snap_state.er x
theorem T_snap_state.pf_nil (o : Option T_snap_state) : nilB (T_snap_state.pf o) = some o.isNone := by cases o <;> rfl
theorem T_snap_state.pf_one (o : Option T_snap_state) : (T_snap_state.pf o).told = true ∧ (T_snap_state.pf o).cells = [T_snap_state.pf o] := by cases o <;> exact ⟨rfl, rfl⟩

structure T_snap_Snap where
  now : Option T_snap_state
  kept : List T_snap_state
  tried : Int
  deriving DecidableEq
def T_snap_Snap.cells (x : T_snap_Snap) : List VV := [T_snap_state.pf x.now, .list 93 (List.map T_snap_state.er x.kept), .int .i64 x.tried]
def T_snap_Snap.vv (x : T_snap_Snap) : VV := .agg x.cells

structure T_fit_asker where
  ms : List T_api_Machine
  bs : List T_api_Bound
  p : T_api_Pod
  deriving DecidableEq
def T_fit_asker.cells (x : T_fit_asker) : List VV := [.list 61 (List.map T_api_Machine.vv x.ms), .list 49 (List.map T_api_Bound.vv x.bs), .str x.p.Name, .int .i64 x.p.Need.Cpu, .int .i64 x.p.Need.Mem, .int .i64 x.p.Need.Disk, .int .i64 x.p.Need.Pods, .int .i64 x.p.Need.Dev, .list 92 (List.map T_api_Label.vv x.p.Labels), .list 92 (List.map T_api_Label.vv x.p.Select), .list 142 (List.map T_api_Term.vv x.p.Terms), .list 172 (List.map T_api_Toleration.vv x.p.Bears), .list 3 (List.map (VV.int .i64) x.p.Ports), .list 92 (List.map T_api_Label.vv x.p.Apart), .bool x.p.Wide, .list 92 (List.map T_api_Label.vv x.p.Spread), .int .i64 x.p.Skew, .int .i64 x.p.Rank, .str x.p.Owner, .bool x.p.Daemon, .bool x.p.Pinned, .bool x.p.Local]
def T_fit_asker.vv (x : T_fit_asker) : VV := .agg x.cells

structure T_apart_place where
  zones : List (ByteArray × ByteArray)

structure T_ref13_Yard where
  Ms : List T_api_Machine
  Bs : List T_api_Bound
  deriving DecidableEq
def T_ref13_Yard.cells (x : T_ref13_Yard) : List VV := [.list 61 (List.map T_api_Machine.vv x.Ms), .list 49 (List.map T_api_Bound.vv x.Bs)]
def T_ref13_Yard.vv (x : T_ref13_Yard) : VV := .agg x.cells

structure T_ref13_Snap where
  Y : T_ref13_Yard
  Kept : List T_ref13_Yard
  deriving DecidableEq
def T_ref13_Snap.cells (x : T_ref13_Snap) : List VV := [.list 61 (List.map T_api_Machine.vv x.Y.Ms), .list 49 (List.map T_api_Bound.vv x.Y.Bs), .list 79 (List.map T_ref13_Yard.vv x.Kept)]
def T_ref13_Snap.vv (x : T_ref13_Snap) : VV := .agg x.cells

abbrev L92 (l : List T_api_Label) : VV := .list 92 (List.map T_api_Label.vv l)
abbrev L172 (l : List T_api_Toleration) : VV := .list 172 (List.map T_api_Toleration.vv l)
abbrev L166 (l : List T_api_Taint) : VV := .list 166 (List.map T_api_Taint.vv l)
abbrev L61 (l : List T_api_Machine) : VV := .list 61 (List.map T_api_Machine.vv l)
abbrev L49 (l : List T_api_Bound) : VV := .list 49 (List.map T_api_Bound.vv l)
abbrev X142 (b : Nat) (x : T_api_Term) : HE := .box b 142 (T_api_Term.cells x)
abbrev X47 (b : Nat) (x : T_api_Pod) : HE := .box b 47 (T_api_Pod.cells x)
abbrev X166 (b : Nat) (x : T_api_Taint) : HE := .box b 166 (T_api_Taint.cells x)
abbrev L9 (l : List ByteArray) : VV := .list 9 (List.map VV.str l)
abbrev L142 (l : List T_api_Term) : VV := .list 142 (List.map T_api_Term.vv l)
abbrev L3 (l : List Int) : VV := .list 3 (List.map (VV.int .i64) l)
abbrev L42 (l : List (List T_api_Label)) : VV := .list 42 (List.map (fun (q : List T_api_Label) => VV.list 92 (List.map T_api_Label.vv q)) l)
abbrev Z166 (ob : Option Nat) (l : List T_api_Taint) (cap : Nat) : VV := .sl ob (List.map T_api_Taint.vv l).length cap
abbrev Q166 (ob : Option Nat) (cap : Nat) (l : List T_api_Taint) : HE := .row ob 166 cap (List.map T_api_Taint.vv l)
abbrev X61 (b : Nat) (x : T_api_Machine) : HE := .box b 61 (T_api_Machine.cells x)
abbrev Z61 (ob : Option Nat) (l : List T_api_Machine) (cap : Nat) : VV := .sl ob (List.map T_api_Machine.vv l).length cap
abbrev Q61 (ob : Option Nat) (cap : Nat) (l : List T_api_Machine) : HE := .row ob 61 cap (List.map T_api_Machine.vv l)
abbrev Q3 (ob : Option Nat) (cap : Nat) (l : List Int) : HE := .row ob 3 cap (List.map (VV.int .i64) l)
abbrev Q172 (ob : Option Nat) (cap : Nat) (l : List T_api_Toleration) : HE := .row ob 172 cap (List.map T_api_Toleration.vv l)
abbrev Q92 (ob : Option Nat) (cap : Nat) (l : List T_api_Label) : HE := .row ob 92 cap (List.map T_api_Label.vv l)
abbrev Z92 (ob : Option Nat) (l : List T_api_Label) (cap : Nat) : VV := .sl ob (List.map T_api_Label.vv l).length cap
abbrev Z172 (ob : Option Nat) (l : List T_api_Toleration) (cap : Nat) : VV := .sl ob (List.map T_api_Toleration.vv l).length cap
abbrev Z3 (ob : Option Nat) (l : List Int) (cap : Nat) : VV := .sl ob (List.map (VV.int .i64) l).length cap
abbrev Q142 (ob : Option Nat) (cap : Nat) (l : List T_api_Term) : HE := .row ob 142 cap (List.map T_api_Term.vv l)
abbrev Z142 (ob : Option Nat) (l : List T_api_Term) (cap : Nat) : VV := .sl ob (List.map T_api_Term.vv l).length cap
abbrev Z49 (ob : Option Nat) (l : List T_api_Bound) (cap : Nat) : VV := .sl ob (List.map T_api_Bound.vv l).length cap
abbrev Q49 (ob : Option Nat) (cap : Nat) (l : List T_api_Bound) : HE := .row ob 49 cap (List.map T_api_Bound.vv l)
abbrev Z93 (ob : Option Nat) (l : List T_snap_state) (cap : Nat) : VV := .sl ob (List.map T_snap_state.er l).length cap
abbrev Q93 (ob : Option Nat) (cap : Nat) (l : List T_snap_state) : HE := .row ob 93 cap (List.map T_snap_state.er l)
abbrev X119 (b : Nat) (x : T_snap_state) : HE := .box b 119 (T_snap_state.cells x)
abbrev Z47 (ob : Option Nat) (l : List T_api_Pod) (cap : Nat) : VV := .sl ob (List.map T_api_Pod.vv l).length cap
abbrev Q47 (ob : Option Nat) (cap : Nat) (l : List T_api_Pod) : HE := .row ob 47 cap (List.map T_api_Pod.vv l)
abbrev L47 (l : List T_api_Pod) : VV := .list 47 (List.map T_api_Pod.vv l)
abbrev X183 (b : Nat) (x : Arr5_Int) : HE := .box b 183 (Arr5_Int.cells x)
abbrev X41 (b : Nat) (x : T_api_Res) : HE := .box b 41 (T_api_Res.cells x)
abbrev Z9 (ob : Option Nat) (l : List ByteArray) (cap : Nat) : VV := .sl ob (List.map VV.str l).length cap
abbrev Q9 (ob : Option Nat) (cap : Nat) (l : List ByteArray) : HE := .row ob 9 cap (List.map VV.str l)
abbrev Z79 (ob : Option Nat) (l : List T_ref13_Yard) (cap : Nat) : VV := .sl ob (List.map T_ref13_Yard.vv l).length cap
abbrev Q79 (ob : Option Nat) (cap : Nat) (l : List T_ref13_Yard) : HE := .row ob 79 cap (List.map T_ref13_Yard.vv l)
abbrev L5 (l : List Int) : VV := .list 5 (List.map (VV.int .u8) l)
abbrev L75 (l : List T_law13_Op) : VV := .list 75 (List.map T_law13_Op.vv l)
abbrev L50 (l : List Int) : VV := .list 50 (List.map (VV.int .i64) l)
theorem el22 : elB Tryz.prog 22 61 10 = true := by kernel_rfl
theorem ld61 : ldB Tryz.prog 61 10 true = true := by kernel_rfl
theorem ld9 : ldB Tryz.prog 9 1 false = true := by kernel_rfl
theorem fa61_3 : faB Tryz.prog 61 3 7 = true := by kernel_rfl
theorem ld42 : ldB Tryz.prog 42 1 false = true := by kernel_rfl
theorem el42 : elB Tryz.prog 42 92 2 = true := by kernel_rfl
theorem fn93 : fnB Tryz.prog 93 = true := by kernel_rfl
theorem fa61_4 : faB Tryz.prog 61 4 8 = true := by kernel_rfl
theorem ld59 : ldB Tryz.prog 59 1 false = true := by kernel_rfl
theorem el44 : elB Tryz.prog 44 172 4 = true := by kernel_rfl
theorem el59 : elB Tryz.prog 59 166 3 = true := by kernel_rfl
theorem fa166_1 : faB Tryz.prog 166 1 1 = true := by kernel_rfl
theorem fn119 : fnB Tryz.prog 119 = true := by kernel_rfl
theorem fn65 : fnB Tryz.prog 65 = true := by kernel_rfl
theorem el23 : elB Tryz.prog 23 49 21 = true := by kernel_rfl
theorem ld47 : ldB Tryz.prog 47 20 true = true := by kernel_rfl
theorem ld43 : ldB Tryz.prog 43 1 false = true := by kernel_rfl
theorem fa47_6 : faB Tryz.prog 47 6 10 = true := by kernel_rfl
theorem ld45 : ldB Tryz.prog 45 1 false = true := by kernel_rfl
theorem fa47_2 : faB Tryz.prog 47 2 6 = true := by kernel_rfl
theorem fa47_3 : faB Tryz.prog 47 3 7 = true := by kernel_rfl
theorem fa47_7 : faB Tryz.prog 47 7 11 = true := by kernel_rfl
theorem fa47_9 : faB Tryz.prog 47 9 13 = true := by kernel_rfl
theorem fa47_5 : faB Tryz.prog 47 5 9 = true := by kernel_rfl
theorem ld44 : ldB Tryz.prog 44 1 false = true := by kernel_rfl
theorem el43 : elB Tryz.prog 43 142 3 = true := by kernel_rfl
theorem ld142 : ldB Tryz.prog 142 3 true = true := by kernel_rfl
theorem fa142_2 : faB Tryz.prog 142 2 2 = true := by kernel_rfl
theorem ld25 : ldB Tryz.prog 25 1 false = true := by kernel_rfl
theorem el25 : elB Tryz.prog 25 9 1 = true := by kernel_rfl
theorem fn120 : fnB Tryz.prog 120 = true := by kernel_rfl
theorem fn66 : fnB Tryz.prog 66 = true := by kernel_rfl
theorem ld22 : ldB Tryz.prog 22 1 false = true := by kernel_rfl
theorem ld23 : ldB Tryz.prog 23 1 false = true := by kernel_rfl
theorem fn200 : fnB Tryz.prog 200 = true := by kernel_rfl
theorem fn172 : fnB Tryz.prog 172 = true := by kernel_rfl
theorem fn173 : fnB Tryz.prog 173 = true := by kernel_rfl
theorem fn171 : fnB Tryz.prog 171 = true := by kernel_rfl
theorem fn128 : fnB Tryz.prog 128 = true := by kernel_rfl
theorem fn129 : fnB Tryz.prog 129 = true := by kernel_rfl
theorem ld41 : ldB Tryz.prog 41 5 true = true := by kernel_rfl
theorem ld3 : ldB Tryz.prog 3 1 false = true := by kernel_rfl
theorem pl183 : plV Tryz.prog 183 = some (fun i => some (i * 1, 1), [.int .i64 (0 : Int), .int .i64 (0 : Int), .int .i64 (0 : Int), .int .i64 (0 : Int), .int .i64 (0 : Int)]) := by kernel_rfl
theorem ld183 : ldB Tryz.prog 183 5 true = true := by kernel_rfl
theorem z183 : zV Tryz.prog 183 = some [.int .i64 (0 : Int), .int .i64 (0 : Int), .int .i64 (0 : Int), .int .i64 (0 : Int), .int .i64 (0 : Int)] := by kernel_rfl
theorem ar183 : arB Tryz.prog 183 3 5 1 = true := by kernel_rfl
theorem fn174 : fnB Tryz.prog 174 = true := by kernel_rfl
theorem fn130 : fnB Tryz.prog 130 = true := by kernel_rfl
theorem ld92 : ldB Tryz.prog 92 2 true = true := by kernel_rfl
theorem zc3 : (Tryz.prog.info? 3).bind (·.zero) = some (.int .i64 0) := by kernel_rfl
theorem mk9 : KeyOk Tryz.prog 9 VV.str Value.string TypeDesc.string := KeyOk.str Tryz.underlying9
theorem fn169 : fnB Tryz.prog 169 = true := by kernel_rfl
theorem mixed : Tryz.prog.follows .mixedOrders = true := by kernel_rfl
theorem z92 : zV Tryz.prog 92 = some [.str (⟨#[]⟩ : ByteArray), .str (⟨#[]⟩ : ByteArray)] := by kernel_rfl
theorem fn127 : fnB Tryz.prog 127 = true := by kernel_rfl
theorem ld166 : ldB Tryz.prog 166 3 true = true := by kernel_rfl
theorem fn175 : fnB Tryz.prog 175 = true := by kernel_rfl
theorem fn176 : fnB Tryz.prog 176 = true := by kernel_rfl
theorem z166 : zV Tryz.prog 166 = some [.str (⟨#[]⟩ : ByteArray), .str (⟨#[]⟩ : ByteArray), .int .i64 (0 : Int)] := by kernel_rfl
def shp166 : Shp := .st (.cons 0 1 false .str (.cons 1 1 false .str (.cons 2 1 false .int .nil)))
theorem eq166 : (shB Tryz.prog shp166 166 && noif Tryz.prog 166 && Nat.ble shp166.ht 9998) = true := by kernel_rfl
theorem fn179 : fnB Tryz.prog 179 = true := by kernel_rfl
theorem fn135 : fnB Tryz.prog 135 = true := by kernel_rfl
theorem fn82 : fnB Tryz.prog 82 = true := by kernel_rfl
theorem fn122 : fnB Tryz.prog 122 = true := by kernel_rfl
theorem fn96 : fnB Tryz.prog 96 = true := by kernel_rfl
theorem fn217 : fnB Tryz.prog 217 = true := by kernel_rfl
theorem fn218 : fnB Tryz.prog 218 = true := by kernel_rfl
theorem fn199 : fnB Tryz.prog 199 = true := by kernel_rfl
theorem fn170 : fnB Tryz.prog 170 = true := by kernel_rfl
theorem fn126 : fnB Tryz.prog 126 = true := by kernel_rfl
theorem z142 : zV Tryz.prog 142 = some [.str (⟨#[]⟩ : ByteArray), .int .i64 (0 : Int), .sl none 0 0] := by kernel_rfl
theorem el45 : elB Tryz.prog 45 3 1 = true := by kernel_rfl
theorem el150 : elB Tryz.prog 150 42 1 = true := by kernel_rfl
theorem ap150 : apB Tryz.prog 150 42 1 24 = true := by kernel_rfl
theorem fn131 : fnB Tryz.prog 131 = true := by kernel_rfl
theorem ld172 : ldB Tryz.prog 172 4 true = true := by kernel_rfl
theorem z172 : zV Tryz.prog 172 = some [.str (⟨#[]⟩ : ByteArray), .str (⟨#[]⟩ : ByteArray), .bool false, .int .i64 (0 : Int)] := by kernel_rfl
theorem fn132 : fnB Tryz.prog 132 = true := by kernel_rfl
theorem fn78 : fnB Tryz.prog 78 = true := by kernel_rfl
theorem fn123 : fnB Tryz.prog 123 = true := by kernel_rfl
theorem fn121 : fnB Tryz.prog 121 = true := by kernel_rfl
theorem ld149 : ldB Tryz.prog 149 1 false = true := by kernel_rfl
theorem z61 : zV Tryz.prog 61 = some [.str (⟨#[]⟩ : ByteArray), .str (⟨#[]⟩ : ByteArray), .int .i64 (0 : Int), .int .i64 (0 : Int), .int .i64 (0 : Int), .int .i64 (0 : Int), .int .i64 (0 : Int), .sl none 0 0, .sl none 0 0, .bool false] := by kernel_rfl
theorem ld49 : ldB Tryz.prog 49 21 true = true := by kernel_rfl
theorem z49 : zV Tryz.prog 49 = some [.str (⟨#[]⟩ : ByteArray), .int .i64 (0 : Int), .int .i64 (0 : Int), .int .i64 (0 : Int), .int .i64 (0 : Int), .int .i64 (0 : Int), .sl none 0 0, .sl none 0 0, .sl none 0 0, .sl none 0 0, .sl none 0 0, .sl none 0 0, .bool false, .sl none 0 0, .int .i64 (0 : Int), .int .i64 (0 : Int), .str (⟨#[]⟩ : ByteArray), .bool false, .bool false, .bool false, .str (⟨#[]⟩ : ByteArray)] := by kernel_rfl
theorem fn124 : fnB Tryz.prog 124 = true := by kernel_rfl
theorem z149 : zV Tryz.prog 149 = some [.nilmap] := by kernel_rfl
theorem fn67 : fnB Tryz.prog 67 = true := by kernel_rfl
theorem ap59 : apB Tryz.prog 59 166 3 40 = true := by kernel_rfl
theorem ap42 : apB Tryz.prog 42 92 2 32 = true := by kernel_rfl
theorem ap22 : apB Tryz.prog 22 61 10 128 = true := by kernel_rfl
theorem fn83 : fnB Tryz.prog 83 = true := by kernel_rfl
theorem ap43 : apB Tryz.prog 43 142 3 48 = true := by kernel_rfl
theorem ap25 : apB Tryz.prog 25 9 1 16 = true := by kernel_rfl
theorem ap45 : apB Tryz.prog 45 3 1 8 = true := by kernel_rfl
theorem ap44 : apB Tryz.prog 44 172 4 48 = true := by kernel_rfl
theorem z47 : zV Tryz.prog 47 = some [.str (⟨#[]⟩ : ByteArray), .int .i64 (0 : Int), .int .i64 (0 : Int), .int .i64 (0 : Int), .int .i64 (0 : Int), .int .i64 (0 : Int), .sl none 0 0, .sl none 0 0, .sl none 0 0, .sl none 0 0, .sl none 0 0, .sl none 0 0, .bool false, .sl none 0 0, .int .i64 (0 : Int), .int .i64 (0 : Int), .str (⟨#[]⟩ : ByteArray), .bool false, .bool false, .bool false] := by kernel_rfl
theorem pl49 : plV Tryz.prog 49 = some (fun i => [(0, 20), (20, 1)].toArray[i]?, [.str (⟨#[]⟩ : ByteArray), .int .i64 (0 : Int), .int .i64 (0 : Int), .int .i64 (0 : Int), .int .i64 (0 : Int), .int .i64 (0 : Int), .sl none 0 0, .sl none 0 0, .sl none 0 0, .sl none 0 0, .sl none 0 0, .sl none 0 0, .bool false, .sl none 0 0, .int .i64 (0 : Int), .int .i64 (0 : Int), .str (⟨#[]⟩ : ByteArray), .bool false, .bool false, .bool false, .str (⟨#[]⟩ : ByteArray)]) := by kernel_rfl
theorem ap23 : apB Tryz.prog 23 49 21 288 = true := by kernel_rfl
theorem fn88 : fnB Tryz.prog 88 = true := by kernel_rfl
theorem pl119 : plV Tryz.prog 119 = some (fun i => [(0, 1), (1, 1)].toArray[i]?, [.sl none 0 0, .sl none 0 0]) := by kernel_rfl
theorem pl96 : plV Tryz.prog 96 = some (fun i => [(0, 1), (1, 1), (2, 1)].toArray[i]?, [T_snap_state.pf (none : Option T_snap_state), .sl none 0 0, .int .i64 (0 : Int)]) := by kernel_rfl
theorem fn69 : fnB Tryz.prog 69 = true := by kernel_rfl
theorem fn68 : fnB Tryz.prog 68 = true := by kernel_rfl
theorem pl41 : plV Tryz.prog 41 = some (fun i => [(0, 1), (1, 1), (2, 1), (3, 1), (4, 1)].toArray[i]?, [.int .i64 (0 : Int), .int .i64 (0 : Int), .int .i64 (0 : Int), .int .i64 (0 : Int), .int .i64 (0 : Int)]) := by kernel_rfl
theorem pl61 : plV Tryz.prog 61 = some (fun i => [(0, 1), (1, 1), (2, 5), (7, 1), (8, 1), (9, 1)].toArray[i]?, [.str (⟨#[]⟩ : ByteArray), .str (⟨#[]⟩ : ByteArray), .int .i64 (0 : Int), .int .i64 (0 : Int), .int .i64 (0 : Int), .int .i64 (0 : Int), .int .i64 (0 : Int), .sl none 0 0, .sl none 0 0, .bool false]) := by kernel_rfl
theorem pl47 : plV Tryz.prog 47 = some (fun i => [(0, 1), (1, 5), (6, 1), (7, 1), (8, 1), (9, 1), (10, 1), (11, 1), (12, 1), (13, 1), (14, 1), (15, 1), (16, 1), (17, 1), (18, 1), (19, 1)].toArray[i]?, [.str (⟨#[]⟩ : ByteArray), .int .i64 (0 : Int), .int .i64 (0 : Int), .int .i64 (0 : Int), .int .i64 (0 : Int), .int .i64 (0 : Int), .sl none 0 0, .sl none 0 0, .sl none 0 0, .sl none 0 0, .sl none 0 0, .sl none 0 0, .bool false, .sl none 0 0, .int .i64 (0 : Int), .int .i64 (0 : Int), .str (⟨#[]⟩ : ByteArray), .bool false, .bool false, .bool false]) := by kernel_rfl
theorem fn77 : fnB Tryz.prog 77 = true := by kernel_rfl
theorem ld50 : ldB Tryz.prog 50 1 false = true := by kernel_rfl
theorem z50 : zV Tryz.prog 50 = some [.int .i64 (0 : Int)] := by kernel_rfl
theorem fn80 : fnB Tryz.prog 80 = true := by kernel_rfl
theorem fn39 : fnB Tryz.prog 39 = true := by kernel_rfl
theorem fn41 : fnB Tryz.prog 41 = true := by kernel_rfl
theorem fn40 : fnB Tryz.prog 40 = true := by kernel_rfl
theorem fn33 : fnB Tryz.prog 33 = true := by kernel_rfl
theorem fn35 : fnB Tryz.prog 35 = true := by kernel_rfl
theorem fn36 : fnB Tryz.prog 36 = true := by kernel_rfl
theorem fn90 : fnB Tryz.prog 90 = true := by kernel_rfl
theorem fn43 : fnB Tryz.prog 43 = true := by kernel_rfl
theorem fn34 : fnB Tryz.prog 34 = true := by kernel_rfl
theorem fn44 : fnB Tryz.prog 44 = true := by kernel_rfl
theorem fn42 : fnB Tryz.prog 42 = true := by kernel_rfl
theorem fn38 : fnB Tryz.prog 38 = true := by kernel_rfl
theorem ld93 : ldB Tryz.prog 93 1 false = true := by kernel_rfl
theorem ld94 : ldB Tryz.prog 94 1 false = true := by kernel_rfl
theorem el94 : elB Tryz.prog 94 93 1 = true := by kernel_rfl
theorem ap94 : apB Tryz.prog 94 93 1 8 = true := by kernel_rfl
theorem ld119 : ldB Tryz.prog 119 2 true = true := by kernel_rfl
theorem fn97 : fnB Tryz.prog 97 = true := by kernel_rfl
theorem fn47 : fnB Tryz.prog 47 = true := by kernel_rfl
theorem fn81 : fnB Tryz.prog 81 = true := by kernel_rfl
theorem z119 : zV Tryz.prog 119 = some [.sl none 0 0, .sl none 0 0] := by kernel_rfl
theorem fn105 : fnB Tryz.prog 105 = true := by kernel_rfl
theorem fn54 : fnB Tryz.prog 54 = true := by kernel_rfl
theorem fn87 : fnB Tryz.prog 87 = true := by kernel_rfl
theorem fn86 : fnB Tryz.prog 86 = true := by kernel_rfl
theorem el55 : elB Tryz.prog 55 47 20 = true := by kernel_rfl
theorem ap55 : apB Tryz.prog 55 47 20 272 = true := by kernel_rfl
theorem fn85 : fnB Tryz.prog 85 = true := by kernel_rfl
theorem fn84 : fnB Tryz.prog 84 = true := by kernel_rfl
theorem pl152 : plV Tryz.prog 152 = some (fun i => [(0, 1), (1, 1), (2, 20)].toArray[i]?, [.sl none 0 0, .sl none 0 0, .str (⟨#[]⟩ : ByteArray), .int .i64 (0 : Int), .int .i64 (0 : Int), .int .i64 (0 : Int), .int .i64 (0 : Int), .int .i64 (0 : Int), .sl none 0 0, .sl none 0 0, .sl none 0 0, .sl none 0 0, .sl none 0 0, .sl none 0 0, .bool false, .sl none 0 0, .int .i64 (0 : Int), .int .i64 (0 : Int), .str (⟨#[]⟩ : ByteArray), .bool false, .bool false, .bool false]) := by kernel_rfl
theorem fn238 : fnB Tryz.prog 238 = true := by kernel_rfl
theorem fn231 : fnB Tryz.prog 231 = true := by kernel_rfl
theorem fn239 : fnB Tryz.prog 239 = true := by kernel_rfl
theorem fn232 : fnB Tryz.prog 232 = true := by kernel_rfl
theorem fn228 : fnB Tryz.prog 228 = true := by kernel_rfl
theorem fn208 : fnB Tryz.prog 208 = true := by kernel_rfl
theorem fn207 : fnB Tryz.prog 207 = true := by kernel_rfl
theorem fn206 : fnB Tryz.prog 206 = true := by kernel_rfl
theorem fn205 : fnB Tryz.prog 205 = true := by kernel_rfl
theorem fn181 : fnB Tryz.prog 181 = true := by kernel_rfl
theorem fn220 : fnB Tryz.prog 220 = true := by kernel_rfl
theorem fn219 : fnB Tryz.prog 219 = true := by kernel_rfl
theorem fn212 : fnB Tryz.prog 212 = true := by kernel_rfl
theorem ld55 : ldB Tryz.prog 55 1 false = true := by kernel_rfl
theorem fn182 : fnB Tryz.prog 182 = true := by kernel_rfl
theorem fn210 : fnB Tryz.prog 210 = true := by kernel_rfl
theorem z41 : zV Tryz.prog 41 = some [.int .i64 (0 : Int), .int .i64 (0 : Int), .int .i64 (0 : Int), .int .i64 (0 : Int), .int .i64 (0 : Int)] := by kernel_rfl
theorem fn229 : fnB Tryz.prog 229 = true := by kernel_rfl
theorem fn209 : fnB Tryz.prog 209 = true := by kernel_rfl
theorem fn183 : fnB Tryz.prog 183 = true := by kernel_rfl
theorem z55 : zV Tryz.prog 55 = some [.sl none 0 0] := by kernel_rfl
theorem fn241 : fnB Tryz.prog 241 = true := by kernel_rfl
theorem fn240 : fnB Tryz.prog 240 = true := by kernel_rfl
theorem fn233 : fnB Tryz.prog 233 = true := by kernel_rfl
theorem fn234 : fnB Tryz.prog 234 = true := by kernel_rfl
theorem fn143 : fnB Tryz.prog 143 = true := by kernel_rfl
theorem fn222 : fnB Tryz.prog 222 = true := by kernel_rfl
theorem fn223 : fnB Tryz.prog 223 = true := by kernel_rfl
theorem fn224 : fnB Tryz.prog 224 = true := by kernel_rfl
theorem fn221 : fnB Tryz.prog 221 = true := by kernel_rfl
theorem fn202 : fnB Tryz.prog 202 = true := by kernel_rfl
theorem fn201 : fnB Tryz.prog 201 = true := by kernel_rfl
theorem fn177 : fnB Tryz.prog 177 = true := by kernel_rfl
theorem pl215 : plV Tryz.prog 215 = some (fun i => [(0, 1)].toArray[i]?, [.nilmap]) := by kernel_rfl
theorem ld215 : ldB Tryz.prog 215 1 true = true := by kernel_rfl
theorem zc9 : (Tryz.prog.info? 9).bind (·.zero) = some (.string ⟨#[]⟩) := by kernel_rfl
theorem fn235 : fnB Tryz.prog 235 = true := by kernel_rfl
theorem fn226 : fnB Tryz.prog 226 = true := by kernel_rfl
theorem z215 : zV Tryz.prog 215 = some [.nilmap] := by kernel_rfl
theorem fn225 : fnB Tryz.prog 225 = true := by kernel_rfl
theorem fn237 : fnB Tryz.prog 237 = true := by kernel_rfl
theorem fn236 : fnB Tryz.prog 236 = true := by kernel_rfl
theorem fn227 : fnB Tryz.prog 227 = true := by kernel_rfl
theorem fn204 : fnB Tryz.prog 204 = true := by kernel_rfl
theorem fn203 : fnB Tryz.prog 203 = true := by kernel_rfl
theorem fn178 : fnB Tryz.prog 178 = true := by kernel_rfl
theorem fn133 : fnB Tryz.prog 133 = true := by kernel_rfl
theorem fn79 : fnB Tryz.prog 79 = true := by kernel_rfl
theorem fn91 : fnB Tryz.prog 91 = true := by kernel_rfl
theorem fn92 : fnB Tryz.prog 92 = true := by kernel_rfl
theorem fn89 : fnB Tryz.prog 89 = true := by kernel_rfl
theorem fn29 : fnB Tryz.prog 29 = true := by kernel_rfl
theorem fn28 : fnB Tryz.prog 28 = true := by kernel_rfl
theorem fn27 : fnB Tryz.prog 27 = true := by kernel_rfl
theorem fn180 : fnB Tryz.prog 180 = true := by kernel_rfl
theorem fn137 : fnB Tryz.prog 137 = true := by kernel_rfl
theorem fn136 : fnB Tryz.prog 136 = true := by kernel_rfl
theorem fn94 : fnB Tryz.prog 94 = true := by kernel_rfl
theorem fn110 : fnB Tryz.prog 110 = true := by kernel_rfl
theorem fn161 : fnB Tryz.prog 161 = true := by kernel_rfl
theorem fn111 : fnB Tryz.prog 111 = true := by kernel_rfl
theorem fn138 : fnB Tryz.prog 138 = true := by kernel_rfl
theorem fn139 : fnB Tryz.prog 139 = true := by kernel_rfl
theorem fn95 : fnB Tryz.prog 95 = true := by kernel_rfl
theorem fn162 : fnB Tryz.prog 162 = true := by kernel_rfl
theorem fn163 : fnB Tryz.prog 163 = true := by kernel_rfl
theorem fn112 : fnB Tryz.prog 112 = true := by kernel_rfl
theorem fn60 : fnB Tryz.prog 60 = true := by kernel_rfl
theorem fn113 : fnB Tryz.prog 113 = true := by kernel_rfl
theorem fn213 : fnB Tryz.prog 213 = true := by kernel_rfl
theorem fn190 : fnB Tryz.prog 190 = true := by kernel_rfl
theorem fn191 : fnB Tryz.prog 191 = true := by kernel_rfl
theorem fn164 : fnB Tryz.prog 164 = true := by kernel_rfl
theorem fn114 : fnB Tryz.prog 114 = true := by kernel_rfl
theorem fn115 : fnB Tryz.prog 115 = true := by kernel_rfl
theorem fn61 : fnB Tryz.prog 61 = true := by kernel_rfl
theorem fn23 : fnB Tryz.prog 23 = true := by kernel_rfl
theorem fn57 : fnB Tryz.prog 57 = true := by kernel_rfl
theorem pl82 : plV Tryz.prog 82 = some (fun i => [(0, 2), (2, 1)].toArray[i]?, [.sl none 0 0, .sl none 0 0, .sl none 0 0]) := by kernel_rfl
theorem pl79 : plV Tryz.prog 79 = some (fun i => [(0, 1), (1, 1)].toArray[i]?, [.sl none 0 0, .sl none 0 0]) := by kernel_rfl
theorem fn22 : fnB Tryz.prog 22 = true := by kernel_rfl
theorem el66 : elB Tryz.prog 66 75 32 = true := by kernel_rfl
theorem ld75 : ldB Tryz.prog 75 32 true = true := by kernel_rfl
theorem fn31 : fnB Tryz.prog 31 = true := by kernel_rfl
theorem fn70 : fnB Tryz.prog 70 = true := by kernel_rfl
theorem fn62 : fnB Tryz.prog 62 = true := by kernel_rfl
theorem fn71 : fnB Tryz.prog 71 = true := by kernel_rfl
theorem fn147 : fnB Tryz.prog 147 = true := by kernel_rfl
theorem fn125 : fnB Tryz.prog 125 = true := by kernel_rfl
theorem fn72 : fnB Tryz.prog 72 = true := by kernel_rfl
theorem fn73 : fnB Tryz.prog 73 = true := by kernel_rfl
theorem ld80 : ldB Tryz.prog 80 1 false = true := by kernel_rfl
theorem el80 : elB Tryz.prog 80 79 2 = true := by kernel_rfl
theorem ld79 : ldB Tryz.prog 79 2 true = true := by kernel_rfl
theorem ap80 : apB Tryz.prog 80 79 2 48 = true := by kernel_rfl
theorem fn74 : fnB Tryz.prog 74 = true := by kernel_rfl
theorem fn75 : fnB Tryz.prog 75 = true := by kernel_rfl
theorem fn76 : fnB Tryz.prog 76 = true := by kernel_rfl
def shp41 : Shp := .st (.cons 0 1 false .int (.cons 1 1 false .int (.cons 2 1 false .int (.cons 3 1 false .int (.cons 4 1 false .int .nil)))))
theorem eq41 : (shB Tryz.prog shp41 41 && noif Tryz.prog 41 && Nat.ble shp41.ht 9998) = true := by kernel_rfl
def shp92 : Shp := .st (.cons 0 1 false .str (.cons 1 1 false .str .nil))
theorem eq92 : (shB Tryz.prog shp92 92 && noif Tryz.prog 92 && Nat.ble shp92.ht 9998) = true := by kernel_rfl
theorem fn107 : fnB Tryz.prog 107 = true := by kernel_rfl
theorem fn108 : fnB Tryz.prog 108 = true := by kernel_rfl
theorem fn58 : fnB Tryz.prog 58 = true := by kernel_rfl
theorem el193 : elB Tryz.prog 193 5 1 = true := by kernel_rfl
theorem ap193 : apB Tryz.prog 193 5 1 1 = true := by kernel_rfl
theorem fn154 : fnB Tryz.prog 154 = true := by kernel_rfl
theorem fn153 : fnB Tryz.prog 153 = true := by kernel_rfl
theorem fn152 : fnB Tryz.prog 152 = true := by kernel_rfl
theorem fn157 : fnB Tryz.prog 157 = true := by kernel_rfl
theorem fn155 : fnB Tryz.prog 155 = true := by kernel_rfl
theorem fn156 : fnB Tryz.prog 156 = true := by kernel_rfl
theorem fn158 : fnB Tryz.prog 158 = true := by kernel_rfl
theorem fn159 : fnB Tryz.prog 159 = true := by kernel_rfl
theorem fn160 : fnB Tryz.prog 160 = true := by kernel_rfl
theorem fn109 : fnB Tryz.prog 109 = true := by kernel_rfl
theorem fn59 : fnB Tryz.prog 59 = true := by kernel_rfl
theorem fn19 : fnB Tryz.prog 19 = true := by kernel_rfl
theorem fn32 : fnB Tryz.prog 32 = true := by kernel_rfl
theorem fn116 : fnB Tryz.prog 116 = true := by kernel_rfl
theorem fn63 : fnB Tryz.prog 63 = true := by kernel_rfl
theorem fn214 : fnB Tryz.prog 214 = true := by kernel_rfl
theorem fn192 : fnB Tryz.prog 192 = true := by kernel_rfl
theorem fn230 : fnB Tryz.prog 230 = true := by kernel_rfl
theorem fn215 : fnB Tryz.prog 215 = true := by kernel_rfl
theorem fn211 : fnB Tryz.prog 211 = true := by kernel_rfl
theorem fn193 : fnB Tryz.prog 193 = true := by kernel_rfl
theorem fn186 : fnB Tryz.prog 186 = true := by kernel_rfl
theorem fn146 : fnB Tryz.prog 146 = true := by kernel_rfl
theorem fn194 : fnB Tryz.prog 194 = true := by kernel_rfl
theorem fn195 : fnB Tryz.prog 195 = true := by kernel_rfl
theorem fn166 : fnB Tryz.prog 166 = true := by kernel_rfl
theorem fn165 : fnB Tryz.prog 165 = true := by kernel_rfl
theorem fn117 : fnB Tryz.prog 117 = true := by kernel_rfl
theorem fn197 : fnB Tryz.prog 197 = true := by kernel_rfl
theorem fn196 : fnB Tryz.prog 196 = true := by kernel_rfl
theorem fn167 : fnB Tryz.prog 167 = true := by kernel_rfl
theorem fn216 : fnB Tryz.prog 216 = true := by kernel_rfl
theorem fn198 : fnB Tryz.prog 198 = true := by kernel_rfl
theorem fn168 : fnB Tryz.prog 168 = true := by kernel_rfl
theorem fn118 : fnB Tryz.prog 118 = true := by kernel_rfl
theorem fn64 : fnB Tryz.prog 64 = true := by kernel_rfl
theorem fn37 : fnB Tryz.prog 37 = true := by kernel_rfl
theorem fn30 : fnB Tryz.prog 30 = true := by kernel_rfl
theorem pl75 : plV Tryz.prog 75 = some (fun i => [(0, 1), (1, 10), (11, 20), (31, 1)].toArray[i]?, [.int .i64 (0 : Int), .str (⟨#[]⟩ : ByteArray), .str (⟨#[]⟩ : ByteArray), .int .i64 (0 : Int), .int .i64 (0 : Int), .int .i64 (0 : Int), .int .i64 (0 : Int), .int .i64 (0 : Int), .sl none 0 0, .sl none 0 0, .bool false, .str (⟨#[]⟩ : ByteArray), .int .i64 (0 : Int), .int .i64 (0 : Int), .int .i64 (0 : Int), .int .i64 (0 : Int), .int .i64 (0 : Int), .sl none 0 0, .sl none 0 0, .sl none 0 0, .sl none 0 0, .sl none 0 0, .sl none 0 0, .bool false, .sl none 0 0, .int .i64 (0 : Int), .int .i64 (0 : Int), .str (⟨#[]⟩ : ByteArray), .bool false, .bool false, .bool false, .str (⟨#[]⟩ : ByteArray)]) := by kernel_rfl
theorem ap97 : apB Tryz.prog 97 50 1 8 = true := by kernel_rfl
theorem el97 : elB Tryz.prog 97 50 1 = true := by kernel_rfl
theorem z75 : zV Tryz.prog 75 = some [.int .i64 (0 : Int), .str (⟨#[]⟩ : ByteArray), .str (⟨#[]⟩ : ByteArray), .int .i64 (0 : Int), .int .i64 (0 : Int), .int .i64 (0 : Int), .int .i64 (0 : Int), .int .i64 (0 : Int), .sl none 0 0, .sl none 0 0, .bool false, .str (⟨#[]⟩ : ByteArray), .int .i64 (0 : Int), .int .i64 (0 : Int), .int .i64 (0 : Int), .int .i64 (0 : Int), .int .i64 (0 : Int), .sl none 0 0, .sl none 0 0, .sl none 0 0, .sl none 0 0, .sl none 0 0, .sl none 0 0, .bool false, .sl none 0 0, .int .i64 (0 : Int), .int .i64 (0 : Int), .str (⟨#[]⟩ : ByteArray), .bool false, .bool false, .bool false, .str (⟨#[]⟩ : ByteArray)] := by kernel_rfl
def tb : Tb := ⟨[(41, 0, 0), (41, 1, 1), (41, 2, 2), (41, 3, 3), (41, 4, 4), (47, 0, 0), (47, 1, 1), (47, 2, 6), (47, 3, 7), (47, 4, 8), (47, 5, 9), (47, 6, 10), (47, 7, 11), (47, 8, 12), (47, 9, 13), (47, 10, 14), (47, 11, 15), (47, 12, 16), (47, 13, 17), (47, 14, 18), (47, 15, 19), (49, 0, 0), (49, 1, 20), (61, 0, 0), (61, 1, 1), (61, 2, 2), (61, 3, 7), (61, 4, 8), (61, 5, 9), (75, 0, 0), (75, 1, 1), (75, 2, 11), (75, 3, 31), (79, 0, 0), (79, 1, 1), (82, 0, 0), (82, 1, 2), (92, 0, 0), (92, 1, 1), (96, 0, 0), (96, 1, 1), (96, 2, 2), (119, 0, 0), (119, 1, 1), (142, 0, 0), (142, 1, 1), (142, 2, 2), (152, 0, 0), (152, 1, 1), (152, 2, 2), (166, 0, 0), (166, 1, 1), (166, 2, 2), (172, 0, 0), (172, 1, 1), (172, 2, 2), (172, 3, 3), (215, 0, 0)], [(3, 1, false), (4, 1, false), (9, 1, false), (22, 1, false), (23, 1, false), (25, 1, false), (41, 5, true), (42, 1, false), (43, 1, false), (44, 1, false), (45, 1, false), (47, 20, true), (49, 21, true), (50, 1, false), (55, 1, false), (59, 1, false), (61, 10, true), (67, 1, false), (75, 32, true), (79, 2, true), (80, 1, false), (92, 2, true), (93, 1, false), (94, 1, false), (119, 2, true), (142, 3, true), (149, 1, false), (166, 3, true), (172, 4, true), (183, 5, true), (212, 1, false), (215, 1, true)]⟩
theorem tbk : tb.ok Tryz.prog = true := by kernel_rfl
theorem Aa : type_of% @VR.ru := @VR.ru
theorem Ab : type_of% @VR.p := @VR.p
theorem Ac : type_of% @VR.nil := @VR.nil
theorem Ad : type_of% @VR.cons := @VR.cons
theorem Ae : type_of% @VW.rr := @VW.rr
theorem Af : type_of% @VW.seq := @VW.seq
theorem Ag : type_of% @Shift.pk := @Shift.pk
theorem Ah : type_of% @VA.one := @VA.one
theorem Ai : type_of% @VW.sr := @VW.sr
theorem Aj : type_of% @VP.move := @VP.move
theorem Ak : type_of% @VP.assign := @VP.assign
theorem Al : type_of% @VB.o := @VB.o
theorem Am : type_of% @VW.skip := @VW.skip
theorem An : type_of% @VO.storeP := @VO.storeP
theorem Ao : type_of% @VW.if_ := @VW.if_
theorem Aq : type_of% @VA.ru := @VA.ru
theorem Au : type_of% @VO.callK := @VO.callK
theorem Av : type_of% @VO.cl := @VO.cl
theorem Aw : type_of% @VP.lenT := @VP.lenT
theorem Ax : type_of% @VA.p := @VA.p
theorem Ay : type_of% @Tryz.underlying22 := @Tryz.underlying22
theorem Az : type_of% @VP.loadP := @VP.loadP
theorem A0 : type_of% @VA.done := @VA.done
theorem A1 : type_of% @VR.consG := @VR.consG
theorem A2 : type_of% @VW.block := @VW.block
theorem A3 : type_of% @VO.alloc := @VO.alloc
theorem A4 : type_of% @VS.run := @VS.run
theorem A5 : type_of% @VO.buildSlice := @VO.buildSlice
theorem A6 : type_of% @Shift.freezeE := @Shift.freezeE
theorem A7 : type_of% @VW.exit := @VW.exit
theorem A8 : type_of% @VP.vo := @VP.vo
theorem A9 : type_of% @Tryz.underlying9 := @Tryz.underlying9
theorem Ba : type_of% @VP.arith := @VP.arith
theorem Bb : type_of% @VR.pG := @VR.pG
theorem Bc : type_of% @VW.r1 := @VW.r1
theorem Be : type_of% @VW.drawK := @VW.drawK
theorem Bf : type_of% @VP.glE := @VP.glE
theorem Bg : type_of% @VO.box := @VO.box
theorem Bh : type_of% @VR.sm := @VR.sm
theorem Bi : type_of% @Shift.mem := @Shift.mem
theorem Bk : type_of% @VP.pickB := @VP.pickB
theorem Bl : type_of% @VR.shift := @VR.shift
theorem Bm : type_of% @VA.all := @VA.all
theorem Bn : type_of% @VW.region := @VW.region
theorem Bo : type_of% @VB.oG := @VB.oG
theorem Bp : type_of% @VP.slice3 := @VP.slice3
theorem Bq : type_of% @Tryz.underlying23 := @Tryz.underlying23
theorem Br : type_of% @VO.appFl := @VO.appFl
theorem Bt : type_of% @VP.loadE := @VP.loadE
theorem Bu : type_of% @Tryz.underlying42 := @Tryz.underlying42
theorem Bv : type_of% @VP.catT := @VP.catT
theorem Bw : type_of% @VW.jo' := @VW.jo'
theorem Bx : type_of% @Shift.nilRow := @Shift.nilRow
theorem Bz : type_of% @VW.shift := @VW.shift
theorem B0 : type_of% @Shift.pick := @Shift.pick
theorem B1 : type_of% @VW.bf := @VW.bf
theorem B2 : type_of% @Tryz.underlying25 := @Tryz.underlying25
theorem B3 : type_of% @VO.cl2 := @VO.cl2
theorem B4 : type_of% @VP.buildP := @VP.buildP
theorem B5 : type_of% @VR.gand := @VR.gand
theorem B6 : type_of% @VP.not := @VP.not
theorem B7 : type_of% @VW.condT := @VW.condT
theorem B8 : type_of% @Tryz.underlying149 := @Tryz.underlying149
theorem B9 : type_of% @Tryz.underlying67 := @Tryz.underlying67
theorem Ca : type_of% @VW.condF := @VW.condF
theorem Cb : type_of% @Tryz.underlying80 := @Tryz.underlying80
theorem Cc : type_of% @Tryz.underlying59 := @Tryz.underlying59
theorem Cd : type_of% @VP.makeFunc := @VP.makeFunc
theorem Ce : type_of% @VA.reord := @VA.reord
theorem Cf : type_of% @VS2.run := @VS2.run
theorem Cg : type_of% @Tryz.underlying5 := @Tryz.underlying5
theorem Ch : type_of% @VO.apT := @VO.apT
theorem Ci : type_of% @VP.lenS := @VP.lenS
theorem Cj : type_of% @VW.lenM := @VW.lenM
theorem Ck : type_of% @VA.shift := @VA.shift
theorem Cl : type_of% @Tryz.underlying43 := @Tryz.underlying43
theorem Cm : type_of% @Tryz.underlying45 := @Tryz.underlying45
theorem Cn : type_of% @VW.js' := @VW.js'
theorem Co : type_of% @Tryz.underlying3 := @Tryz.underlying3
theorem Cp : type_of% @VP.glK := @VP.glK
theorem Cq : type_of% @VP.lenRT := @VP.lenRT
theorem Cr : type_of% @VR.gor := @VR.gor
theorem Cs : type_of% @VA.pG := @VA.pG
theorem Ct : type_of% @Shift.trans := @Shift.trans
theorem Cu : type_of% @Tryz.underlying44 := @Tryz.underlying44
theorem Cv : type_of% @VR.so := @VR.so
theorem Cw : type_of% @VA.sm := @VA.sm
theorem Cx : type_of% @VW.be := @VW.be
theorem Cy : type_of% @Tryz.underlying55 := @Tryz.underlying55
theorem Cz : type_of% @VP.indexA := @VP.indexA
theorem C0 : type_of% @VP.lookup := @VP.lookup
theorem C1 : type_of% @VP.gi := @VP.gi
theorem C2 : type_of% @Tryz.underlying66 := @Tryz.underlying66
theorem C3 : type_of% @Tryz.underlying94 := @Tryz.underlying94
theorem C4 : type_of% @VP.convI := @VP.convI
theorem C5 : type_of% @VW.ret := @VW.ret
theorem C6 : type_of% @VP.fieldP := @VP.fieldP
theorem C7 : type_of% @Tryz.underlying212 := @Tryz.underlying212
theorem C8 : type_of% @Tryz.func80 := @Tryz.func80
theorem C9 : type_of% @VP.loadR := @VP.loadR
theorem Da : type_of% @VO.shift := @VO.shift
theorem Db : type_of% @VR.sa := @VR.sa
theorem Dc : type_of% @VP.isNil := @VP.isNil
theorem Dd : type_of% @VO.sliceRV := @VO.sliceRV
theorem De : type_of% @VO.mapUpdate := @VO.mapUpdate
theorem Df : type_of% @VR.someRow := @VR.someRow
theorem Dg : type_of% @VP.slT := @VP.slT
theorem Dh : type_of% @Tryz.func96 := @Tryz.func96
theorem Di : type_of% @VP.glR := @VP.glR
theorem Dj : type_of% @VO.makeMap := @VO.makeMap
theorem Dk : type_of% @VP.isNot := @VP.isNot
theorem Dl : type_of% @VR.cs := @VR.cs
theorem Dm : type_of% @VW.js := @VW.js
theorem Dn : type_of% @VP.as := @VP.as
theorem Dp : type_of% @Tryz.underlying4 := @Tryz.underlying4
theorem Dq : type_of% @VP.loadA := @VP.loadA
theorem Dr : type_of% @Tryz.func90 := @Tryz.func90
theorem Ds : type_of% @VO.cn := @VO.cn
theorem Dt : type_of% @VP.extract := @VP.extract
theorem Du : type_of% @VO.callN := @VO.callN
theorem Dv : type_of% @VA.sa := @VA.sa
theorem Dw : type_of% @Tryz.func121 := @Tryz.func121
theorem Dx : type_of% @Tryz.func209 := @Tryz.func209
theorem Dy : type_of% @VP.max2 := @VP.max2
theorem Dz : type_of% @VS2.runD := @VS2.runD
theorem D0 : type_of% @VP.eqS := @VP.eqS
end Go.Proofs.YtmpkpnclmihdnaaGreat.M

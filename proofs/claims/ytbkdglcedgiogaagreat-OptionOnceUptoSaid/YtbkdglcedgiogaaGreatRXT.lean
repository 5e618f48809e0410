/-
  Printed by a program of this session out of the loaded functions: models and their proofs. Own text.
-/
import Derived.Test.YtbkdglcedgiogaaGreatVBits
import Derived.Test.YtbkdglcedgiogaaGreatProg
import Derived.KernelRfl
namespace Go.Proofs.YtbkdglcedgiogaaGreat.M
open Go Go.Proofs Go.Proofs.YtbkdglcedgiogaaGreat.V
open Go.IntKind (i64)
set_option linter.unusedVariables false
set_option maxRecDepth 20000
set_option maxHeartbeats 4000000
structure T_api_Res where
  Cpu : Int
  Mem : Int
  Disk : Int
  Pods : Int
  Dev : Int
  deriving DecidableEq
def T_api_Res.cells (x : T_api_Res) : List VV := [.int .i64 x.Cpu, .int .i64 x.Mem, .int .i64 x.Disk, .int .i64 x.Pods, .int .i64 x.Dev]
def T_api_Res.vv (x : T_api_Res) : VV := .agg x.cells

structure T_api_Label where
  Key : ByteArray
  Val : ByteArray
  deriving DecidableEq
def T_api_Label.cells (x : T_api_Label) : List VV := [.str x.Key, .str x.Val]
def T_api_Label.vv (x : T_api_Label) : VV := .agg x.cells

structure T_api_Taint where
  Key : ByteArray
  Val : ByteArray
  Effect : Int
  deriving DecidableEq
def T_api_Taint.cells (x : T_api_Taint) : List VV := [.str x.Key, .str x.Val, .int .i64 x.Effect]
def T_api_Taint.vv (x : T_api_Taint) : VV := .agg x.cells

structure T_api_Machine where
  Name : ByteArray
  Group : ByteArray
  Has : T_api_Res
  Labels : List T_api_Label
  Taints : List T_api_Taint
  Ready : Bool
  deriving DecidableEq
def T_api_Machine.cells (x : T_api_Machine) : List VV := [.str x.Name, .str x.Group, .int .i64 x.Has.Cpu, .int .i64 x.Has.Mem, .int .i64 x.Has.Disk, .int .i64 x.Has.Pods, .int .i64 x.Has.Dev, .list 124 (List.map T_api_Label.vv x.Labels), .list 126 (List.map T_api_Taint.vv x.Taints), .bool x.Ready]
def T_api_Machine.vv (x : T_api_Machine) : VV := .agg x.cells

structure T_api_Term where
  Key : ByteArray
  Op : Int
  Vals : List ByteArray
  deriving DecidableEq
def T_api_Term.cells (x : T_api_Term) : List VV := [.str x.Key, .int .i64 x.Op, .list 9 (List.map VV.str x.Vals)]
def T_api_Term.vv (x : T_api_Term) : VV := .agg x.cells

structure T_api_Toleration where
  Key : ByteArray
  Val : ByteArray
  Any : Bool
  Effect : Int
  deriving DecidableEq
def T_api_Toleration.cells (x : T_api_Toleration) : List VV := [.str x.Key, .str x.Val, .bool x.Any, .int .i64 x.Effect]
def T_api_Toleration.vv (x : T_api_Toleration) : VV := .agg x.cells

structure T_api_Pod where
  Name : ByteArray
  Need : T_api_Res
  Labels : List T_api_Label
  Select : List T_api_Label
  Terms : List T_api_Term
  Bears : List T_api_Toleration
  Ports : List Int
  Apart : List T_api_Label
  Wide : Bool
  Spread : List T_api_Label
  Skew : Int
  Rank : Int
  Owner : ByteArray
  Daemon : Bool
  Pinned : Bool
  Local : Bool
  deriving DecidableEq
def T_api_Pod.cells (x : T_api_Pod) : List VV := [.str x.Name, .int .i64 x.Need.Cpu, .int .i64 x.Need.Mem, .int .i64 x.Need.Disk, .int .i64 x.Need.Pods, .int .i64 x.Need.Dev, .list 124 (List.map T_api_Label.vv x.Labels), .list 124 (List.map T_api_Label.vv x.Select), .list 103 (List.map T_api_Term.vv x.Terms), .list 128 (List.map T_api_Toleration.vv x.Bears), .list 3 (List.map (VV.int .i64) x.Ports), .list 124 (List.map T_api_Label.vv x.Apart), .bool x.Wide, .list 124 (List.map T_api_Label.vv x.Spread), .int .i64 x.Skew, .int .i64 x.Rank, .str x.Owner, .bool x.Daemon, .bool x.Pinned, .bool x.Local]
def T_api_Pod.vv (x : T_api_Pod) : VV := .agg x.cells

structure T_api_Bound where
  Pod : T_api_Pod
  On : ByteArray
  deriving DecidableEq
def T_api_Bound.cells (x : T_api_Bound) : List VV := [.str x.Pod.Name, .int .i64 x.Pod.Need.Cpu, .int .i64 x.Pod.Need.Mem, .int .i64 x.Pod.Need.Disk, .int .i64 x.Pod.Need.Pods, .int .i64 x.Pod.Need.Dev, .list 124 (List.map T_api_Label.vv x.Pod.Labels), .list 124 (List.map T_api_Label.vv x.Pod.Select), .list 103 (List.map T_api_Term.vv x.Pod.Terms), .list 128 (List.map T_api_Toleration.vv x.Pod.Bears), .list 3 (List.map (VV.int .i64) x.Pod.Ports), .list 124 (List.map T_api_Label.vv x.Pod.Apart), .bool x.Pod.Wide, .list 124 (List.map T_api_Label.vv x.Pod.Spread), .int .i64 x.Pod.Skew, .int .i64 x.Pod.Rank, .str x.Pod.Owner, .bool x.Pod.Daemon, .bool x.Pod.Pinned, .bool x.Pod.Local, .str x.On]
def T_api_Bound.vv (x : T_api_Bound) : VV := .agg x.cells

structure T_api_Group where
  Name : ByteArray
  Min : Int
  Max : Int
  Like : T_api_Machine
  Price : Int
  Rank : Int
  deriving DecidableEq
def T_api_Group.cells (x : T_api_Group) : List VV := [.str x.Name, .int .i64 x.Min, .int .i64 x.Max, .str x.Like.Name, .str x.Like.Group, .int .i64 x.Like.Has.Cpu, .int .i64 x.Like.Has.Mem, .int .i64 x.Like.Has.Disk, .int .i64 x.Like.Has.Pods, .int .i64 x.Like.Has.Dev, .list 124 (List.map T_api_Label.vv x.Like.Labels), .list 126 (List.map T_api_Taint.vv x.Like.Taints), .bool x.Like.Ready, .int .i64 x.Price, .int .i64 x.Rank]
def T_api_Group.vv (x : T_api_Group) : VV := .agg x.cells

structure T_law20_Case where
  Ms : List T_api_Machine
  Bs : List T_api_Bound
  L : List T_api_Pod
  G : List T_api_Group
  Rooms : List Int
  deriving DecidableEq
def T_law20_Case.cells (x : T_law20_Case) : List VV := [.list 30 (List.map T_api_Machine.vv x.Ms), .list 50 (List.map T_api_Bound.vv x.Bs), .list 48 (List.map T_api_Pod.vv x.L), .list 81 (List.map T_api_Group.vv x.G), .list 3 (List.map (VV.int .i64) x.Rooms)]
def T_law20_Case.vv (x : T_law20_Case) : VV := .agg x.cells

structure T_api_Option where
  Group : ByteArray
  Count : Int
  Pods : List ByteArray
  Waste : Int
  Price : Int
  Rank : Int
  deriving DecidableEq
def T_api_Option.cells (x : T_api_Option) : List VV := [.str x.Group, .int .i64 x.Count, .list 9 (List.map VV.str x.Pods), .int .i64 x.Waste, .int .i64 x.Price, .int .i64 x.Rank]
def T_api_Option.vv (x : T_api_Option) : VV := .agg x.cells

structure T_api_Move where
  Pod : ByteArray
  To : ByteArray
  deriving DecidableEq
def T_api_Move.cells (x : T_api_Move) : List VV := [.str x.Pod, .str x.To]
def T_api_Move.vv (x : T_api_Move) : VV := .agg x.cells

structure Arr5_Int where
  x0 : Int
  x1 : Int
  x2 : Int
  x3 : Int
  x4 : Int
  deriving DecidableEq
def Arr5_Int.cells (x : Arr5_Int) : List VV := [.int .i64 x.x0, .int .i64 x.x1, .int .i64 x.x2, .int .i64 x.x3, .int .i64 x.x4]
def Arr5_Int.vv (x : Arr5_Int) : VV := .agg x.cells
def Arr5_Int.l (x : Arr5_Int) : List Int := [x.x0, x.x1, x.x2, x.x3, x.x4]
def Arr5_Int.put (x : Arr5_Int) (n : Int) (v : Int) : Option Arr5_Int :=
  if n = 0 then some ⟨v, x.x1, x.x2, x.x3, x.x4⟩ else
  if n = 1 then some ⟨x.x0, v, x.x2, x.x3, x.x4⟩ else
  if n = 2 then some ⟨x.x0, x.x1, v, x.x3, x.x4⟩ else
  if n = 3 then some ⟨x.x0, x.x1, x.x2, v, x.x4⟩ else
  if n = 4 then some ⟨x.x0, x.x1, x.x2, x.x3, v⟩ else
  none
theorem Arr5_Int.put_some {x y : Arr5_Int} {n : Int} {v : Int} (h : Arr5_Int.put x n v = some y) : (0 ≤ n ∧ n < ((Arr5_Int.l x).length : Int)) ∧ y.cells = ((Arr5_Int.l x).set n.toNat v).map (VV.int .i64) := by
  unfold Arr5_Int.put at h
  split at h
  · rename_i hn; subst hn; cases h; exact ⟨⟨by decide, by show (0 : Int) < 5; decide⟩, rfl⟩
  split at h
  · rename_i hn; subst hn; cases h; exact ⟨⟨by decide, by show (1 : Int) < 5; decide⟩, rfl⟩
  split at h
  · rename_i hn; subst hn; cases h; exact ⟨⟨by decide, by show (2 : Int) < 5; decide⟩, rfl⟩
  split at h
  · rename_i hn; subst hn; cases h; exact ⟨⟨by decide, by show (3 : Int) < 5; decide⟩, rfl⟩
  split at h
  · rename_i hn; subst hn; cases h; exact ⟨⟨by decide, by show (4 : Int) < 5; decide⟩, rfl⟩
  cases h

structure T_pack_packer where
  ms : List T_api_Machine
  bs : List T_api_Bound
  like : T_api_Machine
  names : List ByteArray
  limit : Int
  deriving DecidableEq
def T_pack_packer.cells (x : T_pack_packer) : List VV := [.list 30 (List.map T_api_Machine.vv x.ms), .list 50 (List.map T_api_Bound.vv x.bs), .str x.like.Name, .str x.like.Group, .int .i64 x.like.Has.Cpu, .int .i64 x.like.Has.Mem, .int .i64 x.like.Has.Disk, .int .i64 x.like.Has.Pods, .int .i64 x.like.Has.Dev, .list 124 (List.map T_api_Label.vv x.like.Labels), .list 126 (List.map T_api_Taint.vv x.like.Taints), .bool x.like.Ready, .list 9 (List.map VV.str x.names), .int .i64 x.limit]
def T_pack_packer.vv (x : T_pack_packer) : VV := .agg x.cells

structure T_fit_asker where
  ms : List T_api_Machine
  bs : List T_api_Bound
  p : T_api_Pod
  deriving DecidableEq
def T_fit_asker.cells (x : T_fit_asker) : List VV := [.list 30 (List.map T_api_Machine.vv x.ms), .list 50 (List.map T_api_Bound.vv x.bs), .str x.p.Name, .int .i64 x.p.Need.Cpu, .int .i64 x.p.Need.Mem, .int .i64 x.p.Need.Disk, .int .i64 x.p.Need.Pods, .int .i64 x.p.Need.Dev, .list 124 (List.map T_api_Label.vv x.p.Labels), .list 124 (List.map T_api_Label.vv x.p.Select), .list 103 (List.map T_api_Term.vv x.p.Terms), .list 128 (List.map T_api_Toleration.vv x.p.Bears), .list 3 (List.map (VV.int .i64) x.p.Ports), .list 124 (List.map T_api_Label.vv x.p.Apart), .bool x.p.Wide, .list 124 (List.map T_api_Label.vv x.p.Spread), .int .i64 x.p.Skew, .int .i64 x.p.Rank, .str x.p.Owner, .bool x.p.Daemon, .bool x.p.Pinned, .bool x.p.Local]
def T_fit_asker.vv (x : T_fit_asker) : VV := .agg x.cells

structure T_apart_place where
  zones : List (ByteArray × ByteArray)

abbrev L124 (l : List T_api_Label) : VV := .list 124 (List.map T_api_Label.vv l)
abbrev L128 (l : List T_api_Toleration) : VV := .list 128 (List.map T_api_Toleration.vv l)
abbrev L126 (l : List T_api_Taint) : VV := .list 126 (List.map T_api_Taint.vv l)
abbrev L81 (l : List T_api_Group) : VV := .list 81 (List.map T_api_Group.vv l)
abbrev L30 (l : List T_api_Machine) : VV := .list 30 (List.map T_api_Machine.vv l)
abbrev L48 (l : List T_api_Pod) : VV := .list 48 (List.map T_api_Pod.vv l)
abbrev Z50 (ob : Option Nat) (l : List T_api_Bound) (cap : Nat) : VV := .sl ob (List.map T_api_Bound.vv l).length cap
abbrev Q50 (ob : Option Nat) (cap : Nat) (l : List T_api_Bound) : HE := .row ob 50 cap (List.map T_api_Bound.vv l)
abbrev X30 (b : Nat) (x : T_api_Machine) : HE := .box b 30 (T_api_Machine.cells x)
abbrev L50 (l : List T_api_Bound) : VV := .list 50 (List.map T_api_Bound.vv l)
abbrev X103 (b : Nat) (x : T_api_Term) : HE := .box b 103 (T_api_Term.cells x)
abbrev X48 (b : Nat) (x : T_api_Pod) : HE := .box b 48 (T_api_Pod.cells x)
abbrev L103 (l : List T_api_Term) : VV := .list 103 (List.map T_api_Term.vv l)
abbrev Z3 (ob : Option Nat) (l : List Int) (cap : Nat) : VV := .sl ob (List.map (VV.int .i64) l).length cap
abbrev Q3 (ob : Option Nat) (cap : Nat) (l : List Int) : HE := .row ob 3 cap (List.map (VV.int .i64) l)
abbrev L3 (l : List Int) : VV := .list 3 (List.map (VV.int .i64) l)
abbrev L9 (l : List ByteArray) : VV := .list 9 (List.map VV.str l)
abbrev X126 (b : Nat) (x : T_api_Taint) : HE := .box b 126 (T_api_Taint.cells x)
abbrev Z126 (ob : Option Nat) (l : List T_api_Taint) (cap : Nat) : VV := .sl ob (List.map T_api_Taint.vv l).length cap
abbrev Q126 (ob : Option Nat) (cap : Nat) (l : List T_api_Taint) : HE := .row ob 126 cap (List.map T_api_Taint.vv l)
abbrev Z48 (ob : Option Nat) (l : List T_api_Pod) (cap : Nat) : VV := .sl ob (List.map T_api_Pod.vv l).length cap
abbrev Q48 (ob : Option Nat) (cap : Nat) (l : List T_api_Pod) : HE := .row ob 48 cap (List.map T_api_Pod.vv l)
abbrev X152 (b : Nat) (x : Arr5_Int) : HE := .box b 152 (Arr5_Int.cells x)
abbrev X26 (b : Nat) (x : T_api_Res) : HE := .box b 26 (T_api_Res.cells x)
abbrev Z9 (ob : Option Nat) (l : List ByteArray) (cap : Nat) : VV := .sl ob (List.map VV.str l).length cap
abbrev Q9 (ob : Option Nat) (cap : Nat) (l : List ByteArray) : HE := .row ob 9 cap (List.map VV.str l)
abbrev L5 (l : List Int) : VV := .list 5 (List.map (VV.int .u8) l)
abbrev Z53 (ob : Option Nat) (l : List T_api_Move) (cap : Nat) : VV := .sl ob (List.map T_api_Move.vv l).length cap
abbrev Q53 (ob : Option Nat) (cap : Nat) (l : List T_api_Move) : HE := .row ob 53 cap (List.map T_api_Move.vv l)
abbrev X81 (b : Nat) (x : T_api_Group) : HE := .box b 81 (T_api_Group.cells x)
abbrev X83 (b : Nat) (x : T_api_Option) : HE := .box b 83 (T_api_Option.cells x)
abbrev Z83 (ob : Option Nat) (l : List T_api_Option) (cap : Nat) : VV := .sl ob (List.map T_api_Option.vv l).length cap
abbrev Q83 (ob : Option Nat) (cap : Nat) (l : List T_api_Option) : HE := .row ob 83 cap (List.map T_api_Option.vv l)
abbrev L83 (l : List T_api_Option) : VV := .list 83 (List.map T_api_Option.vv l)
abbrev Z30 (ob : Option Nat) (l : List T_api_Machine) (cap : Nat) : VV := .sl ob (List.map T_api_Machine.vv l).length cap
abbrev Q30 (ob : Option Nat) (cap : Nat) (l : List T_api_Machine) : HE := .row ob 30 cap (List.map T_api_Machine.vv l)
abbrev X69 (b : Nat) (x : T_law20_Case) : HE := .box b 69 (T_law20_Case.cells x)
theorem ld22 : ldB Tryz.prog 22 1 false = true := by kernel_rfl
theorem ld23 : ldB Tryz.prog 23 1 false = true := by kernel_rfl
theorem ld24 : ldB Tryz.prog 24 1 false = true := by kernel_rfl
theorem el67 : elB Tryz.prog 67 81 15 = true := by kernel_rfl
theorem ld9 : ldB Tryz.prog 9 1 false = true := by kernel_rfl
theorem ld30 : ldB Tryz.prog 30 10 true = true := by kernel_rfl
theorem fa30_0 : faB Tryz.prog 30 0 0 = true := by kernel_rfl
theorem fa30_3 : faB Tryz.prog 30 3 7 = true := by kernel_rfl
theorem ld27 : ldB Tryz.prog 27 1 false = true := by kernel_rfl
theorem el27 : elB Tryz.prog 27 124 2 = true := by kernel_rfl
theorem fn66 : fnB Tryz.prog 66 = true := by kernel_rfl
theorem fa30_4 : faB Tryz.prog 30 4 8 = true := by kernel_rfl
theorem ld28 : ldB Tryz.prog 28 1 false = true := by kernel_rfl
theorem el46 : elB Tryz.prog 46 128 4 = true := by kernel_rfl
theorem el28 : elB Tryz.prog 28 126 3 = true := by kernel_rfl
theorem fn67 : fnB Tryz.prog 67 = true := by kernel_rfl
theorem fn46 : fnB Tryz.prog 46 = true := by kernel_rfl
theorem ld81 : ldB Tryz.prog 81 15 true = true := by kernel_rfl
theorem fn134 : fnB Tryz.prog 134 = true := by kernel_rfl
theorem mixed : Tryz.prog.follows .mixedOrders = true := by kernel_rfl
theorem fn101 : fnB Tryz.prog 101 = true := by kernel_rfl
theorem fn100 : fnB Tryz.prog 100 = true := by kernel_rfl
theorem ld3 : ldB Tryz.prog 3 1 false = true := by kernel_rfl
theorem fn72 : fnB Tryz.prog 72 = true := by kernel_rfl
theorem fn69 : fnB Tryz.prog 69 = true := by kernel_rfl
theorem fn71 : fnB Tryz.prog 71 = true := by kernel_rfl
theorem ld26 : ldB Tryz.prog 26 5 true = true := by kernel_rfl
theorem fn102 : fnB Tryz.prog 102 = true := by kernel_rfl
theorem fn70 : fnB Tryz.prog 70 = true := by kernel_rfl
theorem fn103 : fnB Tryz.prog 103 = true := by kernel_rfl
theorem fn105 : fnB Tryz.prog 105 = true := by kernel_rfl
theorem fn74 : fnB Tryz.prog 74 = true := by kernel_rfl
theorem fn106 : fnB Tryz.prog 106 = true := by kernel_rfl
theorem fn107 : fnB Tryz.prog 107 = true := by kernel_rfl
theorem fn91 : fnB Tryz.prog 91 = true := by kernel_rfl
theorem fn47 : fnB Tryz.prog 47 = true := by kernel_rfl
theorem fn122 : fnB Tryz.prog 122 = true := by kernel_rfl
theorem fn121 : fnB Tryz.prog 121 = true := by kernel_rfl
theorem fn86 : fnB Tryz.prog 86 = true := by kernel_rfl
theorem fn85 : fnB Tryz.prog 85 = true := by kernel_rfl
theorem pl30 : plV Tryz.prog 30 = some (fun i => [(0, 1), (1, 1), (2, 5), (7, 1), (8, 1), (9, 1)].toArray[i]?, [.str (⟨#[]⟩ : ByteArray), .str (⟨#[]⟩ : ByteArray), .int .i64 (0 : Int), .int .i64 (0 : Int), .int .i64 (0 : Int), .int .i64 (0 : Int), .int .i64 (0 : Int), .sl none 0 0, .sl none 0 0, .bool false]) := by kernel_rfl
theorem el23 : elB Tryz.prog 23 50 21 = true := by kernel_rfl
theorem el24 : elB Tryz.prog 24 48 20 = true := by kernel_rfl
theorem ld48 : ldB Tryz.prog 48 20 true = true := by kernel_rfl
theorem pl50 : plV Tryz.prog 50 = some (fun i => [(0, 20), (20, 1)].toArray[i]?, [.str (⟨#[]⟩ : ByteArray), .int .i64 (0 : Int), .int .i64 (0 : Int), .int .i64 (0 : Int), .int .i64 (0 : Int), .int .i64 (0 : Int), .sl none 0 0, .sl none 0 0, .sl none 0 0, .sl none 0 0, .sl none 0 0, .sl none 0 0, .bool false, .sl none 0 0, .int .i64 (0 : Int), .int .i64 (0 : Int), .str (⟨#[]⟩ : ByteArray), .bool false, .bool false, .bool false, .str (⟨#[]⟩ : ByteArray)]) := by kernel_rfl
theorem ap23 : apB Tryz.prog 23 50 21 288 = true := by kernel_rfl
theorem el22 : elB Tryz.prog 22 30 10 = true := by kernel_rfl
theorem el45 : elB Tryz.prog 45 103 3 = true := by kernel_rfl
theorem ld103 : ldB Tryz.prog 103 3 true = true := by kernel_rfl
theorem ld51 : ldB Tryz.prog 51 1 false = true := by kernel_rfl
theorem el51 : elB Tryz.prog 51 9 1 = true := by kernel_rfl
theorem fn68 : fnB Tryz.prog 68 = true := by kernel_rfl
theorem fn31 : fnB Tryz.prog 31 = true := by kernel_rfl
theorem fn155 : fnB Tryz.prog 155 = true := by kernel_rfl
theorem fn135 : fnB Tryz.prog 135 = true := by kernel_rfl
theorem fn136 : fnB Tryz.prog 136 = true := by kernel_rfl
theorem fn104 : fnB Tryz.prog 104 = true := by kernel_rfl
theorem fn73 : fnB Tryz.prog 73 = true := by kernel_rfl
theorem el41 : elB Tryz.prog 41 3 1 = true := by kernel_rfl
theorem ld128 : ldB Tryz.prog 128 4 true = true := by kernel_rfl
theorem z128 : zV Tryz.prog 128 = some [.str (⟨#[]⟩ : ByteArray), .str (⟨#[]⟩ : ByteArray), .bool false, .int .i64 (0 : Int)] := by kernel_rfl
theorem fn75 : fnB Tryz.prog 75 = true := by kernel_rfl
theorem fn32 : fnB Tryz.prog 32 = true := by kernel_rfl
theorem fn80 : fnB Tryz.prog 80 = true := by kernel_rfl
theorem fn84 : fnB Tryz.prog 84 = true := by kernel_rfl
theorem fn37 : fnB Tryz.prog 37 = true := by kernel_rfl
theorem fn50 : fnB Tryz.prog 50 = true := by kernel_rfl
theorem fn51 : fnB Tryz.prog 51 = true := by kernel_rfl
theorem fn11 : fnB Tryz.prog 11 = true := by kernel_rfl
theorem pl26 : plV Tryz.prog 26 = some (fun i => [(0, 1), (1, 1), (2, 1), (3, 1), (4, 1)].toArray[i]?, [.int .i64 (0 : Int), .int .i64 (0 : Int), .int .i64 (0 : Int), .int .i64 (0 : Int), .int .i64 (0 : Int)]) := by kernel_rfl
theorem pl81 : plV Tryz.prog 81 = some (fun i => [(0, 1), (1, 1), (2, 1), (3, 10), (13, 1), (14, 1)].toArray[i]?, [.str (⟨#[]⟩ : ByteArray), .int .i64 (0 : Int), .int .i64 (0 : Int), .str (⟨#[]⟩ : ByteArray), .str (⟨#[]⟩ : ByteArray), .int .i64 (0 : Int), .int .i64 (0 : Int), .int .i64 (0 : Int), .int .i64 (0 : Int), .int .i64 (0 : Int), .sl none 0 0, .sl none 0 0, .bool false, .int .i64 (0 : Int), .int .i64 (0 : Int)]) := by kernel_rfl
theorem pl48 : plV Tryz.prog 48 = some (fun i => [(0, 1), (1, 5), (6, 1), (7, 1), (8, 1), (9, 1), (10, 1), (11, 1), (12, 1), (13, 1), (14, 1), (15, 1), (16, 1), (17, 1), (18, 1), (19, 1)].toArray[i]?, [.str (⟨#[]⟩ : ByteArray), .int .i64 (0 : Int), .int .i64 (0 : Int), .int .i64 (0 : Int), .int .i64 (0 : Int), .int .i64 (0 : Int), .sl none 0 0, .sl none 0 0, .sl none 0 0, .sl none 0 0, .sl none 0 0, .sl none 0 0, .bool false, .sl none 0 0, .int .i64 (0 : Int), .int .i64 (0 : Int), .str (⟨#[]⟩ : ByteArray), .bool false, .bool false, .bool false]) := by kernel_rfl
theorem z48 : zV Tryz.prog 48 = some [.str (⟨#[]⟩ : ByteArray), .int .i64 (0 : Int), .int .i64 (0 : Int), .int .i64 (0 : Int), .int .i64 (0 : Int), .int .i64 (0 : Int), .sl none 0 0, .sl none 0 0, .sl none 0 0, .sl none 0 0, .sl none 0 0, .sl none 0 0, .bool false, .sl none 0 0, .int .i64 (0 : Int), .int .i64 (0 : Int), .str (⟨#[]⟩ : ByteArray), .bool false, .bool false, .bool false] := by kernel_rfl
theorem pl88 : plV Tryz.prog 88 = some (fun i => [(0, 1), (1, 1), (2, 10), (12, 1), (13, 1)].toArray[i]?, [.sl none 0 0, .sl none 0 0, .str (⟨#[]⟩ : ByteArray), .str (⟨#[]⟩ : ByteArray), .int .i64 (0 : Int), .int .i64 (0 : Int), .int .i64 (0 : Int), .int .i64 (0 : Int), .int .i64 (0 : Int), .sl none 0 0, .sl none 0 0, .bool false, .sl none 0 0, .int .i64 (0 : Int)]) := by kernel_rfl
theorem ap41 : apB Tryz.prog 41 3 1 8 = true := by kernel_rfl
theorem pl152 : plV Tryz.prog 152 = some (fun i => some (i * 1, 1), [.int .i64 (0 : Int), .int .i64 (0 : Int), .int .i64 (0 : Int), .int .i64 (0 : Int), .int .i64 (0 : Int)]) := by kernel_rfl
theorem ld152 : ldB Tryz.prog 152 5 true = true := by kernel_rfl
theorem z152 : zV Tryz.prog 152 = some [.int .i64 (0 : Int), .int .i64 (0 : Int), .int .i64 (0 : Int), .int .i64 (0 : Int), .int .i64 (0 : Int)] := by kernel_rfl
theorem ar152 : arB Tryz.prog 152 3 5 1 = true := by kernel_rfl
theorem fn125 : fnB Tryz.prog 125 = true := by kernel_rfl
theorem fn96 : fnB Tryz.prog 96 = true := by kernel_rfl
theorem fn97 : fnB Tryz.prog 97 = true := by kernel_rfl
theorem fn57 : fnB Tryz.prog 57 = true := by kernel_rfl
theorem fn56 : fnB Tryz.prog 56 = true := by kernel_rfl
theorem fn114 : fnB Tryz.prog 114 = true := by kernel_rfl
theorem fn113 : fnB Tryz.prog 113 = true := by kernel_rfl
theorem pl138 : plV Tryz.prog 138 = some (fun i => [(0, 1), (1, 1), (2, 20)].toArray[i]?, [.sl none 0 0, .sl none 0 0, .str (⟨#[]⟩ : ByteArray), .int .i64 (0 : Int), .int .i64 (0 : Int), .int .i64 (0 : Int), .int .i64 (0 : Int), .int .i64 (0 : Int), .sl none 0 0, .sl none 0 0, .sl none 0 0, .sl none 0 0, .sl none 0 0, .sl none 0 0, .bool false, .sl none 0 0, .int .i64 (0 : Int), .int .i64 (0 : Int), .str (⟨#[]⟩ : ByteArray), .bool false, .bool false, .bool false]) := by kernel_rfl
theorem ld124 : ldB Tryz.prog 124 2 true = true := by kernel_rfl
theorem z124 : zV Tryz.prog 124 = some [.str (⟨#[]⟩ : ByteArray), .str (⟨#[]⟩ : ByteArray)] := by kernel_rfl
theorem fn193 : fnB Tryz.prog 193 = true := by kernel_rfl
theorem fn185 : fnB Tryz.prog 185 = true := by kernel_rfl
theorem fn194 : fnB Tryz.prog 194 = true := by kernel_rfl
theorem fn199 : fnB Tryz.prog 199 = true := by kernel_rfl
theorem fn200 : fnB Tryz.prog 200 = true := by kernel_rfl
theorem fn198 : fnB Tryz.prog 198 = true := by kernel_rfl
theorem fn195 : fnB Tryz.prog 195 = true := by kernel_rfl
theorem fn186 : fnB Tryz.prog 186 = true := by kernel_rfl
theorem z103 : zV Tryz.prog 103 = some [.str (⟨#[]⟩ : ByteArray), .int .i64 (0 : Int), .sl none 0 0] := by kernel_rfl
theorem ld126 : ldB Tryz.prog 126 3 true = true := by kernel_rfl
theorem fn192 : fnB Tryz.prog 192 = true := by kernel_rfl
theorem fn183 : fnB Tryz.prog 183 = true := by kernel_rfl
theorem fn182 : fnB Tryz.prog 182 = true := by kernel_rfl
theorem ap28 : apB Tryz.prog 28 126 3 40 = true := by kernel_rfl
theorem fn181 : fnB Tryz.prog 181 = true := by kernel_rfl
theorem z126 : zV Tryz.prog 126 = some [.str (⟨#[]⟩ : ByteArray), .str (⟨#[]⟩ : ByteArray), .int .i64 (0 : Int)] := by kernel_rfl
theorem fn180 : fnB Tryz.prog 180 = true := by kernel_rfl
theorem fn162 : fnB Tryz.prog 162 = true := by kernel_rfl
theorem fn171 : fnB Tryz.prog 171 = true := by kernel_rfl
theorem fn170 : fnB Tryz.prog 170 = true := by kernel_rfl
theorem fn169 : fnB Tryz.prog 169 = true := by kernel_rfl
theorem ld50 : ldB Tryz.prog 50 21 true = true := by kernel_rfl
theorem z50 : zV Tryz.prog 50 = some [.str (⟨#[]⟩ : ByteArray), .int .i64 (0 : Int), .int .i64 (0 : Int), .int .i64 (0 : Int), .int .i64 (0 : Int), .int .i64 (0 : Int), .sl none 0 0, .sl none 0 0, .sl none 0 0, .sl none 0 0, .sl none 0 0, .sl none 0 0, .bool false, .sl none 0 0, .int .i64 (0 : Int), .int .i64 (0 : Int), .str (⟨#[]⟩ : ByteArray), .bool false, .bool false, .bool false, .str (⟨#[]⟩ : ByteArray)] := by kernel_rfl
theorem ap24 : apB Tryz.prog 24 48 20 272 = true := by kernel_rfl
theorem fn140 : fnB Tryz.prog 140 = true := by kernel_rfl
theorem fn161 : fnB Tryz.prog 161 = true := by kernel_rfl
theorem z26 : zV Tryz.prog 26 = some [.int .i64 (0 : Int), .int .i64 (0 : Int), .int .i64 (0 : Int), .int .i64 (0 : Int), .int .i64 (0 : Int)] := by kernel_rfl
theorem fn179 : fnB Tryz.prog 179 = true := by kernel_rfl
theorem fn160 : fnB Tryz.prog 160 = true := by kernel_rfl
theorem fn141 : fnB Tryz.prog 141 = true := by kernel_rfl
theorem z24 : zV Tryz.prog 24 = some [.sl none 0 0] := by kernel_rfl
theorem fn139 : fnB Tryz.prog 139 = true := by kernel_rfl
theorem fn197 : fnB Tryz.prog 197 = true := by kernel_rfl
theorem fn196 : fnB Tryz.prog 196 = true := by kernel_rfl
theorem fn187 : fnB Tryz.prog 187 = true := by kernel_rfl
theorem fn188 : fnB Tryz.prog 188 = true := by kernel_rfl
theorem fn111 : fnB Tryz.prog 111 = true := by kernel_rfl
theorem fn173 : fnB Tryz.prog 173 = true := by kernel_rfl
theorem fn174 : fnB Tryz.prog 174 = true := by kernel_rfl
theorem fn175 : fnB Tryz.prog 175 = true := by kernel_rfl
theorem fn172 : fnB Tryz.prog 172 = true := by kernel_rfl
theorem fn157 : fnB Tryz.prog 157 = true := by kernel_rfl
theorem fn156 : fnB Tryz.prog 156 = true := by kernel_rfl
theorem fn137 : fnB Tryz.prog 137 = true := by kernel_rfl
theorem fn78 : fnB Tryz.prog 78 = true := by kernel_rfl
theorem mk9 : KeyOk Tryz.prog 9 VV.str Value.string TypeDesc.string := KeyOk.str Tryz.underlying9
theorem z30 : zV Tryz.prog 30 = some [.str (⟨#[]⟩ : ByteArray), .str (⟨#[]⟩ : ByteArray), .int .i64 (0 : Int), .int .i64 (0 : Int), .int .i64 (0 : Int), .int .i64 (0 : Int), .int .i64 (0 : Int), .sl none 0 0, .sl none 0 0, .bool false] := by kernel_rfl
theorem pl185 : plV Tryz.prog 185 = some (fun i => [(0, 1)].toArray[i]?, [.nilmap]) := by kernel_rfl
theorem ld185 : ldB Tryz.prog 185 1 true = true := by kernel_rfl
theorem zc9 : (Tryz.prog.info? 9).bind (·.zero) = some (.string ⟨#[]⟩) := by kernel_rfl
theorem fn189 : fnB Tryz.prog 189 = true := by kernel_rfl
theorem fn177 : fnB Tryz.prog 177 = true := by kernel_rfl
theorem z185 : zV Tryz.prog 185 = some [.nilmap] := by kernel_rfl
theorem fn176 : fnB Tryz.prog 176 = true := by kernel_rfl
theorem zc3 : (Tryz.prog.info? 3).bind (·.zero) = some (.int .i64 0) := by kernel_rfl
theorem ap51 : apB Tryz.prog 51 9 1 16 = true := by kernel_rfl
theorem fn191 : fnB Tryz.prog 191 = true := by kernel_rfl
theorem fn190 : fnB Tryz.prog 190 = true := by kernel_rfl
theorem fn178 : fnB Tryz.prog 178 = true := by kernel_rfl
theorem fn159 : fnB Tryz.prog 159 = true := by kernel_rfl
theorem fn158 : fnB Tryz.prog 158 = true := by kernel_rfl
theorem fn138 : fnB Tryz.prog 138 = true := by kernel_rfl
theorem fn109 : fnB Tryz.prog 109 = true := by kernel_rfl
theorem fn95 : fnB Tryz.prog 95 = true := by kernel_rfl
theorem el122 : elB Tryz.prog 122 5 1 = true := by kernel_rfl
theorem ap122 : apB Tryz.prog 122 5 1 1 = true := by kernel_rfl
theorem fn55 : fnB Tryz.prog 55 = true := by kernel_rfl
theorem ap27 : apB Tryz.prog 27 124 2 32 = true := by kernel_rfl
theorem fn15 : fnB Tryz.prog 15 = true := by kernel_rfl
theorem ap22 : apB Tryz.prog 22 30 10 128 = true := by kernel_rfl
theorem fn54 : fnB Tryz.prog 54 = true := by kernel_rfl
theorem pl53 : plV Tryz.prog 53 = some (fun i => [(0, 1), (1, 1)].toArray[i]?, [.str (⟨#[]⟩ : ByteArray), .str (⟨#[]⟩ : ByteArray)]) := by kernel_rfl
theorem el35 : elB Tryz.prog 35 53 2 = true := by kernel_rfl
theorem ap35 : apB Tryz.prog 35 53 2 32 = true := by kernel_rfl
theorem fn53 : fnB Tryz.prog 53 = true := by kernel_rfl
theorem fn18 : fnB Tryz.prog 18 = true := by kernel_rfl
theorem pl83 : plV Tryz.prog 83 = some (fun i => [(0, 1), (1, 1), (2, 1), (3, 1), (4, 1), (5, 1)].toArray[i]?, [.str (⟨#[]⟩ : ByteArray), .int .i64 (0 : Int), .sl none 0 0, .int .i64 (0 : Int), .int .i64 (0 : Int), .int .i64 (0 : Int)]) := by kernel_rfl
theorem ld83 : ldB Tryz.prog 83 6 true = true := by kernel_rfl
theorem ld53 : ldB Tryz.prog 53 2 true = true := by kernel_rfl
theorem fa53_0 : faB Tryz.prog 53 0 0 = true := by kernel_rfl
theorem z53 : zV Tryz.prog 53 = some [.str (⟨#[]⟩ : ByteArray), .str (⟨#[]⟩ : ByteArray)] := by kernel_rfl
theorem fa83_2 : faB Tryz.prog 83 2 2 = true := by kernel_rfl
theorem fn92 : fnB Tryz.prog 92 = true := by kernel_rfl
theorem fn168 : fnB Tryz.prog 168 = true := by kernel_rfl
theorem fn154 : fnB Tryz.prog 154 = true := by kernel_rfl
theorem fn124 : fnB Tryz.prog 124 = true := by kernel_rfl
theorem fn123 : fnB Tryz.prog 123 = true := by kernel_rfl
theorem fn93 : fnB Tryz.prog 93 = true := by kernel_rfl
theorem fa83_3 : faB Tryz.prog 83 3 3 = true := by kernel_rfl
theorem fn48 : fnB Tryz.prog 48 = true := by kernel_rfl
theorem z83 : zV Tryz.prog 83 = some [.str (⟨#[]⟩ : ByteArray), .int .i64 (0 : Int), .sl none 0 0, .int .i64 (0 : Int), .int .i64 (0 : Int), .int .i64 (0 : Int)] := by kernel_rfl
theorem fn13 : fnB Tryz.prog 13 = true := by kernel_rfl
theorem fn88 : fnB Tryz.prog 88 = true := by kernel_rfl
theorem el72 : elB Tryz.prog 72 83 6 = true := by kernel_rfl
theorem ap72 : apB Tryz.prog 72 83 6 72 = true := by kernel_rfl
theorem z81 : zV Tryz.prog 81 = some [.str (⟨#[]⟩ : ByteArray), .int .i64 (0 : Int), .int .i64 (0 : Int), .str (⟨#[]⟩ : ByteArray), .str (⟨#[]⟩ : ByteArray), .int .i64 (0 : Int), .int .i64 (0 : Int), .int .i64 (0 : Int), .int .i64 (0 : Int), .int .i64 (0 : Int), .sl none 0 0, .sl none 0 0, .bool false, .int .i64 (0 : Int), .int .i64 (0 : Int)] := by kernel_rfl
theorem fa83_4 : faB Tryz.prog 83 4 4 = true := by kernel_rfl
theorem fn89 : fnB Tryz.prog 89 = true := by kernel_rfl
theorem fn41 : fnB Tryz.prog 41 = true := by kernel_rfl
theorem fn43 : fnB Tryz.prog 43 = true := by kernel_rfl
theorem fn44 : fnB Tryz.prog 44 = true := by kernel_rfl
theorem ap67 : apB Tryz.prog 67 81 15 176 = true := by kernel_rfl
theorem fn87 : fnB Tryz.prog 87 = true := by kernel_rfl
theorem fn39 : fnB Tryz.prog 39 = true := by kernel_rfl
theorem fn38 : fnB Tryz.prog 38 = true := by kernel_rfl
theorem fn98 : fnB Tryz.prog 98 = true := by kernel_rfl
theorem fn58 : fnB Tryz.prog 58 = true := by kernel_rfl
theorem fn61 : fnB Tryz.prog 61 = true := by kernel_rfl
theorem fn163 : fnB Tryz.prog 163 = true := by kernel_rfl
theorem fn143 : fnB Tryz.prog 143 = true := by kernel_rfl
theorem fn164 : fnB Tryz.prog 164 = true := by kernel_rfl
theorem fn144 : fnB Tryz.prog 144 = true := by kernel_rfl
theorem fn184 : fnB Tryz.prog 184 = true := by kernel_rfl
theorem fn166 : fnB Tryz.prog 166 = true := by kernel_rfl
theorem fn165 : fnB Tryz.prog 165 = true := by kernel_rfl
theorem fn145 : fnB Tryz.prog 145 = true := by kernel_rfl
theorem fn153 : fnB Tryz.prog 153 = true := by kernel_rfl
theorem fn148 : fnB Tryz.prog 148 = true := by kernel_rfl
theorem fn120 : fnB Tryz.prog 120 = true := by kernel_rfl
theorem fn146 : fnB Tryz.prog 146 = true := by kernel_rfl
theorem fn147 : fnB Tryz.prog 147 = true := by kernel_rfl
theorem fn62 : fnB Tryz.prog 62 = true := by kernel_rfl
theorem fn116 : fnB Tryz.prog 116 = true := by kernel_rfl
theorem fn115 : fnB Tryz.prog 115 = true := by kernel_rfl
theorem fn81 : fnB Tryz.prog 81 = true := by kernel_rfl
theorem fn150 : fnB Tryz.prog 150 = true := by kernel_rfl
theorem fn149 : fnB Tryz.prog 149 = true := by kernel_rfl
theorem fn117 : fnB Tryz.prog 117 = true := by kernel_rfl
theorem fn167 : fnB Tryz.prog 167 = true := by kernel_rfl
theorem fn151 : fnB Tryz.prog 151 = true := by kernel_rfl
theorem fn118 : fnB Tryz.prog 118 = true := by kernel_rfl
theorem fn82 : fnB Tryz.prog 82 = true := by kernel_rfl
theorem fn34 : fnB Tryz.prog 34 = true := by kernel_rfl
theorem fn21 : fnB Tryz.prog 21 = true := by kernel_rfl
theorem fn22 : fnB Tryz.prog 22 = true := by kernel_rfl
theorem fd30_0 : fdB Tryz.prog 30 0 0 1 false = true := by kernel_rfl
theorem fn19 : fnB Tryz.prog 19 = true := by kernel_rfl
theorem fn94 : fnB Tryz.prog 94 = true := by kernel_rfl
theorem fn49 : fnB Tryz.prog 49 = true := by kernel_rfl
theorem fn14 : fnB Tryz.prog 14 = true := by kernel_rfl
theorem fn90 : fnB Tryz.prog 90 = true := by kernel_rfl
theorem fn45 : fnB Tryz.prog 45 = true := by kernel_rfl
theorem fn40 : fnB Tryz.prog 40 = true := by kernel_rfl
theorem fn42 : fnB Tryz.prog 42 = true := by kernel_rfl
def tb : Tb := ⟨[(26, 0, 0), (26, 1, 1), (26, 2, 2), (26, 3, 3), (26, 4, 4), (30, 0, 0), (30, 1, 1), (30, 2, 2), (30, 3, 7), (30, 4, 8), (30, 5, 9), (48, 0, 0), (48, 1, 1), (48, 2, 6), (48, 3, 7), (48, 4, 8), (48, 5, 9), (48, 6, 10), (48, 7, 11), (48, 8, 12), (48, 9, 13), (48, 10, 14), (48, 11, 15), (48, 12, 16), (50, 0, 0), (50, 1, 20), (53, 0, 0), (69, 0, 0), (69, 1, 1), (69, 2, 2), (69, 3, 3), (69, 4, 4), (81, 0, 0), (81, 1, 1), (81, 2, 2), (81, 3, 3), (81, 4, 13), (81, 5, 14), (83, 0, 0), (83, 1, 1), (83, 2, 2), (83, 3, 3), (83, 4, 4), (83, 5, 5), (88, 0, 0), (88, 1, 1), (88, 2, 2), (88, 3, 12), (88, 4, 13), (103, 0, 0), (103, 1, 1), (103, 2, 2), (124, 0, 0), (124, 1, 1), (126, 0, 0), (126, 1, 1), (126, 2, 2), (128, 0, 0), (128, 1, 1), (128, 2, 2), (128, 3, 3), (138, 0, 0), (138, 1, 1), (138, 2, 2), (185, 0, 0)], [(3, 1, false), (4, 1, false), (9, 1, false), (22, 1, false), (23, 1, false), (24, 1, false), (26, 5, true), (27, 1, false), (28, 1, false), (30, 10, true), (41, 1, false), (45, 1, false), (46, 1, false), (48, 20, true), (50, 21, true), (51, 1, false), (53, 2, true), (67, 1, false), (81, 15, true), (83, 6, true), (103, 3, true), (124, 2, true), (126, 3, true), (128, 4, true), (152, 5, true), (182, 1, false), (185, 1, true)]⟩
theorem tbk : tb.ok Tryz.prog = true := by kernel_rfl
theorem Aa : type_of% @VR.ru := @VR.ru
theorem Ab : type_of% @VR.p := @VR.p
theorem Ac : type_of% @VR.nil := @VR.nil
theorem Ad : type_of% @VR.cons := @VR.cons
theorem Ae : type_of% @Shift.pk := @Shift.pk
theorem Af : type_of% @VW.seq := @VW.seq
theorem Ag : type_of% @VW.rr := @VW.rr
theorem Ah : type_of% @VW.sr := @VW.sr
theorem Ai : type_of% @VP.assign := @VP.assign
theorem Aj : type_of% @VW.skip := @VW.skip
theorem Ak : type_of% @VW.if_ := @VW.if_
theorem Al : type_of% @VP.move := @VP.move
theorem Am : type_of% @VO.storeP := @VO.storeP
theorem An : type_of% @VO.cl := @VO.cl
theorem Ao : type_of% @VA.one := @VA.one
theorem Aq : type_of% @VB.o := @VB.o
theorem Au : type_of% @VA.ru := @VA.ru
theorem Av : type_of% @VO.alloc := @VO.alloc
theorem Aw : type_of% @VW.block := @VW.block
theorem Ax : type_of% @VP.lenT := @VP.lenT
theorem Ay : type_of% @Tryz.underlying9 := @Tryz.underlying9
theorem Az : type_of% @Shift.freezeE := @Shift.freezeE
theorem A0 : type_of% @VW.exit := @VW.exit
theorem A1 : type_of% @VW.r1 := @VW.r1
theorem A2 : type_of% @VP.arith := @VP.arith
theorem A3 : type_of% @VP.glE := @VP.glE
theorem A4 : type_of% @VS.run := @VS.run
theorem A5 : type_of% @VA.done := @VA.done
theorem A6 : type_of% @VA.p := @VA.p
theorem A7 : type_of% @VO.buildSlice := @VO.buildSlice
theorem A8 : type_of% @VR.consG := @VR.consG
theorem A9 : type_of% @VO.box := @VO.box
theorem Ba : type_of% @Shift.nilRow := @Shift.nilRow
theorem Bb : type_of% @VW.drawK := @VW.drawK
theorem Bc : type_of% @VR.sm := @VR.sm
theorem Be : type_of% @Shift.trans := @Shift.trans
theorem Bf : type_of% @Tryz.underlying51 := @Tryz.underlying51
theorem Bg : type_of% @VP.pickB := @VP.pickB
theorem Bh : type_of% @VW.bf := @VW.bf
theorem Bi : type_of% @Tryz.underlying5 := @Tryz.underlying5
theorem Bk : type_of% @VW.region := @VW.region
theorem Bl : type_of% @Shift.pick := @Shift.pick
theorem Bm : type_of% @VR.pG := @VR.pG
theorem Bn : type_of% @VP.loadE := @VP.loadE
theorem Bo : type_of% @VP.buildP := @VP.buildP
theorem Bp : type_of% @VR.shift := @VR.shift
theorem Bq : type_of% @VW.jo' := @VW.jo'
theorem Br : type_of% @Tryz.underlying24 := @Tryz.underlying24
theorem Bt : type_of% @Tryz.underlying3 := @Tryz.underlying3
theorem Bu : type_of% @Tryz.underlying27 := @Tryz.underlying27
theorem Bv : type_of% @VR.gand := @VR.gand
theorem Bw : type_of% @Tryz.underlying23 := @Tryz.underlying23
theorem Bx : type_of% @VW.js' := @VW.js'
theorem Bz : type_of% @Tryz.underlying41 := @Tryz.underlying41
theorem B0 : type_of% @VA.all := @VA.all
theorem B1 : type_of% @VO.apT := @VO.apT
theorem B2 : type_of% @Tryz.underlying22 := @Tryz.underlying22
theorem B3 : type_of% @VA.pG := @VA.pG
theorem B4 : type_of% @Tryz.underlying67 := @Tryz.underlying67
theorem B5 : type_of% @VP.lenS := @VP.lenS
theorem B6 : type_of% @VP.convI := @VP.convI
theorem B7 : type_of% @VA.shift := @VA.shift
theorem B8 : type_of% @VW.shift := @VW.shift
theorem B9 : type_of% @VW.condT := @VW.condT
theorem Ca : type_of% @VW.condF := @VW.condF
theorem Cb : type_of% @VR.gor := @VR.gor
theorem Cc : type_of% @VO.cl2 := @VO.cl2
theorem Cd : type_of% @Tryz.underlying147 := @Tryz.underlying147
theorem Ce : type_of% @VW.lenM := @VW.lenM
theorem Cf : type_of% @Tryz.underlying28 := @Tryz.underlying28
theorem Cg : type_of% @VS2.run := @VS2.run
theorem Ch : type_of% @VB.oG := @VB.oG
theorem Ci : type_of% @VA.sm := @VA.sm
theorem Cj : type_of% @VP.glK := @VP.glK
theorem Ck : type_of% @Shift.mem := @Shift.mem
theorem Cl : type_of% @VP.indexA := @VP.indexA
theorem Cm : type_of% @Tryz.underlying148 := @Tryz.underlying148
theorem Cn : type_of% @VP.gi := @VP.gi
theorem Co : type_of% @Shift.reSl := @Shift.reSl
theorem Cp : type_of% @VW.be := @VW.be
theorem Cq : type_of% @VP.not := @VP.not
theorem Cr : type_of% @VP.loadR := @VP.loadR
theorem Cs : type_of% @Tryz.underlying72 := @Tryz.underlying72
theorem Ct : type_of% @Tryz.underlying46 := @Tryz.underlying46
theorem Cu : type_of% @Tryz.underlying45 := @Tryz.underlying45
theorem Cv : type_of% @VR.someRow := @VR.someRow
theorem Cw : type_of% @VP.fieldP := @VP.fieldP
theorem Cx : type_of% @VP.shrT := @VP.shrT
theorem Cy : type_of% @VP.glR := @VP.glR
theorem Cz : type_of% @VW.js := @VW.js
theorem C0 : type_of% @Tryz.underlying182 := @Tryz.underlying182
theorem C1 : type_of% @VP.lookup := @VP.lookup
theorem C2 : type_of% @VP.lenRT := @VP.lenRT
theorem C3 : type_of% @VR.so := @VR.so
theorem C4 : type_of% @VP.quoT := @VP.quoT
theorem C5 : type_of% @VP.catT := @VP.catT
theorem C6 : type_of% @VP.max2 := @VP.max2
theorem C7 : type_of% @VP.convBL := @VP.convBL
theorem C8 : type_of% @VP.min2 := @VP.min2
theorem C9 : type_of% @VP.loadA := @VP.loadA
theorem Da : type_of% @VO.mapUpdate := @VO.mapUpdate
theorem Db : type_of% @VP.makeFunc := @VP.makeFunc
theorem Dc : type_of% @VP.vo := @VP.vo
theorem Dd : type_of% @VP.loadP := @VP.loadP
theorem De : type_of% @VR.sa := @VR.sa
theorem Df : type_of% @VO.makeMap := @VO.makeMap
theorem Dg : type_of% @Tryz.func160 := @Tryz.func160
theorem Dh : type_of% @VP.andT := @VP.andT
theorem Di : type_of% @VA.reord := @VA.reord
theorem Dj : type_of% @VO.callN := @VO.callN
theorem Dk : type_of% @VP.slT := @VP.slT
end Go.Proofs.YtbkdglcedgiogaaGreat.M
